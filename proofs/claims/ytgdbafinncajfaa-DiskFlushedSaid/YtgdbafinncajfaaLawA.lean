/- The laws' own small functions: alive, Fits. -/
import Derived.Test.YtgdbafinncajfaaRefD
import Derived.Test.YtgdbafinncajfaaDiskK
namespace Go.Proofs.Ytgdbafinncajfaa
open Go.RowKit

def aS : List UInt8 := (loadS [97] 1).flatten
def bS : List UInt8 := (loadS [98] 1).flatten
def bbS : List UInt8 := bS ++ bS
def al0 : D := ⟨List.replicate 3 zsec, [], -1, false⟩
def al1 : D := (al0.write 1 aS).2
def al2 : D := al1.flush.2
def al3 : D := { al2 with fuse := max 1 (-1) }
def al4 : D := (al3.write 1 bbS).2
def al5 : D := al4.restart [false]
def alR : List UInt8 := (al5.read 1 2).1
theorem al_w1 : (al0.write 1 aS).1 = 0 := by decide +kernel
theorem al_f : al1.flush.1 = 0 := by decide +kernel
theorem al_w2 : (al3.write 1 bbS).1 = 41 := by decide +kernel
theorem al_p : al4.ps.length = 1 := by decide +kernel
theorem al_d : al4.dead = true := by decide +kernel
theorem al_r0 : al4.read 0 1 = ([], 41) := by decide +kernel
theorem al_r1 : (al5.read 1 2).2 = 0 := by decide +kernel
theorem al_rl : alR.length = 128 := by decide +kernel
theorem al_ra : alR[0]? = some 97 := by decide +kernel
theorem al_rb : alR[64]? = some 0 := by decide +kernel
theorem al_s : al5.ss.length = 3 := by decide +kernel
theorem aS_len : aS.length = 64 := by decide +kernel
theorem bbS_len : bbS.length = 128 := by decide +kernel
theorem al1_p : al1.ps.length = 1 := by decide +kernel
theorem al3_p : al3.ps.length = 0 := by decide +kernel

set_option maxRecDepth 8000 in
set_option maxHeartbeats 2000000 in
theorem alive_true (w : World) : Calls Try.prog 18 #[] w fun e w' => e = .returned (.bool true) ∧ Kept [] w w' := by
  go_enter Try.func18, Try.ntmps18
  go_wp2_with fail
  refine (disk_New_yes 3 w (by decide)).mono ?_
  rintro e w1 ⟨g, F, rfl, hP, k1, hF⟩
  rw [show (⟨List.replicate 3 zsec, [], -1, false⟩ : D) = al0 from rfl] at hP
  go_wp2_with fail
  refine (ref_Load [97] 1 w1 rfl (by decide)).mono ?_
  rintro e w2 ⟨ga, Fa, rfl, hA, k2, _⟩
  go_wp2_with fail
  refine (ref_Bytes w2 ga Fa _ hA).mono ?_
  rintro e w2 ⟨rfl, rfl⟩
  rw [show str (⟨loadS [97] 1, [], -1, false⟩ : D).ss.flatten = .string ⟨aS.toArray⟩ from rfl]
  go_wp2_with fail
  refine (ref_Load [98] 1 w2 rfl (by decide)).mono ?_
  rintro e w3 ⟨gb, Fb, rfl, hB, k3, _⟩
  go_wp2_with fail
  refine (ref_Bytes w3 gb Fb _ hB).mono ?_
  rintro e w3 ⟨rfl, rfl⟩
  rw [show str (⟨loadS [98] 1, [], -1, false⟩ : D).ss.flatten = .string ⟨bS.toArray⟩ from rfl]
  clear hA hB
  have hP3 := (hP.kept k2 (fun _ _ h => by cases h)).kept k3 (fun _ _ h => by cases h)
  have k13 : Kept [] w w3 := (k1.trans k2).trans k3
  clear hP k2 k3 k1
  go_wp2_with fail
  refine (disk_Write w3 g F al0 hP3 1 aS (by rw [aS_len]; decide) (by decide)).mono ?_
  rintro e w4 ⟨rfl, ⟨F1, hP4, hF1⟩, k4⟩
  rw [al_w1]
  have hFa : ∀ x ∈ F1, w.heap.size ≤ x := fun x hx => by rcases hF1 x hx with h | h; exact hF x h; have := k13.size; omega
  have k14 : Kept [] w w4 := k13.trans' k4 (fun x hx => .inr (hF x hx))
  clear hF1 k4 k13 hP3
  go_wp2_with fail
  refine (disk_Flush w4 g F1 al1 hP4).mono ?_
  rintro e w5 ⟨rfl, ⟨F2, hP5, hF2⟩, k5⟩
  rw [al_f]
  have hFb : ∀ x ∈ F2, w.heap.size ≤ x := fun x hx => hFa x (hF2 x hx)
  have k15 : Kept [] w w5 := k14.trans' k5 (fun x hx => .inr (hFa x hx))
  clear hF2 k5 k14 hP4 hFa hF
  go_wp2_with fail
  refine (disk_Fail w5 g F2 al2 hP5 1 (by decide) (by decide)).mono ?_
  rintro e w6 ⟨rfl, hP6, k6⟩
  rw [show ({ al2 with fuse := max 1 (-1) } : D) = al3 from rfl] at hP6
  have k16 : Kept [] w w6 := k15.trans' k6 (fun x hx => .inr (hFb x (by simp at hx; subst hx; exact hP5.mem_self)))
  clear k6 k15 hP5
  have happ : (⟨bS.toArray⟩ : ByteArray) ++ ⟨bS.toArray⟩ = ⟨bbS.toArray⟩ := app_arr bS bS
  have hbl : bS.length ≤ 64 := by decide +kernel
  go_wp2_with fail
  refine (disk_Write w6 g F2 al3 hP6 1 bbS (by rw [bbS_len]; decide) (by rw [al3_p]; decide)).mono ?_
  rintro e w7 ⟨rfl, ⟨F3, hP7, hF3⟩, k7⟩
  rw [al_w2]
  have hFc : ∀ x ∈ F3, w.heap.size ≤ x := fun x hx => by rcases hF3 x hx with h | h; exact hFb x h; have := k16.size; omega
  have k17 : Kept [] w w7 := k16.trans' k7 (fun x hx => .inr (hFb x hx))
  clear hF3 k7 k16 hP6 hFb happ hbl
  go_wp2_with fail
  refine (disk_Pending w7 g F3 al4 hP7).mono ?_
  rintro e w' ⟨rfl, rfl⟩
  rw [al_p]
  go_wp2_with fail
  refine (disk_Dead w7 g F3 al4 hP7).mono ?_
  rintro e w' ⟨rfl, rfl⟩
  rw [al_d]
  go_wp2_with fail
  refine (disk_Read w7 g F3 al4 hP7 0 1).mono ?_
  rintro e w8 ⟨rfl, k8⟩
  rw [al_r0]
  have hP8 := hP7.kept k8 (fun _ _ h => by cases h)
  have k18 : Kept [] w w8 := k17.trans k8
  clear k8 k17 hP7
  go_wp2_with fail
  have hb9 := Blk.new w8 4 #[.bool false]
  have hnF : w8.heap.size ∉ F3 := fun hx => Nat.lt_irrefl _ (hP8.lt _ hx)
  have k19 : Kept [] w (w8.alloc (.cells #[.bool false] 4)) := k18.alloc _
  have hP9 := hP8.kept ((Kept.refl [] w8).alloc (.cells #[.bool false] 4)) (fun _ _ h => by cases h)
  have hlt9 : w8.heap.size < (w8.alloc (.cells #[.bool false] 4)).heap.size := hb9.lt
  refine (disk_Restart _ g F3 al4 hP9 (some ⟨w8.heap.size, 0, none⟩) 1 [false] (by decide) (fun i hi => by
    have hi0 : i = 0 := by simpa using hi
    subst hi0
    exact ⟨_, _, rfl, hlt9, hnF, by rw [hb9.cell]; rfl⟩)).mono ?_
  rintro e w10 ⟨rfl, ⟨F4, hP10, hF4⟩, k10⟩
  have k110 : Kept [] w w10 := k19.trans' k10 (fun x hx => .inr (hFc x hx))
  clear hF4 k10 k19 hP9 hP8 hb9 hnF hFc k18 hlt9
  go_wp2_with fail
  refine (disk_Read w10 g F4 al5 hP10 1 2).mono ?_
  rintro e w11 ⟨rfl, k11⟩
  rw [al_r1, show (al5.read 1 2).1 = alR from rfl]
  have hP11 := hP10.kept k11 (fun _ _ h => by cases h)
  have k111 : Kept [] w w11 := k110.trans k11
  clear k11 k110 hP10
  have e1 : alR.length = 128 := al_rl
  have e2 : alR[0]? = some 97 := al_ra
  have e3 : alR[64]? = some 0 := al_rb
  generalize alR = R at e1 e2 e3 ⊢
  have e4 : (⟨R.toArray⟩ : ByteArray).size = 128 := e1
  have e5 : (⟨R.toArray⟩ : ByteArray)[0]'(by rw [e4]; decide) = 97 := by
    have h := List.getElem?_eq_some_iff.1 e2
    exact h.2
  have e6 : (⟨R.toArray⟩ : ByteArray)[64]'(by rw [e4]; decide) = 0 := by
    have h := List.getElem?_eq_some_iff.1 e3
    exact h.2
  have a3 := al_s
  clear e1 e2 e3
  rw [show al4.restart [false] = al5 from rfl] at hP11
  generalize al5 = D5 at a3 hP11
  have cS := disk_Sectors w11 g F4 D5 hP11
  rw [a3] at cS
  clear a3
  go_wp2_with (go_at_call 25; refine cS.mono ?_; rintro e w' ⟨rfl, rfl⟩)
  go_ret
  exact ⟨rfl, k111⟩
end Go.Proofs.Ytgdbafinncajfaa
