/- The pages' laws' own small question; the law PageBack: its walk. -/
import Derived.Test.YtjnehijefdbpjaaDoorPgD
import Derived.Deep.RegionWith
namespace Go.Proofs.YtjnehijefdbpjaaDoor
open Go.RowKit

set_option maxHeartbeats 1000000 in
theorem ref_Same (w : World) (A B : Option Addr) (c d : Nat) (l : List Int) (hA : Rd w w.heap.size 1 A l.length (l.map iv)) (hB : Rd w w.heap.size 1 B l.length (l.map iv)) (hn : l.length ≤ 1000000) :
    Calls Tryd.prog 11 #[.slice A l.length c, .slice B l.length d] w fun e w' => e = .returned (.bool true) ∧ Kept [] w w' := by
  have HS : Hid (∀ k, (hk : k < l.length) → ∃ b o b' o', A = some ⟨b, o, none⟩ ∧ B = some ⟨b', o', none⟩ ∧ w.cell? ⟨b, o + k, none⟩ = some (.int .i64 l[k]) ∧ w.cell? ⟨b', o' + k, none⟩ = some (.int .i64 l[k])) := fun k hk => by
    obtain ⟨b, o, e, hb, hc⟩ := hA.2 (by omega)
    obtain ⟨b', o', e', hb', hc'⟩ := hB.2 (by omega)
    exact ⟨b, o, b', o', e, e', hc k (iv l[k]) (by simp [hk]), hc' k (iv l[k]) (by simp [hk])⟩
  clear hA hB
  go_enter Tryd.func11, Tryd.ntmps11
  go_wp2_with fail
  go_loopw [5] (fun i W => ∃ k : Nat, k ≤ l.length ∧ i = .int .i64 k ∧ Hid (Kept [] w W)) (fun i _ => l.length - (intOf i).toNat)
  case atStart => exact ⟨0, Nat.zero_le _, rfl, Kept.refl _ _⟩
  case round =>
    obtain ⟨k, hk, rfl, HK⟩ := hrel
    by_cases hlt : k < l.length
    · obtain ⟨b, o, b', o', rfl, rfl, hc, hc'⟩ := HS.out k hlt
      have hc1 := HK.out.cell hc (fun h => by cases h)
      have hc2 := HK.out.cell hc' (fun h => by cases h)
      clear hc hc'
      generalize l[k] = x at *
      go_wp2_with fail
      go_quiet (fail)
      go_wp2_with fail
      go_roundw
      case rel => exact ⟨k + 1, by omega, by go_num, HK.out.drewN nq⟩
      case measure => simp [intOf]; omega
    · obtain rfl : k = l.length := by omega
      go_wp2_with fail
      go_ret
      exact ⟨rfl, HK.out⟩


def l13 : List Int := [5, -1, 0, -1, -1, -1, -1, -1, -1, -1, -1, -1, 2147483646]
def s13 : List UInt8 := (encL 7 l13).1
theorem live1 : encL 7 l13 = (s13, 0) := by
  have h : (encL 7 l13).2 = 0 := by decide +kernel
  show ((encL 7 l13).1, (encL 7 l13).2) = _
  rw [h]
  rfl
theorem live2 : decL s13 = (7, l13, 0) := by
  obtain ⟨P, h1, _, h3⟩ := page_one 7 l13 (by decide) (by rw [live1])
  rw [s13, h1]
  exact h3
theorem live3 : s13.length = 64 := by decide +kernel
theorem live4 : s13.take 8 = [7, 0, 0, 0, 6, 0, 0, 0] := by decide +kernel
theorem live5 : encL 7 [1] = ([], 1) := by decide +kernel
theorem rd_cells (w : World) (zs : List Int) (t : TypeId) : Rd (w.alloc (.cells (zs.map iv).toArray t)) (w.alloc (.cells (zs.map iv).toArray t)).heap.size 1 (some ⟨w.heap.size, 0, none⟩) zs.length (zs.map iv) := by
  refine ⟨by simp, fun _ => ⟨_, 0, rfl, (Blk.new w t _).lt, fun j u hu => ?_⟩⟩
  rw [Nat.zero_add, (Blk.new w t _).cell]
  simpa using hu
theorem dec_lt (s : List UInt8) : (decL s).1 < 4294967296 := by
  unfold decL
  repeat' split
  all_goals first | (show (0 : Nat) < 4294967296; omega) | exact Nat.mod_lt _ (by omega)

set_option maxRecDepth 8000 in
set_option maxHeartbeats 1000000 in
theorem page_alive (w : World) : Calls Tryd.prog 6 #[] w fun e w' => e = .returned (.bool true) ∧ Kept [] w w' := by
  obtain ⟨S, hS1, hS2, hS3, hS4⟩ : ∃ S : List UInt8, encL 7 l13 = (S, 0) ∧ decL S = (7, l13, 0) ∧ S.length = 64 ∧ S.take 8 = [7, 0, 0, 0, 6, 0, 0, 0] := ⟨s13, live1, live2, live3, live4⟩
  have H1 := Lib.hid hS1
  have H2 := Lib.hid hS2
  have hx : (⟨S.toArray⟩ : ByteArray).extract 0 8 = ⟨#[7, 0, 0, 0, 6, 0, 0, 0]⟩ := by rw [extract_list2]; simp [hS4]
  have hR13 := rd_cells w l13 23
  have HR := fun t => Lib.hid (rd_cells w l13 t)
  clear hS1 hS2 hS4 hR13
  go_enter Tryd.func6, Tryd.ntmps6
  go_wp2_with fail
  refine (page_Encode _ 7 (some ⟨w.heap.size, 0, none⟩) 13 l13 (HR _).out (by decide)).mono ?_
  rintro e w1 ⟨rfl, k1⟩
  rw [H1.out]
  go_wp2_with fail
  refine (page_Decode w1 S (by omega)).mono ?_
  rintro e w2 ⟨A2, c2, rfl, k2, hR2⟩
  rw [H2.out] at hR2 ⊢
  have HR2 := Lib.hid hR2
  clear hR2
  go_wp2_with fail
  refine (page_Encode _ 7 (some ⟨w2.heap.size, 0, none⟩) 1 [1] (rd_cells w2 [1] _) (by decide)).mono ?_
  rintro e w3 ⟨rfl, k3⟩
  rw [live5]
  go_wp2_with fail
  refine (ref_Same w3 (some ⟨w.heap.size, 0, none⟩) A2 13 c2 l13 (rd_grow (HR _).out ((k1.trans k2).trans (((Kept.refl [] w2).alloc _).trans k3))) (rd_grow HR2.out (((Kept.refl [] w2).alloc _).trans k3)) (by decide)).mono ?_
  rintro e w4 ⟨rfl, k4⟩
  go_wp2_with fail
  go_ret
  exact ⟨rfl, (((((Kept.refl [] w).alloc _).trans k1).trans k2).alloc _).trans (k3.trans k4)⟩
end Go.Proofs.YtjnehijefdbpjaaDoor
