/- The law PageBack: its walk. -/
import Derived.Test.YtjnehijefdbpjaaDoorPgE
import Derived.Deep.RegionWith
namespace Go.Proofs.YtjnehijefdbpjaaDoor
open Go.RowKit

theorem conv_one (w : World) (y : UInt8) : (convert 34 9 (.slice (some ⟨w.heap.size, 0, none⟩) 1 1)).run Tryd.prog (w.alloc (.cells #[.int .u8 (y.toNat : Int)] 5)).drew = .ok (.string ⟨#[y]⟩) (w.alloc (.cells #[.int .u8 (y.toNat : Int)] 5)).drew := by
  have hrd : Rd (w.alloc (.cells #[bv y] 5)).drew (w.alloc (.cells #[bv y] 5)).heap.size 1 (some ⟨w.heap.size, 0, none⟩) 1 ([y].map bv) := by
    refine ⟨by simp, fun _ => ⟨_, 0, rfl, (Blk.new w _ #[bv y]).lt, fun j u hu => ?_⟩⟩
    show (w.alloc (.cells #[bv y] 5)).cell? _ = _
    rw [Nat.zero_add, (Blk.new w _ #[bv y]).cell]
    simpa using hu
  exact conv_bytes (P := Tryd.prog) (c := 1) 34 5 Tryd.underlying34 Tryd.underlying5 hrd (fun _ => .inr ⟨_, _, rfl⟩) 9 Tryd.underlying9
theorem xor_ne (b : UInt8) : b ^^^ 4 ≠ b := by
  intro h
  have h2 := congrArg UInt8.toNat h
  rw [UInt8.toNat_xor] at h2
  have h3 : b.toNat ^^^ (4 : UInt8).toNat ^^^ b.toNat = b.toNat ^^^ b.toNat := by rw [h2]
  rw [Nat.xor_comm b.toNat, Nat.xor_assoc, Nat.xor_self, Nat.xor_zero] at h3
  exact absurd h3 (by decide)
theorem dec_turned (P : List UInt8) (h60 : P.length = 60) (b : UInt8) (hb : (P ++ lowL (sumN P) 4)[9]? = some b) :
    decL ((P ++ lowL (sumN P) 4).take 9 ++ (b ^^^ 4) :: (P ++ lowL (sumN P) 4).drop 10) = (0, [], 31) := by
  have hl : (P ++ lowL (sumN P) 4).length = 64 := by simp [h60, lowL_len]
  have hne : (P ++ lowL (sumN P) 4).take 9 ++ (b ^^^ 4) :: (P ++ lowL (sumN P) 4).drop (9 + 1) ≠ P ++ lowL (sumN P) 4 := by
    intro h
    have h2 := congrArg (fun l => l[9]?) h
    simp only [hb] at h2
    rw [List.getElem?_append_right (by rw [List.length_take, hl]; decide)] at h2
    have hm : 9 - ((P ++ lowL (sumN P) 4).take 9).length = 0 := by rw [List.length_take, hl]; decide
    rw [hm] at h2
    exact xor_ne b (by simpa using h2)
  have ho := open_turned P 9 (b ^^^ 4) (by omega) hne
  unfold decL
  rw [if_neg (by simp [hl]), ho, if_pos (by decide)]

set_option maxRecDepth 8000 in
set_option maxHeartbeats 2000000 in
theorem back_run (w : World) (gen : Nat) (A : Option Addr) (c : Nat) (l : List Int) (s : List UInt8) (hA : Rd w w.heap.size 1 A l.length (l.map iv)) (hg : gen < 4294967296) (hs : s.length ≤ 140737488351232) :
    Calls Tryd.prog 5 #[.int .u32 (gen : Int), .slice A l.length c, .string ⟨s.toArray⟩] w fun e w' => e = .returned (.bool true) ∧ Kept [] w w' := by
  by_cases h1 : 30 < l.length
  · go_enter Tryd.func5, Tryd.ntmps5
    go_wp2_with (go_at_call 6; refine (page_alive _).mono ?_; rintro e w2 ⟨rfl, k2⟩)
    go_ret
    exact ⟨rfl, k2⟩
  · by_cases h2 : 200 < s.length
    · go_enter Tryd.func5, Tryd.ntmps5
      go_wp2_with (go_at_call 6; refine (page_alive _).mono ?_; rintro e w2 ⟨rfl, k2⟩)
      go_ret
      exact ⟨rfl, k2⟩
    · have HA := Lib.hid hA
      have hll : l.length ≤ 1000 := by omega
      clear hA
      by_cases hq : (encL gen l).2 = 0
      · obtain ⟨P, hx, hP60, hdec⟩ := page_one gen l hg hq
        have HT := Lib.hid (dec_turned P hP60)
        have hXl : (P ++ lowL (sumN P) 4).length = 64 := by simp [hP60, lowL_len]
        have Hx := Lib.hid hx
        have Hdec := Lib.hid hdec
        clear hx hdec hP60
        generalize P ++ lowL (sumN P) 4 = X at *
        obtain ⟨b, hb⟩ : ∃ b, X[9]? = some b := ⟨X[9], List.getElem?_eq_getElem (by omega)⟩
        have HTb := Lib.hid (HT.out b hb)
        have hb9 : X[9]'(by omega) = b := (List.getElem?_eq_some_iff.1 hb).2
        have HXl := Lib.hid hXl
        clear HT hb
        go_enter Tryd.func5, Tryd.ntmps5
        go_wp2_with fail
        refine (page_Encode w gen A c l HA.out hg).mono ?_
        rintro e w1 ⟨rfl, k1⟩
        rw [hq, Hx.out]
        clear hq Hx
        go_wp2_with fail
        refine (page_Decode w1 X (by omega)).mono ?_
        rintro e w2 ⟨A2, c2, rfl, k2, hR2⟩
        rw [Hdec.out] at hR2 ⊢
        have HR2 := Lib.hid hR2
        clear hR2 Hdec
        have y1 : (⟨X.toArray⟩ : ByteArray).extract 0 9 = ⟨(X.take 9).toArray⟩ := by rw [extract_list2]; simp
        have y2 : (⟨X.toArray⟩ : ByteArray).extract 10 64 = ⟨(X.drop 10).toArray⟩ := by rw [extract_list2, List.take_of_length_le]; simp [hXl]
        have y3 : (⟨X.toArray⟩ : ByteArray)[9]'(by show 9 < X.length; omega) = b := hb9
        have y4 : bits .xor .u8 (b.toNat : Int) 4 = (((b ^^^ 4).toNat : Nat) : Int) := by
          have := u8_xor_nat b.toNat 4 (UInt8.toNat_lt _) (by omega)
          rw [UInt8.toNat_xor]
          exact this
        have hcv := conv_one
        have lA : (X.take 9).length ≤ 64 := by simp; omega
        have lB : (X.drop 10).length ≤ 64 := by simp [hXl]
        have hTl : (X.take 9 ++ (b ^^^ 4) :: X.drop 10).length ≤ 140737488351232 := by simp [hXl]
        clear hb9
        generalize X.take 9 = U at *
        generalize X.drop 10 = V at *
        generalize b ^^^ 4 = b4 at *
        have z1 : (⟨U.toArray⟩ : ByteArray) ++ ⟨#[b4]⟩ = ⟨(U ++ [b4]).toArray⟩ := app_arr2 U [b4]
        have z2 : (⟨(U ++ [b4]).toArray⟩ : ByteArray) ++ ⟨V.toArray⟩ = ⟨(U ++ b4 :: V).toArray⟩ := by rw [app_arr2]; simp
        go_wp2_with fail
        go_region_with (fail)
        go_wp2_with fail
        have hkT := Lib.hid ((Kept.refl [] w2).alloc (.cells #[.int .u8 (b4.toNat : Int)] 5)).drew
        refine (page_Decode _ (U ++ b4 :: V) hTl).mono ?_
        rintro e w3 ⟨A3, c3, rfl, k3, hR3⟩
        rw [HTb.out]
        clear hR3 HTb z1 z2 y1 y2 y3 y4 hcv
        have hk23 := Lib.hid (hkT.out.trans k3)
        go_wp2_with fail
        refine (ref_Same w3 A A2 c c2 l (rd_grow HA.out ((k1.trans k2).trans hk23.out)) (rd_grow HR2.out hk23.out) (by omega)).mono ?_
        rintro e w4 ⟨rfl, k4⟩
        have hk14 := Lib.hid (((k1.trans k2).trans hk23.out).trans k4)
        clear hkT hk23 k1 k2 k3 k4
        go_wp2_with fail
        refine (page_Decode w4 s hs).mono ?_
        rintro e wd ⟨Ad, cd, rfl, kd, Rd4⟩
        have hgl := dec_lt s
        have HR4 := Lib.hid Rd4
        clear Rd4
        go_wp2_with fail
        refine (page_Encode wd (decL s).1 Ad cd (decL s).2.1 HR4.out hgl).mono ?_
        rintro e we ⟨rfl, ke⟩
        have HB := Lib.hid (page_two s)
        clear HR4
        by_cases hf : (decL s).2.2 = 0
        · have hb := (HB.out hf).1
          rw [hb, hf]
          clear HB hb hf
          go_wp2_with fail
          refine (page_alive we).mono ?_
          rintro e wf ⟨rfl, kf⟩
          go_wp2_with fail
          go_ret
          exact ⟨rfl, ((hk14.out.trans kd).trans ke).trans kf⟩
        · clear HB
          generalize (encL (decL s).1 (decL s).2.1).1 = y at *
          generalize (encL (decL s).1 (decL s).2.1).2 = g at *
          generalize (decL s).2.2 = q at *
          go_wp2_with fail
          refine (page_alive we).mono ?_
          rintro e wf ⟨rfl, kf⟩
          go_wp2_with fail
          go_ret
          exact ⟨rfl, ((hk14.out.trans kd).trans ke).trans kf⟩
      · go_enter Tryd.func5, Tryd.ntmps5
        go_wp2_with fail
        refine (page_Encode w gen A c l HA.out hg).mono ?_
        rintro e w1 ⟨rfl, k1⟩
        generalize (encL gen l).1 = x at *
        generalize (encL gen l).2 = q1 at *
        go_wp2_with fail
        refine (page_Decode w1 s hs).mono ?_
        rintro e wd ⟨Ad, cd, rfl, kd, Rd4⟩
        have hgl := dec_lt s
        have HR4 := Lib.hid Rd4
        clear Rd4
        go_wp2_with fail
        refine (page_Encode wd (decL s).1 Ad cd (decL s).2.1 HR4.out hgl).mono ?_
        rintro e we ⟨rfl, ke⟩
        have HB := Lib.hid (page_two s)
        clear HR4
        by_cases hf : (decL s).2.2 = 0
        · have hb := (HB.out hf).1
          rw [hb, hf]
          clear HB hb hf
          go_wp2_with fail
          refine (page_alive we).mono ?_
          rintro e wf ⟨rfl, kf⟩
          go_wp2_with fail
          go_ret
          exact ⟨rfl, ((k1.trans kd).trans ke).trans kf⟩
        · clear HB
          generalize (encL (decL s).1 (decL s).2.1).1 = y at *
          generalize (encL (decL s).1 (decL s).2.1).2 = g at *
          generalize (decL s).2.2 = q at *
          go_wp2_with fail
          refine (page_alive we).mono ?_
          rintro e wf ⟨rfl, kf⟩
          go_wp2_with fail
          go_ret
          exact ⟨rfl, ((k1.trans kd).trans ke).trans kf⟩
end Go.Proofs.YtjnehijefdbpjaaDoor
