/- The program's sums: what is sealed. -/
import Derived.Test.YtcjdkanmbafjmaaDoorCrcB
namespace Go.Proofs.YtcjdkanmbafjmaaDoor
open Go.RowKit

def sealL (s : List UInt8) (n : Int) : List UInt8 × Int :=
  if n < 4 ∨ n > 4096 then ([], 1) else if (padL s (n - 4)).2 ≠ 0 then ([], (padL s (n - 4)).2) else ((padL s (n - 4)).1 ++ lowL (sumN (padL s (n - 4)).1) 4, 0)
theorem sumN_lt (l : List UInt8) : sumN l < 4294967296 := Nat.xor_lt_two_pow (n := 32) (by omega) (rawN_lt l _ (by omega))
theorem putL_sum (l : List UInt8) : putL (sumN l) 4 = (lowL (sumN l) 4, 0) := by
  have h := sumN_lt l
  have h4 : (4 : Int).toNat = 4 := rfl
  unfold putL
  rw [if_neg (by omega), h4, if_neg (by rw [show 256 ^ 4 = 4294967296 from rfl, Nat.div_eq_of_lt h]; omega)]
theorem app_arr (a b : List UInt8) : (⟨a.toArray⟩ : ByteArray) ++ ⟨b.toArray⟩ = ⟨(a ++ b).toArray⟩ := by
  apply ByteArray.ext
  simp [ByteArray.data_append]
theorem rd_one (w : World) (p : List UInt8) (t : TypeId) : Rd (w.alloc (.cells #[strV p] t)) (w.alloc (.cells #[strV p] t)).heap.size 1 (some ⟨w.heap.size, 0, none⟩) [p].length ([p].map strV) := by
  refine ⟨by simp, fun _ => ⟨_, 0, rfl, (Blk.new w t #[strV p]).lt, fun j u hu => ?_⟩⟩
  rw [Nat.zero_add, (Blk.new w t #[strV p]).cell]
  simpa using hu

set_option maxHeartbeats 1000000 in
theorem crc_Seal (s : List UInt8) (n : Int) (w : World) (hs : s.length ≤ 140737488351232) :
    Calls Tryd.prog 15 #[.string ⟨s.toArray⟩, .int .i64 n] w fun e w' => e = .returned (.tuple #[.string ⟨(sealL s n).1.toArray⟩, .int .i64 (sealL s n).2]) ∧ Kept [] w w' := by
  by_cases h1 : n < 4
  · have H : Hid (sealL s n = ([], 1)) := by rw [Hid, sealL, if_pos (.inl h1)]
    go_enter Tryd.func15, Tryd.ntmps15
    go_wp2
    go_ret2
    rw [H.out]
    exact ⟨rfl, Kept.refl _ _⟩
  · by_cases h2 : n > 4096
    · have H : Hid (sealL s n = ([], 1)) := by rw [Hid, sealL, if_pos (.inr h2)]
      go_enter Tryd.func15, Tryd.ntmps15
      go_wp2
      go_ret2
      rw [H.out]
      exact ⟨rfl, Kept.refl _ _⟩
    · have hw : IntKind.i64.wrap (n - 4) = n - 4 := IntWalk.i64_in _ (by omega)
      by_cases h3 : (padL s (n - 4)).2 = 0
      · have H : Hid (sealL s n = ((padL s (n - 4)).1 ++ lowL (sumN (padL s (n - 4)).1) 4, 0)) := by rw [Hid, sealL, if_neg (by omega), if_neg (by simpa using h3)]
        have hpl : (padL s (n - 4)).1.length ≤ 5000 := by
          have h3' := h3
          unfold padL at h3' ⊢
          split at h3'
          · cases h3'
          · rename_i h4
            rw [if_neg h4]
            simp
            omega
        go_enter Tryd.func15, Tryd.ntmps15
        go_wp2_with fail
        refine (oct_Pad s (n - 4) w hs).mono ?_
        rintro e w1 ⟨rfl, k1⟩
        rw [h3]
        generalize (padL s (n - 4)).1 = p at *
        have happ := app_arr p (lowL (sumN p) 4)
        have hll := lowL_len (sumN p) 4
        go_wp2_with fail
        refine (crc_Sum (w1.alloc (.cells #[strV p] 9)) _ _ 1 [p] (rd_one w1 p _) (Nat.le_refl _) (by simp) (by simp; omega)).mono ?_
        rintro e w2 ⟨rfl, k2⟩
        rw [show [p].flatten = p by simp]
        have hsl := sumN_lt p
        have hput := putL_sum p
        generalize sumN p = sm at *
        go_wp2_with fail
        refine (oct_Put sm 4 w2 (by omega)).mono ?_
        rintro e w3 ⟨rfl, k3⟩
        rw [hput]
        go_wp2_with fail
        go_ret2
        rw [H.out]
        exact ⟨rfl, ((k1.alloc _).trans k2).trans k3⟩
      · have H : Hid (sealL s n = ([], (padL s (n - 4)).2)) := by rw [Hid, sealL, if_neg (by omega), if_pos h3]
        go_enter Tryd.func15, Tryd.ntmps15
        go_wp2_with fail
        refine (oct_Pad s (n - 4) w hs).mono ?_
        rintro e w1 ⟨rfl, k1⟩
        go_wp2_with fail
        go_ret2
        rw [H.out]
        exact ⟨rfl, k1⟩

theorem extract_list (l : List UInt8) (a b : Nat) : (⟨l.toArray⟩ : ByteArray).extract a b = ⟨((l.drop a).take (b - a)).toArray⟩ := by
  apply ByteArray.ext
  rw [ByteArray.data_extract]
  simp [List.extract_eq_take_drop]

def openL (s : List UInt8) : List UInt8 × Int :=
  if s.length < 4 then ([], 21) else if lowL (sumN (s.take (s.length - 4))) 4 = s.drop (s.length - 4) then (s.take (s.length - 4), 0) else ([], 31)

set_option maxHeartbeats 1000000 in
theorem crc_Open (s : List UInt8) (w : World) (hs : s.length ≤ 140737488351232) :
    Calls Tryd.prog 21 #[.string ⟨s.toArray⟩] w fun e w' => e = .returned (.tuple #[.string ⟨(openL s).1.toArray⟩, .int .i64 (openL s).2]) ∧ Kept [] w w' := by
  by_cases h1 : s.length < 4
  · have H : Hid (openL s = ([], 21)) := by rw [Hid, openL, if_pos h1]
    go_enter Tryd.func21, Tryd.ntmps21
    go_wp2
    go_ret2
    rw [H.out]
    exact ⟨rfl, Kept.refl _ _⟩
  · obtain ⟨m, hm⟩ : ∃ m, s.length = m + 4 := ⟨s.length - 4, by omega⟩
    have H : Hid (openL s = if lowL (sumN (s.take m)) 4 = s.drop m then (s.take m, 0) else ([], 31)) := by rw [Hid, openL, if_neg h1, show s.length - 4 = m by omega]
    have x1 : (⟨s.toArray⟩ : ByteArray).extract 0 m = ⟨(s.take m).toArray⟩ := by
      rw [extract_list]; simp
    have x2 : (⟨s.toArray⟩ : ByteArray).extract m (m + 4) = ⟨(s.drop m).toArray⟩ := by
      rw [extract_list]; congr 2; rw [List.take_of_length_le]; simp [hm]
    have hw : IntKind.i64.wrap ((s.length : Int) - 4) = (m : Int) := by rw [IntWalk.i64_in _ (by omega)]; omega
    have hi : (s.length : Int) - 4 = (m : Int) := by omega
    have hi1 : 0 ≤ (m : Int) := by omega
    have hi2 : (m : Int) ≤ (s.length : Int) := by omega
    have ht : (s.take m).length ≤ 140737488351232 := by rw [List.length_take]; omega
    go_enter Tryd.func21, Tryd.ntmps21
    go_wp2_with fail
    go_quiet (fail)
    generalize s.take m = p at *
    generalize s.drop m = q at *
    go_wp2_with fail
    refine (crc_Sum ((w.drewN nq).alloc (.cells #[strV p] 9)) _ _ 1 [p] (rd_one (w.drewN nq) p _) (Nat.le_refl _) (by simp) (by simp; omega)).mono ?_
    rintro e w2 ⟨rfl, k2⟩
    rw [show [p].flatten = p by simp]
    have hsl := sumN_lt p
    have hput := putL_sum p
    generalize sumN p = sm at *
    go_wp2_with fail
    refine (oct_Put sm 4 w2 (by omega)).mono ?_
    rintro e w3 ⟨rfl, k3⟩
    rw [hput]
    have hk : Kept [] w w3 := ((((Kept.refl [] w).drewN nq).alloc _).trans k2).trans k3
    by_cases he : lowL sm 4 = q
    · have H2 : Hid (openL s = (p, 0)) := by rw [Hid, H.out, if_pos he]
      go_wp2_with fail
      go_ret2
      rw [H2.out]
      exact ⟨rfl, hk⟩
    · have H2 : Hid (openL s = ([], 31)) := by rw [Hid, H.out, if_neg he]
      have hne : (lowL sm 4 == q) = false := by rw [beq_eq_false_iff_ne]; exact he
      go_wp2_with fail
      go_ret2
      rw [H2.out]
      exact ⟨rfl, hk⟩
end Go.Proofs.YtcjdkanmbafjmaaDoor
