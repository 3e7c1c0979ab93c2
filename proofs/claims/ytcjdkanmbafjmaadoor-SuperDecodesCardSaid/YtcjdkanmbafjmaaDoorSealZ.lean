/- The document's seal, and what it opens: for seats without pages. -/
import Derived.Test.YtcjdkanmbafjmaaDoorBitC
import Derived.Test.YtcjdkanmbafjmaaDoorCrcC
import Derived.Test.YtcjdkanmbafjmaaDoorOctN
namespace Go.Proofs.YtcjdkanmbafjmaaDoor
open Go.RowKit

set_option maxHeartbeats 1000000 in
theorem ref_Seal (s : List UInt8) (n : Int) (w : World) (hs : s.length ≤ 4096) :
    Calls Tryd.prog 35 #[.string ⟨s.toArray⟩, .int .i64 n] w fun e w' => e = .returned (.tuple #[.string ⟨(sealL s n).1.toArray⟩, .int .i64 (sealL s n).2]) ∧ Kept [] w w' := by
  by_cases h1 : n < 4
  · have H : Hid (sealL s n = ([], 1)) := by rw [Hid, sealL, if_pos (.inl h1)]
    go_enter Tryd.func35, Tryd.ntmps35
    go_wp2
    go_ret2
    rw [H.out]
    exact ⟨rfl, Kept.refl _ _⟩
  · by_cases h2 : n > 4096
    · have H : Hid (sealL s n = ([], 1)) := by rw [Hid, sealL, if_pos (.inr h2)]
      go_enter Tryd.func35, Tryd.ntmps35
      go_wp2
      go_ret2
      rw [H.out]
      exact ⟨rfl, Kept.refl _ _⟩
    · have hw : IntKind.i64.wrap (n - 4) = n - 4 := IntWalk.i64_in _ (by omega)
      by_cases h3 : (padL s (n - 4)).2 = 0
      · have H : Hid (sealL s n = ((padL s (n - 4)).1 ++ lowL (sumN (padL s (n - 4)).1) 4, 0)) := by rw [Hid, sealL, if_neg (by omega), if_neg (by simpa using h3)]
        have hpl : (padL s (n - 4)).1.length ≤ 5000 := by
          have h3' := h3
          unfold padL at h3' ⊢
          split at h3'
          · cases h3'
          · rename_i h4
            rw [if_neg h4]
            simp
            omega
        go_enter Tryd.func35, Tryd.ntmps35
        go_wp2_with fail
        refine (ref_Pad s (n - 4) w (by omega)).mono ?_
        rintro e w1 ⟨rfl, rfl⟩
        rw [h3]
        generalize (padL s (n - 4)).1 = p at *
        have happ := app_arr p (lowL (sumN p) 4)
        have hll := lowL_len (sumN p) 4
        go_wp2_with fail
        refine (ref_Sum w p (by omega)).mono ?_
        rintro e w2 ⟨rfl, k2⟩
        have hsl := sumN_lt p
        have hput := putL_sum p
        generalize sumN p = sm at *
        go_wp2_with fail
        refine (ref_Put sm 4 w2 (by omega)).mono ?_
        rintro e w3 ⟨rfl, k3⟩
        rw [hput]
        go_wp2_with fail
        go_ret2
        rw [H.out]
        exact ⟨rfl, k2.trans k3⟩
      · have H : Hid (sealL s n = ([], (padL s (n - 4)).2)) := by rw [Hid, sealL, if_neg (by omega), if_pos h3]
        go_enter Tryd.func35, Tryd.ntmps35
        go_wp2_with fail
        refine (ref_Pad s (n - 4) w (by omega)).mono ?_
        rintro e w1 ⟨rfl, rfl⟩
        go_wp2_with fail
        go_ret2
        rw [H.out]
        exact ⟨rfl, Kept.refl _ _⟩

theorem numN_four (a : List UInt8) (n : Nat) (ha : a.length = 4) (hn : n < 4294967296) : (numN a = n) ↔ lowL n 4 = a := by
  constructor
  · rintro rfl
    have := lowL_numN a
    rwa [ha] at this
  · rintro rfl
    exact numN_lowL 4 n hn

set_option maxHeartbeats 1000000 in
theorem ref_Open (s : List UInt8) (w : World) (hs : s.length ≤ 4096) :
    Calls Tryd.prog 40 #[.string ⟨s.toArray⟩] w fun e w' => e = .returned (.tuple #[.string ⟨(openL s).1.toArray⟩, .int .i64 (openL s).2]) ∧ Kept [] w w' := by
  by_cases h1 : s.length < 4
  · have H : Hid (openL s = ([], 21)) := by rw [Hid, openL, if_pos h1]
    go_enter Tryd.func40, Tryd.ntmps40
    go_wp2
    go_ret2
    rw [H.out]
    exact ⟨rfl, Kept.refl _ _⟩
  · obtain ⟨m, hm⟩ : ∃ m, s.length = m + 4 := ⟨s.length - 4, by omega⟩
    have H : Hid (openL s = if lowL (sumN (s.take m)) 4 = s.drop m then (s.take m, 0) else ([], 31)) := by rw [Hid, openL, if_neg h1, show s.length - 4 = m by omega]
    have x1 : (⟨s.toArray⟩ : ByteArray).extract 0 m = ⟨(s.take m).toArray⟩ := by
      rw [extract_list]; simp
    have x2 : (⟨s.toArray⟩ : ByteArray).extract m (m + 4) = ⟨(s.drop m).toArray⟩ := by
      rw [extract_list]; congr 2; rw [List.take_of_length_le]; simp [hm]
    have hw : IntKind.i64.wrap ((s.length : Int) - 4) = (m : Int) := by rw [IntWalk.i64_in _ (by omega)]; omega
    have hi : (s.length : Int) - 4 = (m : Int) := by omega
    have hi1 : 0 ≤ (m : Int) := by omega
    have hi2 : (m : Int) ≤ (s.length : Int) := by omega
    have ht : (s.take m).length ≤ 4096 := by rw [List.length_take]; omega
    have hq : (s.drop m).length = 4 := by rw [List.length_drop]; omega
    have HQ := Lib.hid hq
    have hq8 : (s.drop m).length ≤ 8 := by omega
    clear hq
    go_enter Tryd.func40, Tryd.ntmps40
    go_wp2_with fail
    generalize s.take m = p at *
    generalize s.drop m = q at *
    refine (ref_Number w q hq8).mono ?_
    rintro e w1 ⟨rfl, rfl⟩
    go_wp2_with fail
    refine (ref_Sum w p (by omega)).mono ?_
    rintro e w2 ⟨rfl, k2⟩
    have hsl := sumN_lt p
    have HI := Lib.hid (numN_four q (sumN p) HQ.out hsl)
    generalize sumN p = sm at *
    by_cases he : lowL sm 4 = q
    · have H2 : Hid (openL s = (p, 0)) := by rw [Hid, H.out, if_pos he]
      have hn : numN q = sm := HI.out.2 he
      clear H he HI
      generalize numN q = n at *
      subst hn
      go_wp2_with fail
      go_ret2
      rw [H2.out]
      exact ⟨rfl, k2⟩
    · have H2 : Hid (openL s = ([], 31)) := by rw [Hid, H.out, if_neg he]
      have hn : ¬ numN q = sm := fun h => he (HI.out.1 h)
      clear H he HI
      generalize numN q = n at *
      go_wp2_with fail
      go_ret2
      rw [H2.out]
      exact ⟨rfl, k2⟩
end Go.Proofs.YtcjdkanmbafjmaaDoor
