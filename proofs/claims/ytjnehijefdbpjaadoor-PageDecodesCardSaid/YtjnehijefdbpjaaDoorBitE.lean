/- What the document reads of a sector; the law PageDecodes: its walk. -/
import Derived.Test.YtjnehijefdbpjaaDoorBitD
namespace Go.Proofs.YtjnehijefdbpjaaDoor
open Go.RowKit

theorem numN_four (a : List UInt8) (n : Nat) (ha : a.length = 4) (hn : n < 4294967296) : (numN a = n) ↔ lowL n 4 = a := by
  constructor
  · rintro rfl
    have := lowL_numN a
    rwa [ha] at this
  · rintro rfl
    exact numN_lowL 4 n hn

set_option maxHeartbeats 1000000 in
theorem ref_Open (s : List UInt8) (w : World) (hs : s.length ≤ 4096) :
    Calls Tryd.prog 20 #[.string ⟨s.toArray⟩] w fun e w' => e = .returned (.tuple #[.string ⟨(openL s).1.toArray⟩, .int .i64 (openL s).2]) ∧ Kept [] w w' := by
  by_cases h1 : s.length < 4
  · have H : Hid (openL s = ([], 21)) := by rw [Hid, openL, if_pos h1]
    go_enter Tryd.func20, Tryd.ntmps20
    go_wp2
    go_ret2
    rw [H.out]
    exact ⟨rfl, Kept.refl _ _⟩
  · obtain ⟨m, hm⟩ : ∃ m, s.length = m + 4 := ⟨s.length - 4, by omega⟩
    have H : Hid (openL s = if lowL (sumN (s.take m)) 4 = s.drop m then (s.take m, 0) else ([], 31)) := by rw [Hid, openL, if_neg h1, show s.length - 4 = m by omega]
    have x1 : (⟨s.toArray⟩ : ByteArray).extract 0 m = ⟨(s.take m).toArray⟩ := by
      rw [extract_list]; simp
    have x2 : (⟨s.toArray⟩ : ByteArray).extract m (m + 4) = ⟨(s.drop m).toArray⟩ := by
      rw [extract_list]; congr 2; rw [List.take_of_length_le]; simp [hm]
    have hw : IntKind.i64.wrap ((s.length : Int) - 4) = (m : Int) := by rw [IntWalk.i64_in _ (by omega)]; omega
    have hi : (s.length : Int) - 4 = (m : Int) := by omega
    have hi1 : 0 ≤ (m : Int) := by omega
    have hi2 : (m : Int) ≤ (s.length : Int) := by omega
    have ht : (s.take m).length ≤ 4096 := by rw [List.length_take]; omega
    have hq : (s.drop m).length = 4 := by rw [List.length_drop]; omega
    have HQ := Lib.hid hq
    have hq8 : (s.drop m).length ≤ 8 := by omega
    clear hq
    go_enter Tryd.func20, Tryd.ntmps20
    go_wp2_with fail
    generalize s.take m = p at *
    generalize s.drop m = q at *
    refine (ref_Number w q hq8).mono ?_
    rintro e w1 ⟨rfl, rfl⟩
    go_wp2_with fail
    refine (ref_Sum w p (by omega)).mono ?_
    rintro e w2 ⟨rfl, k2⟩
    have hsl := sumN_lt p
    have HI := Lib.hid (numN_four q (sumN p) HQ.out hsl)
    generalize sumN p = sm at *
    by_cases he : lowL sm 4 = q
    · have H2 : Hid (openL s = (p, 0)) := by rw [Hid, H.out, if_pos he]
      have hn : numN q = sm := HI.out.2 he
      clear H he HI
      generalize numN q = n at *
      subst hn
      go_wp2_with fail
      go_ret2
      rw [H2.out]
      exact ⟨rfl, k2⟩
    · have H2 : Hid (openL s = ([], 31)) := by rw [Hid, H.out, if_neg he]
      have hn : ¬ numN q = sm := fun h => he (HI.out.1 h)
      clear H he HI
      generalize numN q = n at *
      go_wp2_with fail
      go_ret2
      rw [H2.out]
      exact ⟨rfl, k2⟩
theorem got_form (B : List UInt8) (h : B.length = 60) : getL B fours = (numsK B (natZ fours) 14, B.drop 56, 0) := by
  rw [getL, if_neg (by rw [fours_good]; simp)]
  show (if offN (natZ fours) 14 ≤ B.length then (numsK B (natZ fours) 14, B.drop (offN (natZ fours) 14), (0 : Int)) else ([], [], 21)) = _
  rw [fours_off, if_pos (by omega)]
theorem off_fours : ∀ k < 15, offN (natZ fours) k = 4 * k := by decide +kernel
/-- the k-th number but one -/
theorem nums_tail (B : List UInt8) (k : Nat) (h : k < 13) : (numsK B (natZ fours) 14).tail[k]? = some (numN ((B.drop (4 + 4 * k)).take 4)) := by
  have hz : (natZ fours)[k + 1]?.getD 0 = 4 := by
    rw [natZ, List.getElem?_map, fours_at (k + 1) (by omega)]
    rfl
  rw [List.getElem?_tail, numsK, List.getElem?_map, List.getElem?_range (by omega)]
  simp only [Option.map_some]
  rw [hz, off_fours (k + 1) (by omega), show 4 * (k + 1) = 4 + 4 * k by omega]
theorem nums_head (B : List UInt8) : (numsK B (natZ fours) 14).head?.getD 0 = numN (B.take 4) := by
  rfl
end Go.Proofs.YtjnehijefdbpjaaDoor
