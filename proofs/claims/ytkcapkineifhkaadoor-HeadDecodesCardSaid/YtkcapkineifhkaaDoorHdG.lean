/- A store's head: the document's way of reading a sector is the program's: plain law. -/
import Derived.Test.YtkcapkineifhkaaDoorHdA
namespace Go.Proofs.YtkcapkineifhkaaDoor

theorem all_zero (l : List UInt8) (h : l.all (· == 0) = true) : l = List.replicate l.length 0 := by
  rw [List.eq_replicate_iff]
  refine ⟨rfl, fun b hb => ?_⟩
  have := List.all_eq_true.1 h b hb
  simpa using this
theorem open_64 (s : List UInt8) (hl : s.length = 64) (h : (openL s).2 = 0) : openL s = (s.take 60, 0) ∧ s = s.take 60 ++ lowL (sumN (s.take 60)) 4 := by
  have e2 : openL s = if lowL (sumN (s.take 60)) 4 = s.drop 60 then (s.take 60, 0) else ([], 31) := by
    rw [openL, if_neg (by omega), hl]
  rw [e2] at h ⊢
  split at h
  · rename_i h5
    rw [if_pos h5]
    exact ⟨rfl, by rw [h5, List.take_append_drop]⟩
  · exact absurd h (by decide)
theorem got_11 (C : List UInt8) (h : 11 ≤ C.length) : ∃ a b c d, getL C zsH = ([a, b, c, d], C.drop 11, 0) ∧ a < 4294967296 ∧ b < 65536 ∧ c < 4294967296 ∧ d < 256 := by
  have hb : ∀ (o z : Nat), numN ((C.drop o).take z) < 256 ^ z := fun o z =>
    Nat.lt_of_lt_of_le (numN_lt _) (Nat.pow_le_pow_right (by omega) (by simp; omega))
  refine ⟨numN ((C.drop 0).take 4), numN ((C.drop 4).take 2), numN ((C.drop 6).take 4), numN ((C.drop 10).take 1), ?_, hb 0 4, hb 4 2, hb 6 4, hb 10 1⟩
  rw [getL, if_neg (by rw [zsH_good]; simp)]
  show (if 11 ≤ C.length then _ else _) = _
  rw [if_pos h]
  rfl
/-- what stands behind a right head's numbers says the same as that it is encoded so -/
theorem head_bytes (s : List UInt8) (hl : s.length = 64) (ho : (openL s).2 = 0) (ht : (openL s).1.take 4 = lettersH) (m : List Nat) (r : List UInt8) (hm : getL ((openL s).1.drop 4) zsH = (m, r, 0)) (hz : r.all (· == 0) = true) :
    encH (ofNums m) = (s, 0) ↔ (rightH (ofNums m) = true ∧ m[3]?.getD 0 ≤ 1) := by
  obtain ⟨e1, e2⟩ := open_64 s hl ho
  have hB : (s.take 60).length = 60 := by simp; omega
  rw [e1] at ht hm
  simp only at ht hm
  generalize s.take 60 = B at *
  obtain ⟨a, b, c, d, hg, ha, hb, hc, hd⟩ := got_11 (B.drop 4) (by simp; omega)
  rw [hm] at hg
  injection hg with hg1 hg2
  injection hg2 with hg2 _
  subst hg1
  have hgen : (ofNums [a, b, c, d]).gen < 4294967296 := Nat.mod_lt _ (by omega)
  constructor
  · intro h
    obtain ⟨P, h1, h2, _, hr⟩ := head_one (ofNums [a, b, c, d]) hgen (by rw [h])
    refine ⟨hr, ?_⟩
    obtain ⟨hj, hjl⟩ := joinH _ hgen hr
    have e0 : encH (ofNums [a, b, c, d]) = sealL (lettersH ++ (joinL zsH (numsH (ofNums [a, b, c, d]))).1) 64 := by rw [encH, if_pos hr]
    have hl15 : (lettersH ++ (joinL zsH (numsH (ofNums [a, b, c, d]))).1).length = 15 := by rw [List.length_append, hjl]; rfl
    rw [seal_short _ (by omega), hl15, h] at e0
    have e3 := congrArg Prod.fst e0
    simp only at e3
    have e4 : B = lettersH ++ (joinL zsH (numsH (ofNums [a, b, c, d]))).1 ++ List.replicate (60 - 15) 0 := by
      have h5 := congrArg (List.take 60) (e2.symm.trans e3)
      rw [List.take_left' hB, List.take_left' (by rw [List.length_append, hl15]; simp)] at h5
      exact h5
    have hb1 := back_one zsH (numsH (ofNums [a, b, c, d])) (List.replicate (60 - 15) 0) hj
    have e5 : B.drop 4 = (joinL zsH (numsH (ofNums [a, b, c, d]))).1 ++ List.replicate (60 - 15) 0 := by
      rw [e4, List.append_assoc]
      exact List.drop_left' rfl
    rw [← e5, hm] at hb1
    injection hb1 with hb1 _
    rw [hb1]
    show (if (ofNums [a, b, c, d]).inv then 1 else 0 : Nat) ≤ 1
    split <;> omega
  · rintro ⟨hr, hd1⟩
    have hd1 : d ≤ 1 := hd1
    have hn : numsH (ofNums [a, b, c, d]) = [a, b, c, d] := by
      show [a % 4294967296, ((b : Nat) : Int).toNat, ((c : Nat) : Int).toNat, if d == 1 then 1 else 0] = _
      rw [Nat.mod_eq_of_lt ha, Int.toNat_natCast, Int.toNat_natCast]
      congr
      rcases (show d = 0 ∨ d = 1 by omega) with rfl | rfl <;> rfl
    obtain ⟨hj, hjl⟩ := joinH _ hgen hr
    have e0 : encH (ofNums [a, b, c, d]) = sealL (lettersH ++ (joinL zsH (numsH (ofNums [a, b, c, d]))).1) 64 := by rw [encH, if_pos hr]
    rw [hn] at e0 hjl
    have hl15 : (lettersH ++ (joinL zsH [a, b, c, d]).1).length = 15 := by rw [List.length_append, hjl]; rfl
    rw [seal_short _ (by omega), hl15] at e0
    obtain ⟨_, hb2⟩ := back_two (B.drop 4) zsH (by rw [hm])
    rw [hm] at hb2
    simp only at hb2
    have hrl : r.length = 45 := by rw [hg2]; simp; omega
    rw [all_zero r hz, hrl] at hb2
    have e4 : lettersH ++ (joinL zsH [a, b, c, d]).1 ++ List.replicate (60 - 15) 0 = B := by
      rw [List.append_assoc, hb2, ← ht, List.take_append_drop]
    rw [e4] at e0
    rw [e0, ← e2]
/-- what the document reads of a sector -/
def docH (s : List UInt8) : Hd × Int :=
  if s.length ≠ 64 then (zeroH, 21) else if (openL s).2 ≠ 0 then (zeroH, (openL s).2) else
  if (openL s).1.take 4 ≠ lettersH then (zeroH, 22) else
  if (getL ((openL s).1.drop 4) zsH).2.1.all (· == 0) = false then (zeroH, 32) else
  if rightH (ofNums (getL ((openL s).1.drop 4) zsH).1) = true ∧ (getL ((openL s).1.drop 4) zsH).1[3]?.getD 0 ≤ 1 then (ofNums (getL ((openL s).1.drop 4) zsH).1, 0) else (zeroH, 32)
theorem docH_decH (s : List UInt8) : docH s = decH s := by
  by_cases c1 : s.length ≠ 64
  · rw [docH, decH, if_pos c1, if_pos c1]
  · by_cases c2 : (openL s).2 ≠ 0
    · rw [docH, decH, if_neg c1, if_neg c1, if_pos c2, if_pos c2]
    · by_cases c3 : (openL s).1.take 4 ≠ lettersH
      · rw [docH, decH, if_neg c1, if_neg c1, if_neg c2, if_neg c2, if_pos c3, if_pos c3]
      · have d1 : s.length = 64 := by omega
        have d2 : (openL s).2 = 0 := by omega
        have d3 : (openL s).1.take 4 = lettersH := by
          rcases decEq ((openL s).1.take 4) lettersH with h | h
          · exact absurd h c3
          · exact h
        have hB : (openL s).1.length = 60 := by rw [(open_64 s d1 d2).1]; simp; omega
        obtain ⟨a, b, c, d, hg, _⟩ := got_11 ((openL s).1.drop 4) (by simp; omega)
        rw [docH, decH, if_neg c1, if_neg c1, if_neg c2, if_neg c2, if_neg c3, if_neg c3]
        by_cases hz : (((openL s).1.drop 4).drop 11).all (· == 0) = true
        · have hi := head_bytes s d1 d2 d3 _ _ hg hz
          rw [hg]
          simp only
          have n1 : ¬ ((((openL s).1.drop 4).drop 11).all (· == 0) = false) := by rw [hz]; simp
          have n2 : ¬ ((0 : Int) ≠ 0 ∨ (((openL s).1.drop 4).drop 11).all (· == 0) = false) := by rw [hz]; simp
          rw [if_neg n1, if_neg n2]
          by_cases h5 : encH (ofNums [a, b, c, d]) = (s, 0)
          · rw [if_pos h5, if_pos (hi.1 h5)]
          · rw [if_neg h5, if_neg (fun h => h5 (hi.2 h))]
        · have hz : (((openL s).1.drop 4).drop 11).all (· == 0) = false := by simpa using hz
          rw [hg]
          simp only
          rw [if_pos hz, if_pos (.inr hz)]
end Go.Proofs.YtkcapkineifhkaaDoor
