/- A superblock: what its sector is, and what is read of one: plain law. -/
import Derived.Test.YtcjdkanmbafjmaaDoorOctN
import Derived.Test.YtcjdkanmbafjmaaDoorCrcG
namespace Go.Proofs.YtcjdkanmbafjmaaDoor

structure Su where
  sec : Int
  org : Int
  chk : Int
  deriving DecidableEq
def rightS (h : Su) : Bool := (decide (1 ≤ h.org) && decide (h.org ≤ 1048576)) && (decide (1 ≤ h.chk) && decide (h.chk ≤ 128)) && decide (h.sec ≤ 1048576) && decide (h.org + 17 ≤ h.sec)
def zsS : List Int := [4, 4, 4]
def numsS (h : Su) : List Nat := [h.sec.toNat, h.org.toNat, h.chk.toNat]
def lettersS : List UInt8 := [79, 65, 75, 49]
def encS (h : Su) : List UInt8 × Int := if rightS h = true then sealL (lettersS ++ (joinL zsS (numsS h)).1) 64 else ([], 1)
def zeroS : Su := ⟨0, 0, 0⟩
def ofS (m : List Nat) : Su := ⟨(m[0]?.getD 0 : Nat), (m[1]?.getD 0 : Nat), (m[2]?.getD 0 : Nat)⟩
def decS (s : List UInt8) : Su × Int :=
  if s.length ≠ 64 then (zeroS, 21) else if (openL s).2 ≠ 0 then (zeroS, (openL s).2) else
  if (openL s).1.take 4 ≠ lettersS then (zeroS, 22) else
  if (getL ((openL s).1.drop 4) zsS).2.2 ≠ 0 ∨ (getL ((openL s).1.drop 4) zsS).2.1.all (· == 0) = false then (zeroS, 32) else
  if rightS (ofS (getL ((openL s).1.drop 4) zsS).1) = true then (ofS (getL ((openL s).1.drop 4) zsS).1, 0) else (zeroS, 32)

theorem zsS_good : badB zsS = false := by decide +kernel
theorem rightS_iff (h : Su) : rightS h = true ↔ (1 ≤ h.org ∧ h.org ≤ 1048576) ∧ (1 ≤ h.chk ∧ h.chk ≤ 128) ∧ h.sec ≤ 1048576 ∧ h.org + 17 ≤ h.sec := by
  simp [rightS, and_assoc]
theorem joinS (h : Su) (hr : rightS h = true) : (joinL zsS (numsS h)).2 = 0 ∧ (joinL zsS (numsS h)).1.length = 12 := by
  have hr' := (rightS_iff h).1 hr
  have hp : ∀ (n : Nat) (z : Nat), z ≤ 8 → n < 256 ^ z → putL n (z : Int) = (lowL n z, 0) := fun n z hz hn => by
    unfold putL
    rw [if_neg (by omega), Int.toNat_natCast, if_neg (by rw [Nat.div_eq_of_lt hn]; omega)]
  have p0 : putAt zsS (numsS h) 0 = (lowL h.sec.toNat 4, 0) := hp h.sec.toNat 4 (by omega) (by show h.sec.toNat < 4294967296; omega)
  have p1 : putAt zsS (numsS h) 1 = (lowL h.org.toNat 4, 0) := hp h.org.toNat 4 (by omega) (by show h.org.toNat < 4294967296; omega)
  have p2 : putAt zsS (numsS h) 2 = (lowL h.chk.toNat 4, 0) := hp h.chk.toNat 4 (by omega) (by show h.chk.toNat < 4294967296; omega)
  have hy := join_yes zsS (numsS h) rfl zsS_good (fun j hj => by
    have hj : j < 3 := hj
    rcases (show j = 0 ∨ j = 1 ∨ j = 2 by omega) with rfl | rfl | rfl
    · rw [p0]
    · rw [p1]
    · rw [p2])
  rw [hy]
  refine ⟨rfl, ?_⟩
  show (catL zsS (numsS h) 3).length = 12
  rw [catL_succ, catL_succ, catL_succ, p0, p1, p2]
  simp [catL, lowL_len]
theorem seal_short (j : List UInt8) (h : j.length ≤ 60) : sealL j 64 = ((j ++ List.replicate (60 - j.length) 0) ++ lowL (sumN (j ++ List.replicate (60 - j.length) 0)) 4, 0) := by
  have hp : padL j (64 - 4) = (j ++ List.replicate (60 - j.length) 0, 0) := by
    unfold padL
    rw [if_neg (by omega)]
    rfl
  unfold sealL
  rw [if_neg (by decide), hp]
  rfl
theorem ofS_numsS (h : Su) (hr : rightS h = true) : ofS (numsS h) = h := by
  have hr' := (rightS_iff h).1 hr
  obtain ⟨g, c, p⟩ := h
  simp only [ofS, numsS, Su.mk.injEq] at hr' ⊢
  exact ⟨Int.toNat_of_nonneg (by omega), Int.toNat_of_nonneg (by omega), Int.toNat_of_nonneg (by omega)⟩
/-- a superblock that may be is read of its sector -/
theorem super_one (h : Su) (he : (encS h).2 = 0) :
    ∃ P : List UInt8, (encS h).1 = P ++ lowL (sumN P) 4 ∧ P.length = 60 ∧ decS (P ++ lowL (sumN P) 4) = (h, 0) ∧ rightS h = true := by
  have hr : rightS h = true := by
    cases hb : rightS h
    · rw [encS, hb] at he
      exact absurd he (by simp)
    · rfl
  obtain ⟨hj, hjl⟩ := joinS h hr
  have e0 : encS h = sealL (lettersS ++ (joinL zsS (numsS h)).1) 64 := by rw [encS, if_pos hr]
  have hl : (lettersS ++ (joinL zsS (numsS h)).1).length = 16 := by rw [List.length_append, hjl]; rfl
  rw [seal_short _ (by omega), hl] at e0
  have hb1 := back_one zsS (numsS h) (List.replicate (60 - 16) 0) hj
  have hP : (lettersS ++ (joinL zsS (numsS h)).1 ++ List.replicate (60 - 16) 0).length = 60 := by rw [List.length_append, hl]; simp
  refine ⟨lettersS ++ (joinL zsS (numsS h)).1 ++ List.replicate (60 - 16) 0, by rw [e0], hP, ?_, hr⟩
  have ho := open_sealed (lettersS ++ (joinL zsS (numsS h)).1 ++ List.replicate (60 - 16) 0)
  unfold decS
  rw [if_neg (by rw [List.length_append, hP, lowL_len]; simp), ho, if_neg (by simp)]
  simp only
  have ht : (lettersS ++ (joinL zsS (numsS h)).1 ++ List.replicate (60 - 16) 0).take 4 = lettersS := by
    rw [List.append_assoc]
    exact List.take_left' rfl
  have hd : (lettersS ++ (joinL zsS (numsS h)).1 ++ List.replicate (60 - 16) 0).drop 4 = (joinL zsS (numsS h)).1 ++ List.replicate (60 - 16) 0 := by
    rw [List.append_assoc]
    exact List.drop_left' rfl
  rw [ht, if_neg (by simp), hd, hb1, if_neg (by simp)]
  simp only
  rw [ofS_numsS h hr, if_pos hr]
theorem all_zero (l : List UInt8) (h : l.all (· == 0) = true) : l = List.replicate l.length 0 := by
  rw [List.eq_replicate_iff]
  refine ⟨rfl, fun b hb => ?_⟩
  have := List.all_eq_true.1 h b hb
  simpa using this
theorem open_64 (s : List UInt8) (hl : s.length = 64) (h : (openL s).2 = 0) : openL s = (s.take 60, 0) ∧ s = s.take 60 ++ lowL (sumN (s.take 60)) 4 := by
  have e2 : openL s = if lowL (sumN (s.take 60)) 4 = s.drop 60 then (s.take 60, 0) else ([], 31) := by
    rw [openL, if_neg (by omega), hl]
  rw [e2] at h ⊢
  split at h
  · rename_i h5
    rw [if_pos h5]
    exact ⟨rfl, by rw [h5, List.take_append_drop]⟩
  · exact absurd h (by decide)
theorem got_12 (C : List UInt8) (h : 12 ≤ C.length) : ∃ a b c, getL C zsS = ([a, b, c], C.drop 12, 0) ∧ a < 4294967296 ∧ b < 4294967296 ∧ c < 4294967296 := by
  have hb : ∀ (o z : Nat), numN ((C.drop o).take z) < 256 ^ z := fun o z =>
    Nat.lt_of_lt_of_le (numN_lt _) (Nat.pow_le_pow_right (by omega) (by simp; omega))
  refine ⟨numN ((C.drop 0).take 4), numN ((C.drop 4).take 4), numN ((C.drop 8).take 4), ?_, hb 0 4, hb 4 4, hb 8 4⟩
  rw [getL, if_neg (by rw [zsS_good]; simp)]
  show (if 12 ≤ C.length then _ else _) = _
  rw [if_pos h]
  rfl
theorem super_two (s : List UInt8) (h : (decS s).2 = 0) : encS (decS s).1 = (s, 0) ∧ s.length = 64 ∧ rightS (decS s).1 = true := by
  by_cases c1 : s.length ≠ 64
  · rw [decS, if_pos c1] at h
    exact absurd h (by decide)
  · by_cases c2 : (openL s).2 ≠ 0
    · rw [decS, if_neg c1, if_pos c2] at h
      exact absurd h c2
    · by_cases c3 : (openL s).1.take 4 ≠ lettersS
      · rw [decS, if_neg c1, if_neg c2, if_pos c3] at h
        exact absurd h (by decide)
      · by_cases c4 : (getL ((openL s).1.drop 4) zsS).2.2 ≠ 0 ∨ (getL ((openL s).1.drop 4) zsS).2.1.all (· == 0) = false
        · rw [decS, if_neg c1, if_neg c2, if_neg c3, if_pos c4] at h
          exact absurd h (by decide)
        · by_cases c5 : rightS (ofS (getL ((openL s).1.drop 4) zsS).1) = true
          · rw [decS, if_neg c1, if_neg c2, if_neg c3, if_neg c4, if_pos c5]
            have d1 : s.length = 64 := by omega
            have d2 : (openL s).2 = 0 := by omega
            refine ⟨?_, d1, c5⟩
            have d3 : (openL s).1.take 4 = lettersS := by
              rcases decEq ((openL s).1.take 4) lettersS with h | h
              · exact absurd h c3
              · exact h
            obtain ⟨e1, e2⟩ := open_64 s d1 d2
            have hB : (s.take 60).length = 60 := by simp; omega
            rw [e1] at d3 c4 c5 ⊢
            simp only at d3 c4 c5 ⊢
            generalize s.take 60 = B at *
            obtain ⟨a, b, c, hg, ha, hb, hc⟩ := got_12 (B.drop 4) (by simp; omega)
            rw [hg] at c4 c5 ⊢
            simp only at c4 c5 ⊢
            have hz : ((B.drop 4).drop 12).all (· == 0) = true := by
              cases hb : ((B.drop 4).drop 12).all (· == 0)
              · exact absurd (.inr hb) c4
              · rfl
            have hn : numsS (ofS [a, b, c]) = [a, b, c] := by
              show [((a : Nat) : Int).toNat, ((b : Nat) : Int).toNat, ((c : Nat) : Int).toNat] = _
              rw [Int.toNat_natCast, Int.toNat_natCast, Int.toNat_natCast]
            obtain ⟨hj, hjl⟩ := joinS _ c5
            have e0 : encS (ofS [a, b, c]) = sealL (lettersS ++ (joinL zsS (numsS (ofS [a, b, c]))).1) 64 := by rw [encS, if_pos c5]
            rw [hn] at e0 hjl
            have hl16 : (lettersS ++ (joinL zsS [a, b, c]).1).length = 16 := by rw [List.length_append, hjl]; rfl
            rw [seal_short _ (by omega), hl16] at e0
            obtain ⟨_, hb2⟩ := back_two (B.drop 4) zsS (by rw [hg])
            rw [hg] at hb2
            simp only at hb2
            have hrl : ((B.drop 4).drop 12).length = 44 := by simp; omega
            rw [all_zero _ hz, hrl] at hb2
            have e4 : lettersS ++ (joinL zsS [a, b, c]).1 ++ List.replicate (60 - 16) 0 = B := by
              rw [List.append_assoc, hb2, ← d3, List.take_append_drop]
            rw [e4] at e0
            rw [e0, ← e2]
          · rw [decS, if_neg c1, if_neg c2, if_neg c3, if_neg c4, if_neg c5] at h
            exact absurd h (by decide)
/-- what the document reads of a sector -/
def docS (s : List UInt8) : Su × Int :=
  if s.length ≠ 64 then (zeroS, 21) else if (openL s).2 ≠ 0 then (zeroS, (openL s).2) else
  if (openL s).1.take 4 ≠ lettersS then (zeroS, 22) else
  if (getL ((openL s).1.drop 4) zsS).2.1.all (· == 0) = false then (zeroS, 32) else
  if rightS (ofS (getL ((openL s).1.drop 4) zsS).1) = true then (ofS (getL ((openL s).1.drop 4) zsS).1, 0) else (zeroS, 32)
theorem docS_decS (s : List UInt8) : docS s = decS s := by
  by_cases c1 : s.length ≠ 64
  · rw [docS, decS, if_pos c1, if_pos c1]
  · by_cases c2 : (openL s).2 ≠ 0
    · rw [docS, decS, if_neg c1, if_neg c1, if_pos c2, if_pos c2]
    · by_cases c3 : (openL s).1.take 4 ≠ lettersS
      · rw [docS, decS, if_neg c1, if_neg c1, if_neg c2, if_neg c2, if_pos c3, if_pos c3]
      · have hB : (openL s).1.length = 60 := by rw [(open_64 s (by omega) (by omega)).1]; simp; omega
        obtain ⟨a, b, c, hg, _⟩ := got_12 ((openL s).1.drop 4) (by simp; omega)
        rw [docS, decS, if_neg c1, if_neg c1, if_neg c2, if_neg c2, if_neg c3, if_neg c3, hg]
        simp only
        by_cases hz : (((openL s).1.drop 4).drop 12).all (· == 0) = false
        · rw [if_pos hz, if_pos (.inr hz)]
        · rw [if_neg hz]
          have n2 : ¬ ((0 : Int) ≠ 0 ∨ (((openL s).1.drop 4).drop 12).all (· == 0) = false) := by simp only [ne_eq, not_true_eq_false, false_or]; exact hz
          rw [if_neg n2]
theorem decS_zero (s : List UInt8) (h : (decS s).2 ≠ 0) : (decS s).1 = zeroS := by
  by_cases c1 : s.length ≠ 64
  · rw [decS, if_pos c1]
  · by_cases c2 : (openL s).2 ≠ 0
    · rw [decS, if_neg c1, if_pos c2]
    · by_cases c3 : (openL s).1.take 4 ≠ lettersS
      · rw [decS, if_neg c1, if_neg c2, if_pos c3]
      · by_cases c4 : (getL ((openL s).1.drop 4) zsS).2.2 ≠ 0 ∨ (getL ((openL s).1.drop 4) zsS).2.1.all (· == 0) = false
        · rw [decS, if_neg c1, if_neg c2, if_neg c3, if_pos c4]
        · by_cases c5 : rightS (ofS (getL ((openL s).1.drop 4) zsS).1) = true
          · rw [decS, if_neg c1, if_neg c2, if_neg c3, if_neg c4, if_pos c5] at h
            exact absurd rfl h
          · rw [decS, if_neg c1, if_neg c2, if_neg c3, if_neg c4, if_neg c5]
end Go.Proofs.YtcjdkanmbafjmaaDoor
