/- A store's head: what its sector is, and what is read of one: plain law. -/
import Derived.Test.YtkcapkineifhkaaDoorOctN
import Derived.Test.YtkcapkineifhkaaDoorCrcG
namespace Go.Proofs.YtkcapkineifhkaaDoor

structure Hd where
  gen : Nat
  chunk : Int
  cap : Int
  inv : Bool
  deriving DecidableEq
def rightH (h : Hd) : Bool := decide (0 < h.gen) && (decide (1 ≤ h.chunk) && decide (h.chunk ≤ 128)) && (decide (1 ≤ h.cap) && decide (h.cap ≤ 1048576))
def zsH : List Int := [4, 2, 4, 1]
def numsH (h : Hd) : List Nat := [h.gen, h.chunk.toNat, h.cap.toNat, if h.inv then 1 else 0]
def lettersH : List UInt8 := [79, 65, 75, 72]
def encH (h : Hd) : List UInt8 × Int := if rightH h = true then sealL (lettersH ++ (joinL zsH (numsH h)).1) 64 else ([], 1)
def zeroH : Hd := ⟨0, 0, 0, false⟩
def ofNums (m : List Nat) : Hd := ⟨m[0]?.getD 0 % 4294967296, (m[1]?.getD 0 : Nat), (m[2]?.getD 0 : Nat), m[3]?.getD 0 == 1⟩
def decH (s : List UInt8) : Hd × Int :=
  if s.length ≠ 64 then (zeroH, 21) else if (openL s).2 ≠ 0 then (zeroH, (openL s).2) else
  if (openL s).1.take 4 ≠ lettersH then (zeroH, 22) else
  if (getL ((openL s).1.drop 4) zsH).2.2 ≠ 0 ∨ (getL ((openL s).1.drop 4) zsH).2.1.all (· == 0) = false then (zeroH, 32) else
  if encH (ofNums (getL ((openL s).1.drop 4) zsH).1) = (s, 0) then (ofNums (getL ((openL s).1.drop 4) zsH).1, 0) else (zeroH, 32)

theorem zsH_good : badB zsH = false := by decide +kernel
theorem joinH (h : Hd) (hg : h.gen < 4294967296) (hr : rightH h = true) : (joinL zsH (numsH h)).2 = 0 ∧ (joinL zsH (numsH h)).1.length = 11 := by
  have hr' : 0 < h.gen ∧ (1 ≤ h.chunk ∧ h.chunk ≤ 128) ∧ (1 ≤ h.cap ∧ h.cap ≤ 1048576) := by
    simpa [rightH, and_assoc] using hr
  have hp : ∀ (n : Nat) (z : Nat), z ≤ 8 → n < 256 ^ z → putL n (z : Int) = (lowL n z, 0) := fun n z hz hn => by
    unfold putL
    rw [if_neg (by omega), Int.toNat_natCast, if_neg (by rw [Nat.div_eq_of_lt hn]; omega)]
  have p0 : putAt zsH (numsH h) 0 = (lowL h.gen 4, 0) := hp h.gen 4 (by omega) (by show h.gen < 4294967296; exact hg)
  have p1 : putAt zsH (numsH h) 1 = (lowL h.chunk.toNat 2, 0) := hp h.chunk.toNat 2 (by omega) (by show h.chunk.toNat < 65536; omega)
  have p2 : putAt zsH (numsH h) 2 = (lowL h.cap.toNat 4, 0) := hp h.cap.toNat 4 (by omega) (by show h.cap.toNat < 4294967296; omega)
  have p3 : putAt zsH (numsH h) 3 = (lowL (if h.inv then 1 else 0) 1, 0) := hp (if h.inv then 1 else 0) 1 (by omega) (by split <;> decide)
  have hy := join_yes zsH (numsH h) rfl zsH_good (fun j hj => by
    have hj : j < 4 := hj
    rcases (show j = 0 ∨ j = 1 ∨ j = 2 ∨ j = 3 by omega) with rfl | rfl | rfl | rfl
    · rw [p0]
    · rw [p1]
    · rw [p2]
    · rw [p3])
  rw [hy]
  refine ⟨rfl, ?_⟩
  show (catL zsH (numsH h) 4).length = 11
  rw [catL_succ, catL_succ, catL_succ, catL_succ, p0, p1, p2, p3]
  simp [catL, lowL_len]
theorem seal_short (j : List UInt8) (h : j.length ≤ 60) : sealL j 64 = ((j ++ List.replicate (60 - j.length) 0) ++ lowL (sumN (j ++ List.replicate (60 - j.length) 0)) 4, 0) := by
  have hp : padL j (64 - 4) = (j ++ List.replicate (60 - j.length) 0, 0) := by
    unfold padL
    rw [if_neg (by omega)]
    rfl
  unfold sealL
  rw [if_neg (by decide), hp]
  rfl
theorem ofNums_numsH (h : Hd) (hg : h.gen < 4294967296) (hr : rightH h = true) : ofNums (numsH h) = h := by
  have hr' : 0 < h.gen ∧ (1 ≤ h.chunk ∧ h.chunk ≤ 128) ∧ (1 ≤ h.cap ∧ h.cap ≤ 1048576) := by
    simpa [rightH, and_assoc] using hr
  obtain ⟨g, c, p, i⟩ := h
  simp only [ofNums, numsH, Hd.mk.injEq] at hr' ⊢
  refine ⟨Nat.mod_eq_of_lt hg, Int.toNat_of_nonneg (by omega), Int.toNat_of_nonneg (by omega), ?_⟩
  cases i <;> rfl

/-- a head that may be is read of its sector -/
theorem head_one (h : Hd) (hg : h.gen < 4294967296) (he : (encH h).2 = 0) :
    ∃ P : List UInt8, (encH h).1 = P ++ lowL (sumN P) 4 ∧ P.length = 60 ∧ decH (P ++ lowL (sumN P) 4) = (h, 0) ∧ rightH h = true := by
  have hr : rightH h = true := by
    cases hb : rightH h
    · rw [encH, hb] at he
      exact absurd he (by simp)
    · rfl
  obtain ⟨hj, hjl⟩ := joinH h hg hr
  have e0 : encH h = sealL (lettersH ++ (joinL zsH (numsH h)).1) 64 := by rw [encH, if_pos hr]
  have hl : (lettersH ++ (joinL zsH (numsH h)).1).length = 15 := by rw [List.length_append, hjl]; rfl
  rw [seal_short _ (by omega), hl] at e0
  have hb1 := back_one zsH (numsH h) (List.replicate (60 - 15) 0) hj
  have hP : (lettersH ++ (joinL zsH (numsH h)).1 ++ List.replicate (60 - 15) 0).length = 60 := by rw [List.length_append, hl]; simp
  refine ⟨lettersH ++ (joinL zsH (numsH h)).1 ++ List.replicate (60 - 15) 0, by rw [e0], hP, ?_, hr⟩
  have ho := open_sealed (lettersH ++ (joinL zsH (numsH h)).1 ++ List.replicate (60 - 15) 0)
  unfold decH
  rw [if_neg (by rw [List.length_append, hP, lowL_len]; simp), ho, if_neg (by simp)]
  simp only
  have ht : (lettersH ++ (joinL zsH (numsH h)).1 ++ List.replicate (60 - 15) 0).take 4 = lettersH := by
    rw [List.append_assoc]
    exact List.take_left' rfl
  have hd : (lettersH ++ (joinL zsH (numsH h)).1 ++ List.replicate (60 - 15) 0).drop 4 = (joinL zsH (numsH h)).1 ++ List.replicate (60 - 15) 0 := by
    rw [List.append_assoc]
    exact List.drop_left' rfl
  rw [ht, if_neg (by simp), hd, hb1, if_neg (by simp)]
  simp only
  rw [ofNums_numsH h hg hr, e0, if_pos rfl]
theorem head_two (s : List UInt8) (h : (decH s).2 = 0) : encH (decH s).1 = (s, 0) ∧ s.length = 64 := by
  unfold decH at h ⊢
  split at h
  · exact absurd h (by decide)
  · rename_i h1
    rw [if_neg h1]
    split at h
    · rename_i h2
      exact absurd h h2
    · rename_i h2
      rw [if_neg h2]
      split at h
      · exact absurd h (by decide)
      · rename_i h3
        rw [if_neg h3]
        split at h
        · exact absurd h (by decide)
        · rename_i h4
          rw [if_neg h4]
          split at h
          · rename_i h5
            rw [if_pos h5]
            refine ⟨h5, ?_⟩
            rcases Nat.decEq s.length 64 with h6 | h6
            · exact absurd h6 h1
            · exact h6
          · exact absurd h (by decide)
end Go.Proofs.YtkcapkineifhkaaDoor
