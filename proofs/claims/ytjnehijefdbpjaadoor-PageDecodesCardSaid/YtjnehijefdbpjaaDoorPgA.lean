/- A page: what its sector is, and what is read of one: plain law. -/
import Derived.Test.YtjnehijefdbpjaaDoorOctN
import Derived.Test.YtjnehijefdbpjaaDoorCrcG
namespace Go.Proofs.YtjnehijefdbpjaaDoor

def fours : List Int := List.replicate 14 4
def numsOf (gen : Nat) (l : List Int) : List Nat := gen :: l.map fun n => (n + 1).toNat
def farB (l : List Int) : Bool := l.any fun n => decide (n < -1) || decide (2147483646 < n)
def encL (gen : Nat) (l : List Int) : List UInt8 × Int :=
  if l.length ≠ 13 ∨ farB l = true then ([], 1) else sealL (joinL fours (numsOf gen l)).1 64
def greatB (l : List Nat) : Bool := l.any fun n => decide (2147483647 < n)
def decL (s : List UInt8) : Nat × List Int × Int :=
  if s.length ≠ 64 then (0, [], 21) else if (openL s).2 ≠ 0 then (0, [], (openL s).2) else
  if (getL (openL s).1 fours).2.2 ≠ 0 ∨ (getL (openL s).1 fours).2.1.all (· == 0) = false then (0, [], 32) else
  if greatB (getL (openL s).1 fours).1.tail = true then (0, [], 32) else
  ((getL (openL s).1 fours).1.head?.getD 0 % 4294967296, (getL (openL s).1 fours).1.tail.map (fun n : Nat => (n : Int) - 1), 0)

theorem fours_good : badB fours = false := by decide +kernel
theorem fours_at (i : Nat) (h : i < 14) : fours[i]? = some 4 := by
  unfold fours
  rw [List.getElem?_replicate, if_pos h]
theorem fours_off : offN (natZ fours) 14 = 56 := by decide +kernel
theorem not_far (l : List Int) (h : farB l = false) : ∀ n ∈ l, -1 ≤ n ∧ n ≤ 2147483646 := by
  intro n hn
  rw [farB, List.any_eq_false] at h
  have := h n hn
  simp at this
  omega
theorem nums_lt (gen : Nat) (l : List Int) (hg : gen < 4294967296) (h : farB l = false) : ∀ n ∈ numsOf gen l, n < 4294967296 := by
  intro n hn
  rcases List.mem_cons.1 hn with rfl | hn
  · exact hg
  · obtain ⟨x, hx, rfl⟩ := List.mem_map.1 hn
    have := not_far l h x hx
    omega
theorem join_fours (m : List Nat) (hl : m.length = 14) (h : ∀ n ∈ m, n < 4294967296) : joinL fours m = (catL fours m 14, 0) ∧ (catL fours m 14).length = 56 := by
  have hat : ∀ i, i < 14 → putAt fours m i = (lowL (m[i]?.getD 0) 4, 0) := fun i hi => by
    unfold putAt
    rw [fours_at i hi]
    have hm : m[i]?.getD 0 < 4294967296 := by
      rw [List.getElem?_eq_getElem (by omega)]
      exact h _ (List.getElem_mem _)
    unfold putL
    rw [if_neg (by decide)]
    have h4 : (some (4 : Int)).getD 0 = 4 := rfl
    rw [h4, show (4 : Int).toNat = 4 from rfl, if_neg (by rw [show 256 ^ 4 = 4294967296 from rfl, Nat.div_eq_of_lt hm]; omega)]
  have hy := join_yes fours m (by rw [hl]; rfl) fours_good (fun j hj => by rw [hat j (by omega)])
  rw [hl] at hy
  refine ⟨hy, ?_⟩
  have : ∀ k, k ≤ 14 → (catL fours m k).length = 4 * k := by
    intro k
    induction k with
    | zero => intro _; rfl
    | succ k ih =>
      intro hk
      rw [catL_succ, List.length_append, ih (by omega), hat k (by omega), lowL_len]
      omega
  exact this 14 (Nat.le_refl _)
theorem pad_four (j : List UInt8) (h : j.length = 56) : padL j (64 - 4) = (j ++ List.replicate 4 0, 0) := by
  unfold padL
  rw [if_neg (by omega), h]
  rfl
theorem seal_page (j : List UInt8) (h : j.length = 56) : sealL j 64 = ((j ++ List.replicate 4 0) ++ lowL (sumN (j ++ List.replicate 4 0)) 4, 0) := by
  unfold sealL
  rw [if_neg (by decide), pad_four j h]
  rfl
theorem enc_ok (gen : Nat) (l : List Int) (h : (encL gen l).2 = 0) : l.length = 13 ∧ farB l = false := by
  unfold encL at h
  split at h
  · cases h
  · rename_i h1
    constructor
    · rcases Nat.decEq l.length 13 with h2 | h2
      · exact absurd (.inl h2) h1
      · exact h2
    · cases hb : farB l
      · rfl
      · exact absurd (.inr hb) h1
theorem back_nums (l : List Int) (h : farB l = false) : (l.map fun n => (n + 1).toNat).map (fun n : Nat => (n : Int) - 1) = l := by
  rw [List.map_map]
  conv => rhs; rw [← List.map_id l]
  refine List.map_congr_left fun n hn => ?_
  have := not_far l h n hn
  simp only [Function.comp, id]
  omega

theorem page_one (gen : Nat) (l : List Int) (hg : gen < 4294967296) (h : (encL gen l).2 = 0) :
    ∃ P : List UInt8, (encL gen l).1 = P ++ lowL (sumN P) 4 ∧ P.length = 60 ∧ decL (P ++ lowL (sumN P) 4) = (gen, l, 0) := by
  obtain ⟨hl, hf⟩ := enc_ok gen l h
  have hm : (numsOf gen l).length = 14 := by simp [numsOf, hl]
  obtain ⟨hj, hjl⟩ := join_fours (numsOf gen l) hm (nums_lt gen l hg hf)
  have he : encL gen l = sealL (catL fours (numsOf gen l) 14) 64 := by
    rw [encL, if_neg (by rw [hf]; simp [hl]), hj]
  rw [seal_page _ hjl] at he
  have hb1 := back_one fours (numsOf gen l) (List.replicate 4 0) (by rw [hj])
  rw [hj] at hb1
  generalize catL fours (numsOf gen l) 14 = j at *
  refine ⟨j ++ List.replicate 4 0, by rw [he], by simp [hjl], ?_⟩
  have ho := open_sealed (j ++ List.replicate 4 0)
  unfold decL
  rw [if_neg (by simp [hjl, lowL_len]), ho, if_neg (by simp)]
  simp only
  rw [hb1, if_neg (by simp)]
  have hgt : greatB (numsOf gen l).tail = false := by
    rw [greatB, List.any_eq_false]
    intro n hn
    obtain ⟨x, hx, rfl⟩ := List.mem_map.1 hn
    have := not_far l hf x hx
    simp
    omega
  simp only
  rw [hgt, if_neg (by simp)]
  have hb2 := back_nums l hf
  show (gen % 4294967296, _, (0 : Int)) = _
  rw [Nat.mod_eq_of_lt hg]
  exact congrArg (fun x => (gen, x, (0 : Int))) hb2

theorem page_two (s : List UInt8) (h : (decL s).2.2 = 0) : encL (decL s).1 (decL s).2.1 = (s, 0) ∧ (decL s).1 < 4294967296 := by
  unfold decL at h ⊢
  split at h
  · cases h
  · rename_i h1
    rw [if_neg h1]
    split at h
    · rename_i h2
      exact absurd h h2
    · rename_i h2
      rw [if_neg h2]
      split at h
      · cases h
      · rename_i h3
        rw [if_neg h3]
        split at h
        · cases h
        · rename_i h4
          rw [if_neg h4]
          have hs : s.length = 64 := by
            rcases Nat.decEq s.length 64 with h5 | h5
            · exact absurd h5 h1
            · exact h5
          have hop : lowL (sumN (s.take 60)) 4 = s.drop 60 ∧ openL s = (s.take 60, 0) := by
            have e2 : openL s = if lowL (sumN (s.take 60)) 4 = s.drop 60 then (s.take 60, 0) else ([], 31) := by
              rw [openL, if_neg (by omega), hs]
            rw [e2] at h2
            split at h2
            · rename_i h5
              exact ⟨h5, by rw [e2, if_pos h5]⟩
            · exact absurd (by decide : (31 : Int) ≠ 0) h2
          rw [hop.2] at h3 h4 ⊢
          simp only at h3 h4 ⊢
          have hg0 : (getL (s.take 60) fours).2.2 = 0 := by
            rcases Int.decEq (getL (s.take 60) fours).2.2 0 with h5 | h5
            · exact absurd (.inl h5) h3
            · exact h5
          have hz : (getL (s.take 60) fours).2.1.all (· == 0) = true := by
            cases hb : (getL (s.take 60) fours).2.1.all (· == 0)
            · exact absurd (.inr hb) h3
            · rfl
          obtain ⟨hj1, hj2⟩ := back_two (s.take 60) fours hg0
          have hform : getL (s.take 60) fours = (numsK (s.take 60) (natZ fours) 14, (s.take 60).drop 56, 0) := by
            rw [getL, if_neg (by rw [fours_good]; simp)]
            show (if offN (natZ fours) 14 ≤ (s.take 60).length then (numsK (s.take 60) (natZ fours) 14, (s.take 60).drop (offN (natZ fours) 14), (0 : Int)) else ([], [], 21)) = _
            rw [fours_off, if_pos (by simp; omega)]
          rw [hform] at hj1 hj2 hz h4 ⊢
          simp only at hj1 hj2 hz h4 ⊢
          have hml : (numsK (s.take 60) (natZ fours) 14).length = 14 := numsK_len _ _ _
          have hlt : ∀ n ∈ numsK (s.take 60) (natZ fours) 14, n < 4294967296 := by
            intro n hn
            simp only [numsK, List.mem_map, List.mem_range] at hn
            obtain ⟨i, hi, rfl⟩ := hn
            have hzi : (natZ fours)[i]?.getD 0 = 4 := by
              rw [natZ, List.getElem?_map, fours_at i hi]
              rfl
            rw [hzi]
            refine Nat.lt_of_lt_of_le (numN_lt _) ?_
            have : (((s.take 60).drop (offN (natZ fours) i)).take 4).length ≤ 4 := by simp; omega
            exact Nat.le_trans (Nat.pow_le_pow_right (by omega) this) (by decide)
          generalize numsK (s.take 60) (natZ fours) 14 = m at *
          match m, hml with
          | g :: r, hml =>
            have hg : g < 4294967296 := hlt g (List.mem_cons_self ..)
            have hr : r.length = 13 := by simpa using hml
            obtain ⟨hjf, hjl⟩ := join_fours (g :: r) hml hlt
            rw [hjf] at hj2
            simp only [List.tail_cons, List.head?_cons, Option.getD_some] at h4 ⊢
            rw [Nat.mod_eq_of_lt hg]
            have hle : ∀ n ∈ r, n ≤ 2147483647 := by
              intro n hn
              have : greatB r = false := by simpa using h4
              rw [greatB, List.any_eq_false] at this
              have := this n hn
              simp at this
              omega
            have hfar : farB (r.map fun n : Nat => (n : Int) - 1) = false := by
              rw [farB, List.any_eq_false]
              intro n hn
              obtain ⟨x, hx, rfl⟩ := List.mem_map.1 hn
              have := hle x hx
              simp
              omega
            have hnum : numsOf g (r.map fun n : Nat => (n : Int) - 1) = g :: r := by
              unfold numsOf
              rw [List.map_map]
              congr 1
              conv => rhs; rw [← List.map_id r]
              refine List.map_congr_left fun n _ => ?_
              simp only [Function.comp, id]
              omega
            have hzz : (s.take 60).drop 56 = List.replicate 4 0 := by
              rw [List.eq_replicate_iff]
              refine ⟨by simp; omega, fun b hb => ?_⟩
              rw [List.all_eq_true] at hz
              simpa using hz b hb
            rw [hzz] at hj2
            simp only at hj2
            refine ⟨?_, hg⟩
            rw [encL, if_neg (by rw [hfar]; simp [hr]), hnum, hjf]
            simp only
            rw [seal_page _ hjl, hj2, hop.1, List.take_append_drop]
end Go.Proofs.YtjnehijefdbpjaaDoor
