/- Exceptions in runs: the law: whole. -/
import Derived.Test.YtgbicbeofgpinaaRnN
namespace Go.Proofs.Ytgbicbeofgpinaa
open Go.RowKit

/-- each run goes on, chunk by chunk -/
def goesOn (r : List En) : Prop := ∀ k, (h : k + 1 < r.length) → r[k + 1].org = r[k].org + 1
theorem goOn_go (most : Int) : ∀ (x : En) (t : List En) (n : Nat), (1 ≤ n) → ((n : Int) ≤ most) → goOn most x t n ≤ most ∧ goesOn (x :: t.take (goOn most x t n - n))
  | x, [], n, h1, h2 => by
    refine ⟨by simpa [goOn] using h2, fun k h => ?_⟩
    simp at h
  | x, y :: t, n, h1, h2 => by
    unfold goOn
    by_cases h : (n : Int) < most ∧ y.org = x.org + 1
    · rw [if_pos h]
      obtain ⟨i1, i2⟩ := goOn_go most y t (n + 1) (by omega) (by omega)
      have hge := goOn_ge most y t (n + 1)
      refine ⟨i1, ?_⟩
      obtain ⟨m, hm⟩ : ∃ m, goOn most y t (n + 1) = m + (n + 1) := ⟨_, (Nat.sub_add_cancel hge).symm⟩
      rw [hm, Nat.add_sub_cancel] at i2
      rw [hm, show m + (n + 1) - n = m + 1 by omega, List.take_succ_cons]
      intro k hk
      cases k with
      | zero => exact h.2
      | succ k => exact i2 k (by simpa using hk)
    · rw [if_neg h]
      refine ⟨h2, fun k hk => ?_⟩
      simp at hk
theorem cut_go (most : Int) (l : List En) (hm : 1 ≤ most) (h : l ≠ []) : (cutR most l : Int) ≤ most ∧ goesOn (l.take (cutR most l)) := by
  match l, h with
  | x :: t, _ =>
    obtain ⟨h1, h2⟩ := goOn_go most x t 1 (Nat.le_refl _) (by simpa using hm)
    have hge := goOn_ge most x t 1
    refine ⟨h1, ?_⟩
    show goesOn ((x :: t).take (goOn most x t 1))
    obtain ⟨m, hm⟩ : ∃ m, goOn most x t 1 = m + 1 := ⟨_, (Nat.sub_add_cancel hge).symm⟩
    rw [hm, Nat.add_sub_cancel] at h2
    rw [hm, List.take_succ_cons]
    exact h2
/-- behind its end the first run does not go on, or it is full -/
theorem goOn_end (most : Int) : ∀ (x : En) (t : List En) (n : Nat), (h : goOn most x t n - n < t.length) → ¬ ((goOn most x t n : Int) < most ∧ (t[goOn most x t n - n]).org = ((x :: t)[goOn most x t n - n]'(by simp; omega)).org + 1)
  | x, [], n, h => by simp at h
  | x, y :: t, n, h => by
    by_cases hc : (n : Int) < most ∧ y.org = x.org + 1
    · have he : goOn most x (y :: t) n = goOn most y t (n + 1) := by
        conv => lhs; unfold goOn
        rw [if_pos hc]
      have hge := goOn_ge most y t (n + 1)
      obtain ⟨m, hm⟩ : ∃ m, goOn most y t (n + 1) = m + (n + 1) := ⟨_, (Nat.sub_add_cancel hge).symm⟩
      have ih := goOn_end most y t (n + 1)
      simp only [hm, Nat.add_sub_cancel] at ih
      simp only [he, hm, show m + (n + 1) - n = m + 1 by omega] at h ⊢
      exact ih (by simpa using h)
    · have he : goOn most x (y :: t) n = n := by
        conv => lhs; unfold goOn
        rw [if_neg hc]
      simp only [he, Nat.sub_self]
      exact hc
theorem cut_end (most : Int) (l : List En) (h : cutR most l < l.length) (h0 : 0 < cutR most l) : ¬ ((cutR most l : Int) < most ∧ l[cutR most l].org = l[cutR most l - 1].org + 1) := by
  match l, h, h0 with
  | x :: t, h, h0 =>
    have hge := goOn_ge most x t 1
    have := goOn_end most x t 1 (by simp only [cutR, List.length_cons] at h; omega)
    unfold cutR at h h0 ⊢
    obtain ⟨m, hm⟩ : ∃ m, goOn most x t 1 = m + 1 := ⟨_, (Nat.sub_add_cancel hge).symm⟩
    simp only [hm, Nat.add_sub_cancel] at this ⊢
    simpa using this
/-- what stands of all runs: each is as long as it can be -/
def wholeR (most : Int) : List (List En) → Prop
  | [] => True
  | r :: R => r ≠ [] ∧ (r.length : Int) ≤ most ∧ goesOn r ∧ (∀ s S, R = s :: S → ∀ (hr : 0 < r.length) (hs : 0 < s.length), ¬ ((r.length : Int) < most ∧ s[0].org = (r[r.length - 1]).org + 1)) ∧ wholeR most R
theorem runs_whole (most : Int) (hm : 1 ≤ most) : ∀ (m : Nat) (l : List En), l.length ≤ m → wholeR most (runsR most l)
  | m, l, hl => by
    by_cases h : l = []
    · subst h
      exact trivial
    · have hc := cutR_pos most l h
      obtain ⟨m', rfl⟩ : ∃ m', m = m' + 1 := ⟨m - 1, by omega⟩
      obtain ⟨h1, h2⟩ := cut_go most l hm h
      have hlen : (l.take (cutR most l)).length = cutR most l := by rw [List.length_take]; omega
      rw [runsR_cons most l h]
      refine ⟨?_, by rw [hlen]; exact h1, h2, ?_, runs_whole most hm m' _ (by simp; omega)⟩
      · intro e
        rw [e] at hlen
        simp at hlen
        omega
      · intro s S hS hr hs
        have hd : l.drop (cutR most l) ≠ [] := by
          intro e
          rw [e, runsR_nil] at hS
          cases hS
        rw [runsR_cons most _ hd] at hS
        injection hS with hS _
        have hlt : cutR most l < l.length := by
          rcases Nat.lt_or_ge (cutR most l) l.length with h3 | h3
          · exact h3
          · exact absurd (List.drop_eq_nil_of_le h3) hd
        have := cut_end most l hlt hc.1
        subst hS
        simp only [hlen, List.getElem_take, List.getElem_drop, Nat.add_zero]
        exact this
theorem whole_at {most : Int} : ∀ {R : List (List En)}, wholeR most R → ∀ k, (hk : k < R.length) → R[k] ≠ [] ∧ (R[k].length : Int) ≤ most ∧ goesOn R[k]
  | r :: R, h, 0, _ => ⟨h.1, h.2.1, h.2.2.1⟩
  | r :: R, h, k + 1, hk => whole_at h.2.2.2.2 k (by simpa using hk)
theorem whole_next {most : Int} : ∀ {R : List (List En)}, wholeR most R → ∀ k, (hk : k + 1 < R.length) → ∀ (hr : 0 < R[k].length) (hs : 0 < R[k + 1].length), ¬ ((R[k].length : Int) < most ∧ (R[k + 1][0]).org = (R[k][R[k].length - 1]).org + 1)
  | r :: s :: S, h, 0, _, hr, hs => h.2.2.2.1 s S rfl hr hs
  | r :: R, h, k + 1, hk, hr, hs => whole_next h.2.2.2.2 k (by simpa using hk) (by simpa using hr) (by simpa using hs)
/-- where a run begins -/
def posR (R : List (List En)) (k : Nat) : Nat := (R.take k).flatten.length
theorem pos_succ (R : List (List En)) (k : Nat) (hk : k < R.length) : posR R (k + 1) = posR R k + R[k].length := by
  unfold posR
  rw [List.take_succ_eq_append_getElem hk, List.flatten_append, List.length_append, List.flatten_singleton]
theorem pos_split (R : List (List En)) (k : Nat) (hk : k < R.length) : R.flatten = (R.take k).flatten ++ (R[k] ++ (R.drop (k + 1)).flatten) := by
  conv => lhs; rw [← List.take_append_drop k R, List.flatten_append, List.drop_eq_getElem_cons hk, List.flatten_cons]
theorem pos_at (R : List (List En)) (k j : Nat) (hk : k < R.length) (hj : j < R[k].length) : (R.flatten)[posR R k + j]? = some R[k][j] := by
  rw [pos_split R k hk, posR, List.getElem?_append_right (by omega), List.getElem?_append_left (by omega)]
  rw [show (R.take k).flatten.length + j - (R.take k).flatten.length = j by omega, List.getElem?_eq_getElem hj]
theorem pos_take (R : List (List En)) (k : Nat) (hk : k < R.length) : R.flatten.take (posR R (k + 1)) = R.flatten.take (posR R k) ++ R[k] := by
  have h1 : R.flatten.take (posR R (k + 1)) = (R.take (k + 1)).flatten := by
    conv => lhs; rw [← List.take_append_drop (k + 1) R, List.flatten_append]
    rw [posR, List.take_append_drop]
    simp
  have h2 : R.flatten.take (posR R k) = (R.take k).flatten := by
    conv => lhs; rw [← List.take_append_drop k R, List.flatten_append]
    rw [posR, List.take_append_drop]
    simp
  rw [h1, h2, List.take_succ_eq_append_getElem hk, List.flatten_append, List.flatten_singleton]
theorem pos_le (R : List (List En)) (k : Nat) (hk : k < R.length) : posR R k + R[k].length ≤ R.flatten.length := by
  rw [pos_split R k hk, posR]
  simp only [List.length_append]
  omega
theorem pos_all (R : List (List En)) : posR R R.length = R.flatten.length := by rw [posR, List.take_length]
/-- all of a round's facts -/
theorem whole_facts (most : Int) (l : List En) (R : List (List En)) (hR : R = runsR most l) (hm : 1 ≤ most) (k : Nat) (hk : k < R.length) :
    1 ≤ R[k].length ∧ (R[k].length : Int) ≤ most ∧ goesOn R[k] ∧ posR R k + R[k].length ≤ l.length ∧ (∀ j, (hj : j < R[k].length) → l[posR R k + j]? = some R[k][j]) ∧ posR R (k + 1) = posR R k + R[k].length ∧ l.take (posR R (k + 1)) = l.take (posR R k) ++ R[k] ∧
    (∀ h0 : 0 < k, 1 ≤ posR R k ∧ ((R[k - 1]'(by omega)).length < most → ∀ a b, l[posR R k]? = some a → l[posR R k - 1]? = some b → a.org ≠ b.org + 1)) := by
  have hf : R.flatten = l := by rw [hR]; exact runs_flat most _ l (Nat.le_refl _)
  have hw : wholeR most R := by rw [hR]; exact runs_whole most hm _ l (Nat.le_refl _)
  have h1 := whole_at hw k hk
  have hl := List.length_pos_iff.2 h1.1
  refine ⟨hl, h1.2.1, h1.2.2, ?_, ?_, pos_succ R k hk, ?_, ?_⟩
  · rw [← hf]; exact pos_le R k hk
  · intro j hj
    rw [← hf]
    exact pos_at R k j hk hj
  · rw [← hf]; exact pos_take R k hk
  · intro h0
    obtain ⟨i, rfl⟩ : ∃ i, k = i + 1 := ⟨k - 1, by omega⟩
    have h2 := whole_at hw i (by omega)
    have hl2 := List.length_pos_iff.2 h2.1
    have hp := pos_succ R i (by omega)
    refine ⟨by omega, ?_⟩
    simp only [Nat.add_sub_cancel]
    intro hlt a b ha hb e
    have h3 := whole_next hw i hk hl2 hl
    apply h3
    refine ⟨hlt, ?_⟩
    have e1 := pos_at R (i + 1) 0 hk hl
    have e2 := pos_at R i (R[i].length - 1) (by omega) (by omega)
    rw [hf] at e1 e2
    rw [Nat.add_zero, ha] at e1
    rw [show posR R i + (R[i].length - 1) = posR R (i + 1) - 1 by omega, hb] at e2
    injection e1 with e1
    injection e2 with e2
    rw [← e1, ← e2]
    exact e
end Go.Proofs.Ytgbicbeofgpinaa
