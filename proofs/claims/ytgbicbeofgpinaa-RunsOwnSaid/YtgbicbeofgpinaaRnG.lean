/- Exceptions in runs: plain laws: one exception more; what all runs are. -/
import Derived.Test.YtgbicbeofgpinaaRnA
namespace Go.Proofs.Ytgbicbeofgpinaa

theorem goOn_snoc (most : Int) (y : En) : ∀ (x : En) (t : List En) (n : Nat), goOn most x (t ++ [y]) n = if goOn most x t n = n + t.length then (if ((n + t.length : Nat) : Int) < most ∧ y.org = ((x :: t).getLast (by simp)).org + 1 then n + t.length + 1 else n + t.length) else goOn most x t n
  | x, [], n => by
    simp only [List.nil_append, goOn, List.length_nil, Nat.add_zero, if_true, List.getLast_singleton]
    by_cases h : (n : Int) < most ∧ y.org = x.org + 1
    · rw [if_pos h]
      exact (if_pos h).symm
    · rw [if_neg h]
      exact (if_neg h).symm
  | x, z :: t, n => by
    rw [List.cons_append]
    unfold goOn
    by_cases h : (n : Int) < most ∧ z.org = x.org + 1
    · rw [if_pos h, if_pos h, goOn_snoc most y z t (n + 1)]
      rw [List.getLast_cons (by simp : z :: t ≠ []), List.length_cons, show n + 1 + t.length = n + (t.length + 1) by omega]
    · rw [if_neg h, if_neg h]
      have : ¬ n = n + (z :: t).length := by simp
      rw [if_neg this]
theorem cut_snoc (most : Int) (L : List En) (z y : En) : cutR most (L ++ [z] ++ [y]) = if cutR most (L ++ [z]) = L.length + 1 then (if ((L.length + 1 : Nat) : Int) < most ∧ y.org = z.org + 1 then L.length + 2 else L.length + 1) else cutR most (L ++ [z]) := by
  match L with
  | [] =>
    simp [cutR, goOn]
  | x :: t =>
    have h := goOn_snoc most y x (t ++ [z]) 1
    have hl : ((x :: (t ++ [z])).getLast (by simp)) = z := List.getLast_concat (l := x :: t)
    rw [hl] at h
    simp only [List.length_append, List.length_cons, List.length_nil] at h
    show goOn most x (t ++ [z] ++ [y]) 1 = _
    rw [h]
    show (if goOn most x (t ++ [z]) 1 = _ then _ else _) = (if goOn most x (t ++ [z]) 1 = _ then _ else _)
    simp only [List.length_cons]
    rw [show 1 + (t.length + (0 + 1)) = t.length + 1 + 1 by omega]
    rfl
theorem runsR_nil (most : Int) : runsR most [] = [] := rfl
theorem runsR_one (most : Int) (y : En) : runsR most [y] = [[y]] := by
  rw [runsR_cons most [y] (by simp)]
  simp [cutR, goOn, runsR_nil]
/-- one exception more -/
theorem runs_snoc (most : Int) (y z : En) : ∀ (m : Nat) (L : List En), L.length ≤ m → ∃ R r, runsR most (L ++ [z]) = R ++ [r] ∧ r ≠ [] ∧ runsR most (L ++ [z] ++ [y]) = if y.org = z.org + 1 ∧ (r.length : Int) < most then R ++ [r ++ [y]] else R ++ [r] ++ [[y]]
  | m, L, hm => by
    have hne : L ++ [z] ≠ [] := by simp
    have hc := cutR_pos most (L ++ [z]) hne
    have hs := cut_snoc most L z y
    have h1 := runsR_cons most (L ++ [z]) hne
    have h2 := runsR_cons most (L ++ [z] ++ [y]) (by simp)
    simp only [List.length_append, List.length_cons, List.length_nil] at hc
    by_cases he : cutR most (L ++ [z]) = L.length + 1
    · rw [if_pos he] at hs
      rw [he] at h1
      have ht : (L ++ [z]).take (L.length + 1) = L ++ [z] := List.take_of_length_le (by simp)
      have hd : (L ++ [z]).drop (L.length + 1) = [] := List.drop_eq_nil_of_le (by simp)
      rw [ht, hd, runsR_nil] at h1
      refine ⟨[], L ++ [z], h1, hne, ?_⟩
      by_cases hg : ((L.length + 1 : Nat) : Int) < most ∧ y.org = z.org + 1
      · rw [if_pos hg] at hs
        rw [if_pos ⟨hg.2, by simpa using hg.1⟩, h2, hs]
        rw [List.take_of_length_le (by simp), List.drop_eq_nil_of_le (by simp), runsR_nil]
        simp
      · rw [if_neg hg] at hs
        rw [if_neg (fun h => hg ⟨by simpa using h.2, h.1⟩), h2, hs]
        rw [List.take_append_of_le_length (by simp), ht, List.drop_append_of_le_length (by simp), hd]
        simp [runsR_one]
    · rw [if_neg he] at hs
      obtain ⟨m', rfl⟩ : ∃ m', m = m' + 1 := ⟨m - 1, by omega⟩
      have hd : (L ++ [z]).drop (cutR most (L ++ [z])) = L.drop (cutR most (L ++ [z])) ++ [z] := List.drop_append_of_le_length (by omega)
      obtain ⟨R, r, i1, i2, i3⟩ := runs_snoc most y z m' (L.drop (cutR most (L ++ [z]))) (by simp; omega)
      refine ⟨(L ++ [z]).take (cutR most (L ++ [z])) :: R, r, ?_, i2, ?_⟩
      · rw [h1, hd, i1]
        rfl
      · rw [h2, hs, List.take_append_of_le_length (by simp; omega), List.drop_append_of_le_length (by simp; omega), hd, i3]
        split <;> rfl
theorem runs_flat (most : Int) : ∀ (m : Nat) (L : List En), L.length ≤ m → (runsR most L).flatten = L
  | m, L, hm => by
    by_cases h : L = []
    · subst h
      rfl
    · have hc := cutR_pos most L h
      obtain ⟨m', rfl⟩ : ∃ m', m = m' + 1 := ⟨m - 1, by omega⟩
      rw [runsR_cons most L h, List.flatten_cons, runs_flat most m' _ (by simp; omega), List.take_append_drop]
theorem runs_ne (most : Int) : ∀ (m : Nat) (L : List En), L.length ≤ m → ∀ r ∈ runsR most L, r ≠ []
  | m, L, hm, r, hr => by
    by_cases h : L = []
    · subst h
      cases hr
    · have hc := cutR_pos most L h
      obtain ⟨m', rfl⟩ : ∃ m', m = m' + 1 := ⟨m - 1, by omega⟩
      rw [runsR_cons most L h] at hr
      rcases List.mem_cons.1 hr with rfl | hr
      · intro e
        have := congrArg List.length e
        rw [List.length_take, List.length_nil] at this
        omega
      · exact runs_ne most m' _ (by simp; omega) r hr
end Go.Proofs.Ytgbicbeofgpinaa
