/- Exceptions in runs: plain law. -/
import Derived.Test.YtgbicbeofgpinaaBase
namespace Go.Proofs.Ytgbicbeofgpinaa

structure En where
  org : Int
  idx : Int
  deriving DecidableEq
/-- do exceptions rise from a chunk on? -/
def riseB : Int → List En → Bool
  | _, [] => true
  | last, x :: t => decide (last < x.org) && riseB x.org t
def rightR (most : Int) (l : List En) : Bool := riseB (-1) l && decide (1 ≤ most)
/-- how many of those behind go on, n having come -/
def goOn (most : Int) : En → List En → Nat → Nat
  | _, [], n => n
  | x, y :: t, n => if (n : Int) < most ∧ y.org = x.org + 1 then goOn most y t (n + 1) else n
/-- the length of the first run -/
def cutR (most : Int) : List En → Nat
  | [] => 0
  | x :: t => goOn most x t 1
theorem goOn_ge (most : Int) : ∀ (x : En) (t : List En) (n : Nat), n ≤ goOn most x t n
  | _, [], n => Nat.le_refl n
  | x, y :: t, n => by
    unfold goOn
    split
    · exact Nat.le_trans (Nat.le_succ n) (goOn_ge most y t (n + 1))
    · exact Nat.le_refl n
theorem goOn_le (most : Int) : ∀ (x : En) (t : List En) (n : Nat), goOn most x t n ≤ n + t.length
  | _, [], n => Nat.le_refl n
  | x, y :: t, n => by
    unfold goOn
    split
    · have := goOn_le most y t (n + 1)
      simp only [List.length_cons]
      omega
    · omega
theorem cutR_pos (most : Int) (l : List En) (h : l ≠ []) : 1 ≤ cutR most l ∧ cutR most l ≤ l.length := by
  match l, h with
  | x :: t, _ =>
    have h1 := goOn_ge most x t 1
    have h2 := goOn_le most x t 1
    unfold cutR
    simp only [List.length_cons]
    omega
/-- all runs -/
def runsF (most : Int) : Nat → List En → List (List En)
  | 0, _ => []
  | f + 1, l => if l = [] then [] else l.take (cutR most l) :: runsF most f (l.drop (cutR most l))
def runsR (most : Int) (l : List En) : List (List En) := runsF most l.length l
theorem runsF_more (most : Int) : ∀ (f g : Nat) (l : List En), l.length ≤ f → l.length ≤ g → runsF most f l = runsF most g l
  | 0, 0, _, _, _ => rfl
  | 0, g + 1, l, hf, _ => by
    have : l = [] := List.eq_nil_of_length_eq_zero (by omega)
    subst this
    simp [runsF]
  | f + 1, 0, l, _, hg => by
    have : l = [] := List.eq_nil_of_length_eq_zero (by omega)
    subst this
    simp [runsF]
  | f + 1, g + 1, l, hf, hg => by
    unfold runsF
    by_cases h : l = []
    · rw [if_pos h, if_pos h]
    · have hc := cutR_pos most l h
      rw [if_neg h, if_neg h, runsF_more most f g (l.drop (cutR most l)) (by simp; omega) (by simp; omega)]
theorem runsR_cons (most : Int) (l : List En) (h : l ≠ []) : runsR most l = l.take (cutR most l) :: runsR most (l.drop (cutR most l)) := by
  have hc := cutR_pos most l h
  obtain ⟨f, hf⟩ : ∃ f, l.length = f + 1 := ⟨l.length - 1, by omega⟩
  unfold runsR
  rw [hf]
  show (if l = [] then [] else l.take (cutR most l) :: runsF most f (l.drop (cutR most l))) = _
  rw [if_neg h]
  congr 1
  exact runsF_more most _ _ _ (by simp; omega) (Nat.le_refl _)
/-- while a run goes on its length is farther on -/
theorem cut_on (most : Int) : ∀ (l : List En) (x : En) (t : List En) (n k : Nat), l = x :: t → (∀ j, (hj : j + 1 < l.length) → j < k → ((n + j : Nat) : Int) < most ∧ l[j + 1].org = l[j].org + 1) → k < l.length → n + k ≤ goOn most x t n
  | l, x, t, n, 0, _, _, _ => goOn_ge most x t n
  | l, x, [], n, k + 1, hl, _, hk => by
    subst hl
    simp at hk
  | l, x, y :: t, n, k + 1, hl, h, hk => by
    subst hl
    have h0 := h 0 (by simp) (by omega)
    unfold goOn
    rw [if_pos ⟨by simpa using h0.1, by simpa using h0.2⟩]
    have := cut_on most (y :: t) y t (n + 1) k rfl (fun j hj hjk => by
      have := h (j + 1) (by simpa using hj) (by omega)
      simp only [List.getElem_cons_succ] at this ⊢
      rw [show n + (j + 1) = n + 1 + j by omega] at this
      exact this) (by simpa using hk)
    omega
end Go.Proofs.Ytgbicbeofgpinaa
