/- Tables: All. -/
import Derived.Test.YtfidgmpeiabhiaaTbJ
import Derived.Maps.RangeWalk
namespace Go.Proofs.Ytfidgmpeiabhiaa
open Go.RowKit Go.Maps

/-- what has been collected -/
structure Coll (p : List Int) (D : DataW Unit) (left : Lit → Bool) (l : List En) : Prop where
  at_ : ∀ x ∈ l, 0 ≤ x.org ∧ ∃ i : Nat, findP x.org p = some i ∧ x.idx = (i : Int)
  one : l.Pairwise (fun x y => x.org ≠ y.org)
  all : ∀ o, 0 ≤ o → (findP o p).isSome = true → left (.int .i64 o) = false → ∃ x ∈ l, x.org = o
  out : ∀ x ∈ l, left (.int .i64 x.org) = false
  has_ : ∀ z, left z = true → Maps.has D z = true
theorem keyO (o : Int) : WideAt.IsKeyLit (.int .i64 o) := trivial
theorem Coll.start {p : List Int} {D : DataW Unit} (h1 : ∀ o : Int, (Lit.int .i64 o).wf = true → Maps.has D (.int .i64 o) = (decide (0 ≤ o) && (findP o p).isSome)) (hp : Tok p) : Coll p D (Maps.has D) [] :=
  ⟨(fun _ h => by cases h), List.Pairwise.nil, (fun o h0 hf hl => by
    exfalso
    obtain ⟨i, hi⟩ := Option.isSome_iff_exists.1 hf
    obtain ⟨hil, hio, _⟩ := findP_some hi
    have hb := hp.lo o (hio ▸ List.getElem_mem _)
    rw [h1 o (wfI (by omega)), hf] at hl
    simp [h0] at hl), (fun _ h => by cases h), fun _ h => h⟩
theorem Coll.step {p : List Int} {D : DataW Unit} {left : Lit → Bool} {l : List En} {x c : Int} (h : Coll p D left l) (h1 : ∀ o : Int, (Lit.int .i64 o).wf = true → Maps.has D (.int .i64 o) = (decide (0 ≤ o) && (findP o p).isSome)) (h2 : ∀ (o : Int) (i : Nat) (z : DataW Unit), 0 ≤ o → findP o p = some i → D.atKey (.int .i64 o) z = .lit (.int .i64 i))
    (hw : (Lit.int .i64 x).wf = true) (hl : left (.int .i64 x) = true) (hat : ∀ zd, D.atKey (.int .i64 x) zd = .lit (.int .i64 c)) : Coll p D (fun z => left z && !z.sameKey (.int .i64 x)) (l ++ [⟨x, c⟩]) := by
  have h3 := h.has_ _ hl
  rw [h1 x hw] at h3
  simp only [Bool.and_eq_true, decide_eq_true_eq] at h3
  obtain ⟨i, hi⟩ := Option.isSome_iff_exists.1 h3.2
  have h4 := hat (.lit (.int .i64 0))
  rw [h2 x i _ h3.1 hi] at h4
  injection h4 with h4
  injection h4 with _ h4
  refine ⟨fun y hy => ?_, ?_, fun o h0 hf hlo => ?_, fun y hy => ?_, fun z hz => ?_⟩
  · rcases List.mem_append.1 hy with hy | hy
    · exact h.at_ y hy
    · obtain rfl := List.mem_singleton.1 hy
      exact ⟨h3.1, i, hi, h4.symm⟩
  · rw [List.pairwise_append]
    refine ⟨h.one, List.pairwise_singleton _ _, fun a ha b hb => ?_⟩
    obtain rfl := List.mem_singleton.1 hb
    intro e
    have := h.out a ha
    rw [show a.org = x from e] at this
    rw [this] at hl
    cases hl
  · by_cases hox : o = x
    · exact ⟨⟨x, c⟩, List.mem_append_right _ (List.mem_singleton.2 rfl), hox.symm⟩
    · have h5 : (Lit.int .i64 o).sameKey (.int .i64 x) = false := by
        rw [Bool.eq_false_iff]
        intro e
        have := WideAt.sameKey_eq e
        injection this with _ this
        exact hox this
      rw [h5] at hlo
      simp at hlo
      obtain ⟨y, hy, e⟩ := h.all o h0 hf hlo
      exact ⟨y, List.mem_append_left _ hy, e⟩
  · rcases List.mem_append.1 hy with hy | hy
    · simp [h.out y hy]
    · obtain rfl := List.mem_singleton.1 hy
      simp [WideAt.sameKey_self (keyO x)]
  · simp only [Bool.and_eq_true] at hz
    exact h.has_ z hz.1
theorem Coll.end_ {p : List Int} {D : DataW Unit} {left : Lit → Bool} {l l' : List En} (h : Coll p D left l) (hp : Tok p) (hl : ∀ z, left z = false) (hperm : l'.Perm l) (hs : l'.Pairwise (fun x y => x.org ≤ y.org)) : IsAll p l' := by
  have hne : l'.Pairwise (fun x y => x.org ≠ y.org) := (hperm.pairwise_iff (fun {a b} (h : a.org ≠ b.org) => h.symm)).2 h.one
  refine ⟨(hs.and hne).imp (fun ⟨a, b⟩ => by omega), fun x => ?_⟩
  rw [hperm.mem_iff]
  constructor
  · intro hx
    obtain ⟨h0, i, hi, e⟩ := h.at_ x hx
    obtain ⟨hil, hio, _⟩ := findP_some hi
    exact ⟨i, by rw [List.getElem?_eq_getElem hil, hio], h0, e⟩
  · rintro ⟨i, hi, h0, e⟩
    obtain ⟨hil, hio⟩ := List.getElem?_eq_some_iff.1 hi
    have hf : findP x.org p = some i := by
      have := hp.find hil (by omega)
      rwa [hio] at this
    obtain ⟨y, hy, ey⟩ := h.all x.org h0 (by rw [hf]; rfl) (hl _)
    obtain ⟨_, j, hj, e2⟩ := h.at_ y hy
    rw [ey, hf] at hj
    injection hj with hj
    have : x = y := by
      cases x; cases y
      simp only at ey e e2 ⊢
      rw [ey, e, e2, hj]
    rw [this]
    exact hy
end Go.Proofs.Ytfidgmpeiabhiaa
