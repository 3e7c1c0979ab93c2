/- Tables: the document's: All; whether two lists of exceptions are one. -/
import Derived.Test.YtfidgmpeiabhiaaTbS
namespace Go.Proofs.Ytfidgmpeiabhiaa
open Go.RowKit Go.Maps

theorem count_less {p : List Int} {f g : Int → Bool} (h : ∀ x, f x = true → g x = true) : ∀ {x : Int}, x ∈ p → g x = true → f x = false → p.countP f + 1 ≤ p.countP g := by
  induction p with
  | nil => intro x hx; cases hx
  | cons y t ih =>
    intro x hx hg hf
    have hle : t.countP f ≤ t.countP g := List.countP_mono_left fun z _ hz => h z hz
    rw [List.countP_cons, List.countP_cons]
    rcases List.mem_cons.1 hx with rfl | hx
    · rw [hg, hf]
      simp
      omega
    · have := ih hx hg hf
      by_cases hy : f y = true
      · rw [hy, h y hy]
        omega
      · simp [hy]
        omega
/-- the least one behind 'last' among the first k -/
def Best (p : List Int) (last : Int) (k : Nat) (b : Int) : Prop :=
  (b = -1 ∧ ∀ j, (hj : j < p.length) → j < k → p[j] ≤ last) ∨ (∃ (c : Nat) (hc : c < p.length), b = (c : Int) ∧ c < k ∧ last < p[c] ∧ ∀ j, (hj : j < p.length) → j < k → last < p[j] → p[c] ≤ p[j])
theorem Best.skip {p : List Int} {last b : Int} {k : Nat} (h : Best p last k b) (hk : k < p.length) (hl : p[k] ≤ last) : Best p last (k + 1) b := by
  rcases h with ⟨h1, h2⟩ | ⟨c, hc, h1, h2, h3, h4⟩
  · refine .inl ⟨h1, fun j hj hjk => ?_⟩
    rcases Nat.lt_or_ge j k with h | h
    · exact h2 j hj h
    · obtain rfl : j = k := by omega
      exact hl
  · refine .inr ⟨c, hc, h1, by omega, h3, fun j hj hjk hlj => ?_⟩
    rcases Nat.lt_or_ge j k with h | h
    · exact h4 j hj h hlj
    · obtain rfl : j = k := by omega
      omega
theorem Best.first {p : List Int} {last b : Int} {k : Nat} (h : Best p last k b) (hb : b < 0) (hk : k < p.length) (hl : last < p[k]) : Best p last (k + 1) (k : Int) := by
  rcases h with ⟨h1, h2⟩ | ⟨c, hc, h1, h2, h3, h4⟩
  · refine .inr ⟨k, hk, rfl, by omega, hl, fun j hj hjk hlj => ?_⟩
    rcases Nat.lt_or_ge j k with h | h
    · have := h2 j hj h
      omega
    · obtain rfl : j = k := by omega
      exact Int.le_refl _
  · omega
theorem Best.less {p : List Int} {last : Int} {k c : Nat} (h : Best p last k (c : Int)) (hc : c < p.length) (hk : k < p.length) (hl : last < p[k]) (hlt : p[k] < p[c]) : Best p last (k + 1) (k : Int) := by
  rcases h with ⟨h1, _⟩ | ⟨d, hd, h1, h2, h3, h4⟩
  · omega
  · obtain rfl : c = d := by omega
    refine .inr ⟨k, hk, rfl, by omega, hl, fun j hj hjk hlj => ?_⟩
    rcases Nat.lt_or_ge j k with h | h
    · have := h4 j hj h hlj
      omega
    · obtain rfl : j = k := by omega
      exact Int.le_refl _
theorem Best.keep {p : List Int} {last : Int} {k c : Nat} (h : Best p last k (c : Int)) (hc : c < p.length) (hk : k < p.length) (hlt : ¬ p[k] < p[c]) : Best p last (k + 1) (c : Int) := by
  rcases h with ⟨h1, _⟩ | ⟨d, hd, h1, h2, h3, h4⟩
  · omega
  · obtain rfl : c = d := by omega
    refine .inr ⟨c, hc, rfl, by omega, h3, fun j hj hjk hlj => ?_⟩
    rcases Nat.lt_or_ge j k with h | h
    · exact h4 j hj h hlj
    · obtain rfl : j = k := by omega
      omega
structure AllI (p : List Int) (last : Int) (l : List En) : Prop where
  lo : -1 ≤ last ∧ last ≤ 2147483646
  rise : Rise l
  mem : ∀ x, x ∈ l ↔ ∃ i : Nat, p[i]? = some x.org ∧ 0 ≤ x.org ∧ x.org ≤ last ∧ x.idx = (i : Int)
  cnt : l.length + p.countP (fun x => decide (last < x)) ≤ p.length
theorem AllI.start (p : List Int) : AllI p (-1) [] := by
  refine ⟨by omega, List.Pairwise.nil, fun x => ⟨(fun h => by cases h), fun ⟨i, _, h1, h2, _⟩ => by omega⟩, ?_⟩
  have := List.countP_le_length (p := fun x : Int => decide (-1 < x)) (l := p)
  simpa using this
theorem AllI.step {p : List Int} {last : Int} {l : List En} (h : AllI p last l) (hp : Tok p) {c : Nat} (hc : c < p.length) (hb : Best p last p.length (c : Int)) : AllI p p[c] (l ++ [⟨p[c], c⟩]) := by
  rcases hb with ⟨h1, _⟩ | ⟨d, hd, h1, h2, h3, h4⟩
  · omega
  · obtain rfl : c = d := by omega
    have hlo := h.lo
    have hpc := hp.lo p[c] (List.getElem_mem _)
    refine ⟨by omega, ?_, fun x => ?_, ?_⟩
    · rw [Rise, List.pairwise_append]
      refine ⟨h.rise, List.pairwise_singleton _ _, fun a ha b hb => ?_⟩
      obtain rfl := List.mem_singleton.1 hb
      obtain ⟨i, _, _, h6, _⟩ := (h.mem a).1 ha
      show a.org < p[c]
      omega
    · rw [List.mem_append, h.mem x, List.mem_singleton]
      constructor
      · rintro (⟨i, h5, h6, h7, h8⟩ | rfl)
        · exact ⟨i, h5, h6, by omega, h8⟩
        · exact ⟨c, List.getElem?_eq_getElem hc, by show 0 ≤ p[c]; omega, Int.le_refl _, rfl⟩
      · rintro ⟨i, h5, h6, h7, h8⟩
        by_cases h9 : x.org ≤ last
        · exact .inl ⟨i, h5, h6, h9, h8⟩
        · obtain ⟨hil, hio⟩ := List.getElem?_eq_some_iff.1 h5
          have h10 := h4 i hil hil (by omega)
          have h11 : p[i] = p[c] := by omega
          have := hp.one i c hil hc h11 (by omega)
          subst this
          refine .inr ?_
          cases x
          simp only at hio h8 ⊢
          rw [hio, h8]
    · rw [List.length_append, List.length_singleton]
      have h5 := count_less (p := p) (f := fun x => decide (p[c] < x)) (g := fun x => decide (last < x)) (fun x hx => by simp only [decide_eq_true_eq] at hx ⊢; omega) (List.getElem_mem hc) (by simpa using h3) (by simp)
      have := h.cnt
      omega
theorem AllI.end_ {p : List Int} {last : Int} {l : List En} (h : AllI p last l) (hall : ∀ j, (hj : j < p.length) → j < p.length → p[j] ≤ last) : IsAll p l := by
  refine ⟨h.rise, fun x => ?_⟩
  rw [h.mem x]
  constructor
  · rintro ⟨i, h5, h6, h7, h8⟩
    exact ⟨i, h5, h6, h8⟩
  · rintro ⟨i, h5, h6, h8⟩
    obtain ⟨hil, hio⟩ := List.getElem?_eq_some_iff.1 h5
    exact ⟨i, h5, h6, by rw [← hio]; exact hall i hil hil, h8⟩
end Go.Proofs.Ytfidgmpeiabhiaa
