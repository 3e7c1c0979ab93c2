/- Extents: plain law: gaps lie apart, hold just what is not used, and all that. -/
import Derived.Test.YtkbldbcjpdfopaaExL
namespace Go.Proofs.Ytkbldbcjpdfopaa
open Go.RowKit

/-- apart, with something between -/
def Sep (a b : Ex) : Prop := a.st + a.len < b.st
theorem chain_end {e : Int} : ∀ {L : List Ex} {at_ : Int}, Chain at_ (L ++ [⟨e, 0⟩]) → (∀ x ∈ L, 1 ≤ x.len) → at_ ≤ e ∧ ∀ x ∈ L, x.st + x.len ≤ e
  | [], at_, h, _ => ⟨h.1, fun x hx => by cases hx⟩
  | y :: t, at_, h, h1 => by
    obtain ⟨h2, h3⟩ := h
    obtain ⟨h4, h5⟩ := chain_end h3 (fun x hx => h1 x (List.mem_cons_of_mem _ hx))
    have h6 := h1 y (List.mem_cons_self ..)
    refine ⟨by omega, fun x hx => ?_⟩
    rcases List.mem_cons.1 hx with rfl | hx
    · exact h4
    · exact h5 x hx
theorem gapsF_in {e : Int} : ∀ {L : List Ex} {at_ : Int}, Chain at_ (L ++ [⟨e, 0⟩]) → (∀ x ∈ L, 1 ≤ x.len) → (∀ x ∈ gapsF at_ (L ++ [⟨e, 0⟩]), at_ ≤ x.st ∧ 1 ≤ x.len ∧ x.st + x.len ≤ e) ∧ (gapsF at_ (L ++ [⟨e, 0⟩])).Pairwise Sep
  | [], at_, h, _ => by
    have h1 : at_ ≤ e := h.1
    simp only [List.nil_append, gapsF, List.append_nil]
    split
    · refine ⟨fun x hx => ?_, List.pairwise_singleton _ _⟩
      obtain rfl := List.mem_singleton.1 hx
      dsimp only
      omega
    · exact ⟨fun x hx => (by cases hx), List.Pairwise.nil⟩
  | y :: t, at_, h, h1 => by
    obtain ⟨h2, h3⟩ := h
    have h6 := h1 y (List.mem_cons_self ..)
    obtain ⟨h7, _⟩ := chain_end h3 (fun x hx => h1 x (List.mem_cons_of_mem _ hx))
    obtain ⟨h4, h5⟩ := gapsF_in h3 (fun x hx => h1 x (List.mem_cons_of_mem _ hx))
    rw [List.cons_append, gapsF]
    split
    · rename_i hlt
      refine ⟨fun x hx => ?_, ?_⟩
      · rcases List.mem_append.1 hx with hx | hx
        · obtain rfl := List.mem_singleton.1 hx
          dsimp only
          omega
        · have := h4 x hx
          omega
      · rw [List.pairwise_append]
        refine ⟨List.pairwise_singleton _ _, h5, fun a ha b hb => ?_⟩
        obtain rfl := List.mem_singleton.1 ha
        have := h4 b hb
        unfold Sep
        dsimp only
        omega
    · rw [List.nil_append]
      refine ⟨fun x hx => ?_, h5⟩
      have := h4 x hx
      omega
theorem gapsF_has {e : Int} : ∀ {L : List Ex} {at_ : Int}, Chain at_ (L ++ [⟨e, 0⟩]) → (∀ x ∈ L, 1 ≤ x.len) → ∀ a, at_ ≤ a → a < e → ((∃ y ∈ gapsF at_ (L ++ [⟨e, 0⟩]), inX a y = true) ↔ ∀ x ∈ L, inX a x = false)
  | [], at_, h, _, a, ha, hae => by
    simp only [List.nil_append, gapsF, List.append_nil]
    rw [if_pos (by omega)]
    refine ⟨fun _ x hx => (by cases hx), fun _ => ⟨_, List.mem_singleton.2 rfl, ?_⟩⟩
    simp only [inX, Bool.and_eq_true, decide_eq_true_eq]
    omega
  | y :: t, at_, h, h1, a, ha, hae => by
    obtain ⟨h2, h3⟩ := h
    have h6 := h1 y (List.mem_cons_self ..)
    have h1t : ∀ x ∈ t, 1 ≤ x.len := fun x hx => h1 x (List.mem_cons_of_mem _ hx)
    obtain ⟨h4, _⟩ := gapsF_in h3 h1t
    have ih := gapsF_has h3 h1t a
    have hge : ∀ x ∈ t, y.st + y.len ≤ x.st := Chain.ge (l := t) (by
      have hh : ∀ {L : List Ex} {b : Int}, Chain b (L ++ [⟨e, 0⟩]) → Chain b L := by
        intro L
        induction L with
        | nil => exact fun _ => trivial
        | cons z u ihh => exact fun hc => ⟨hc.1, ihh hc.2⟩
      exact hh h3) h1t
    rw [List.cons_append, gapsF]
    rcases Int.lt_or_le a y.st with hlt | hle
    · rw [if_pos (by omega)]
      refine ⟨fun _ x hx => ?_, fun _ => ⟨_, List.mem_append_left _ (List.mem_singleton.2 rfl), ?_⟩⟩
      · have : a < x.st := by
          rcases List.mem_cons.1 hx with rfl | hx
          · exact hlt
          · have := hge x hx
            omega
        simp only [inX, Bool.and_eq_false_iff, decide_eq_false_iff_not]
        omega
      · simp only [inX, Bool.and_eq_true, decide_eq_true_eq]
        omega
    · have hfirst : ∀ z ∈ (if at_ < y.st then [(⟨at_, y.st - at_⟩ : Ex)] else []), inX a z = false := by
        intro z hz
        split at hz
        · obtain rfl := List.mem_singleton.1 hz
          simp only [inX, Bool.and_eq_false_iff, decide_eq_false_iff_not]
          omega
        · cases hz
      rcases Int.lt_or_le a (y.st + y.len) with hin | hout
      · constructor
        · rintro ⟨z, hz, hza⟩
          rcases List.mem_append.1 hz with hz | hz
          · rw [hfirst z hz] at hza
            cases hza
          · have := h4 z hz
            simp only [inX, Bool.and_eq_true, decide_eq_true_eq] at hza
            omega
        · intro hx
          have := hx y (List.mem_cons_self ..)
          simp only [inX, Bool.and_eq_false_iff, decide_eq_false_iff_not] at this
          omega
      · have hy : inX a y = false := by
          simp only [inX, Bool.and_eq_false_iff, decide_eq_false_iff_not]
          omega
        constructor
        · rintro ⟨z, hz, hza⟩
          rcases List.mem_append.1 hz with hz | hz
          · rw [hfirst z hz] at hza
            cases hza
          · intro x hx
            rcases List.mem_cons.1 hx with rfl | hx
            · exact hy
            · exact (ih hout hae).1 ⟨z, hz, hza⟩ x hx
        · intro hx
          obtain ⟨z, hz, hza⟩ := (ih hout hae).2 (fun x hxt => hx x (List.mem_cons_of_mem _ hxt))
          exact ⟨z, List.mem_append_right _ hz, hza⟩
theorem gapsF_sum {e : Int} : ∀ {L : List Ex} {at_ : Int}, Chain at_ (L ++ [⟨e, 0⟩]) → at_ + sumL (gapsF at_ (L ++ [⟨e, 0⟩])) + sumL L = e
  | [], at_, h => by
    have h1 : at_ ≤ e := h.1
    simp only [List.nil_append, gapsF, List.append_nil]
    split
    · rw [sumL_cons]
      simp only [sumL, List.map_nil, List.sum_nil]
      omega
    · simp only [sumL, List.map_nil, List.sum_nil] at *
      omega
  | y :: t, at_, h => by
    obtain ⟨h2, h3⟩ := h
    have ih := gapsF_sum h3
    rw [List.cons_append, gapsF, sumL_append, sumL_cons]
    split
    · rw [sumL_cons]
      simp only [sumL, List.map_nil, List.sum_nil] at *
      omega
    · simp only [sumL, List.map_nil, List.sum_nil] at *
      omega
theorem gapsF_apart {e : Int} : ∀ {L : List Ex} {at_ : Int}, Chain at_ (L ++ [⟨e, 0⟩]) → (∀ x ∈ L, 1 ≤ x.len) → ∀ x ∈ L, ∀ y ∈ gapsF at_ (L ++ [⟨e, 0⟩]), apartP x y
  | z :: t, at_, h, h1, x, hx, y, hy => by
    obtain ⟨h2, h3⟩ := h
    have h6 := h1 z (List.mem_cons_self ..)
    have h1t : ∀ x ∈ t, 1 ≤ x.len := fun x hx => h1 x (List.mem_cons_of_mem _ hx)
    obtain ⟨h4, _⟩ := gapsF_in h3 h1t
    have hge : ∀ x ∈ t, z.st + z.len ≤ x.st := Chain.ge (l := t) (by
      have hh : ∀ {L : List Ex} {b : Int}, Chain b (L ++ [⟨e, 0⟩]) → Chain b L := by
        intro L
        induction L with
        | nil => exact fun _ => trivial
        | cons z u ihh => exact fun hc => ⟨hc.1, ihh hc.2⟩
      exact hh h3) h1t
    rw [List.cons_append, gapsF] at hy
    rcases List.mem_append.1 hy with hy | hy
    · split at hy
      · obtain rfl := List.mem_singleton.1 hy
        right
        dsimp only
        rcases List.mem_cons.1 hx with rfl | hx
        · omega
        · have := hge x hx
          omega
      · cases hy
    · rcases List.mem_cons.1 hx with rfl | hx
      · left
        have := h4 y hy
        omega
      · exact gapsF_apart h3 h1t x hx y hy
/-- what is known of the gaps -/
structure GapsOk (r : Ex) (l g : List Ex) : Prop where
  inn : ∀ x ∈ g, withinP r x
  sep : g.Pairwise Sep
  has : ∀ a, r.st ≤ a → a < r.st + r.len → ((∃ y ∈ g, inX a y = true) ↔ hasX l a = false)
  sum : sumL g + sumL l = r.len
  apart : ∀ x ∈ l, ∀ y ∈ g, apartP x y
theorem gaps_ok {r : Ex} {l : List Ex} (h : rightX r l) : GapsOk r l (gapsX r l) := by
  have hp := srt_perm l
  have h2 := (rightX.perm hp).2 h
  have hc := (gaps_inv h).1
  have hl : ∀ x ∈ srt l, 1 ≤ x.len := fun x hx => (h2.2.1 x hx).1
  unfold gapsX
  obtain ⟨a1, a2⟩ := gapsF_in (e := r.st + r.len) hc hl
  refine ⟨fun x hx => ?_, a2, fun a ha hb => ?_, ?_, fun x hx y hy => gapsF_apart (e := r.st + r.len) hc hl x (hp.mem_iff.2 hx) y hy⟩
  · have := a1 x hx
    unfold withinP
    omega
  · rw [show lastX r = ⟨r.st + r.len, 0⟩ from rfl, gapsF_has (e := r.st + r.len) hc hl a ha hb, hasX, List.any_eq_false]
    constructor
    · intro h x hx
      rw [h x (hp.mem_iff.2 hx)]
      decide
    · intro h x hx
      have := h x (hp.mem_iff.1 hx)
      simpa using this
  · have := gapsF_sum (e := r.st + r.len) hc
    rw [sumL_perm hp] at this
    rw [show lastX r = ⟨r.st + r.len, 0⟩ from rfl]
    omega
/-- the gaps as far as 'at' -/
def cutG (a : Int) : List Ex → List Ex
  | [] => []
  | x :: t => if x.st < a then ⟨x.st, min x.len (a - x.st)⟩ :: cutG a t else []
/-- does a gap go as far as 'at'? -/
def goesG (a : Int) (g : List Ex) : Bool := g.any fun x => decide (x.st < a) && decide (a ≤ x.st + x.len)
theorem cutG_none {a : Int} : ∀ {g : List Ex}, (∀ x ∈ g, a ≤ x.st) → cutG a g = []
  | [], _ => rfl
  | x :: _, h => by
    rw [cutG, if_neg]
    have := h x (List.mem_cons_self ..)
    omega
theorem cutG_all {a : Int} : ∀ {g : List Ex}, (∀ x ∈ g, x.st < a ∧ x.st + x.len ≤ a) → cutG a g = g
  | [], _ => rfl
  | x :: t, h => by
    obtain ⟨h1, h2⟩ := h x (List.mem_cons_self ..)
    rw [cutG, if_pos h1, cutG_all (fun y hy => h y (List.mem_cons_of_mem _ hy)), Int.min_eq_left (by omega)]
theorem cutG_append {a : Int} : ∀ {g g2 : List Ex}, (∀ x ∈ g, x.st < a ∧ x.st + x.len ≤ a) → cutG a (g ++ g2) = g ++ cutG a g2
  | [], _, _ => rfl
  | x :: t, g2, h => by
    obtain ⟨h1, h2⟩ := h x (List.mem_cons_self ..)
    rw [List.cons_append, cutG, if_pos h1, cutG_append (fun y hy => h y (List.mem_cons_of_mem _ hy)), Int.min_eq_left (by omega), List.cons_append]
/-- one sector on -/
theorem cut_used {r : Ex} {l g : List Ex} (h : GapsOk r l g) {a : Int} (h0 : r.st ≤ a) (h1 : a < r.st + r.len) (hu : hasX l a = true) : cutG (a + 1) g = cutG a g ∧ goesG (a + 1) g = false := by
  have hno : ∀ y ∈ g, y.st ≤ a → y.st + y.len ≤ a := fun y hy hle => by
    rcases Int.lt_or_le a (y.st + y.len) with hlt | hge
    · have := (h.has a h0 h1).1 ⟨y, hy, by simp only [inX, Bool.and_eq_true, decide_eq_true_eq]; omega⟩
      rw [hu] at this
      cases this
    · exact hge
  refine ⟨?_, ?_⟩
  · have hin := h.inn
    clear h
    induction g with
    | nil => rfl
    | cons x t ih =>
      have hx := hin x (List.mem_cons_self ..)
      unfold withinP at hx
      have hxn := hno x (List.mem_cons_self ..)
      have ih' := ih (fun y hy => hno y (List.mem_cons_of_mem _ hy)) (fun y hy => hin y (List.mem_cons_of_mem _ hy))
      rcases Int.lt_or_le x.st a with hlt | hge
      · rw [cutG, cutG, if_pos (by omega), if_pos hlt, ih', Int.min_eq_left (by have := hxn (by omega); omega), Int.min_eq_left (by have := hxn (by omega); omega)]
      · have : x.st ≠ a := fun e => by
          have := hxn (by omega)
          omega
        rw [cutG, cutG, if_neg (by omega), if_neg (by omega)]
  · unfold goesG
    rw [List.any_eq_false]
    intro y hy hb
    simp only [Bool.and_eq_true, decide_eq_true_eq] at hb
    have := hno y hy (by omega)
    omega
theorem cut_split {r : Ex} {l g : List Ex} (h : GapsOk r l g) {a : Int} (h0 : r.st ≤ a) (h1 : a < r.st + r.len) (hu : hasX l a = false) : ∃ g1 y g2, g = g1 ++ y :: g2 ∧ (∀ x ∈ g1, x.st < a ∧ x.st + x.len < y.st) ∧ (y.st ≤ a ∧ a < y.st + y.len) ∧ (∀ x ∈ g2, a + 1 < x.st) := by
  obtain ⟨y, hy, hya⟩ := (h.has a h0 h1).2 hu
  simp only [inX, Bool.and_eq_true, decide_eq_true_eq] at hya
  obtain ⟨g1, g2, rfl⟩ := List.append_of_mem hy
  have hs := h.sep
  rw [List.pairwise_append, List.pairwise_cons] at hs
  refine ⟨g1, y, g2, rfl, fun x hx => ?_, hya, fun x hx => ?_⟩
  · have := hs.2.2 x hx y (List.mem_cons_self ..)
    have h3 := h.inn x (List.mem_append_left _ hx)
    unfold Sep at this
    unfold withinP at h3
    omega
  · have := hs.2.1.1 x hx
    unfold Sep at this
    omega
theorem cut_goes {r : Ex} {l g : List Ex} (h : GapsOk r l g) {a : Int} (h0 : r.st ≤ a) (h1 : a < r.st + r.len) (hu : hasX l a = false) (hg : goesG a g = true) : ∃ c x, cutG a g = c ++ [x] ∧ cutG (a + 1) g = c ++ [⟨x.st, x.len + 1⟩] ∧ goesG (a + 1) g = true ∧ 1 ≤ x.len ∧ x.len ≤ a - r.st := by
  obtain ⟨g1, y, g2, rfl, b1, b2, b3⟩ := cut_split h h0 h1 hu
  have hyl : y.st < a := by
    unfold goesG at hg
    rw [List.any_eq_true] at hg
    obtain ⟨x, hx, hb⟩ := hg
    simp only [Bool.and_eq_true, decide_eq_true_eq] at hb
    rcases List.mem_append.1 hx with hx | hx
    · have := b1 x hx
      omega
    · rcases List.mem_cons.1 hx with rfl | hx
      · exact hb.1
      · have := b3 x hx
        omega
  have hyr := h.inn y (List.mem_append_right _ (List.mem_cons_self ..))
  unfold withinP at hyr
  refine ⟨g1, ⟨y.st, a - y.st⟩, ?_, ?_, ?_, by dsimp only; omega, by dsimp only; omega⟩
  · rw [cutG_append (fun x hx => by have := b1 x hx; omega), cutG, if_pos hyl, cutG_none (fun x hx => by have := b3 x hx; omega), Int.min_eq_right (by omega)]
  · rw [cutG_append (fun x hx => by have := b1 x hx; omega), cutG, if_pos (by omega), cutG_none (fun x hx => by have := b3 x hx; omega), Int.min_eq_right (by omega)]
    dsimp only
    rw [show a + 1 - y.st = a - y.st + 1 by omega]
  · unfold goesG
    rw [List.any_eq_true]
    refine ⟨y, List.mem_append_right _ (List.mem_cons_self ..), ?_⟩
    simp only [Bool.and_eq_true, decide_eq_true_eq]
    omega
theorem cut_new {r : Ex} {l g : List Ex} (h : GapsOk r l g) {a : Int} (h0 : r.st ≤ a) (h1 : a < r.st + r.len) (hu : hasX l a = false) (hg : goesG a g = false) : cutG (a + 1) g = cutG a g ++ [⟨a, 1⟩] ∧ goesG (a + 1) g = true := by
  obtain ⟨g1, y, g2, rfl, b1, b2, b3⟩ := cut_split h h0 h1 hu
  have hyl : y.st = a := by
    rcases Int.lt_or_le y.st a with hlt | hge
    · unfold goesG at hg
      rw [List.any_eq_false] at hg
      exfalso
      refine hg y (List.mem_append_right _ (List.mem_cons_self ..)) ?_
      simp only [Bool.and_eq_true, decide_eq_true_eq]
      omega
    · omega
  refine ⟨?_, ?_⟩
  · rw [cutG_append (fun x hx => by have := b1 x hx; omega), cutG_append (fun x hx => by have := b1 x hx; omega), cutG, cutG, if_pos (by omega), if_neg (by omega), cutG_none (fun x hx => by have := b3 x hx; omega), Int.min_eq_right (by omega), List.append_nil, hyl]
    rw [show a + 1 - a = 1 by omega]
  · unfold goesG
    rw [List.any_eq_true]
    refine ⟨y, List.mem_append_right _ (List.mem_cons_self ..), ?_⟩
    simp only [Bool.and_eq_true, decide_eq_true_eq]
    omega
end Go.Proofs.Ytkbldbcjpdfopaa
