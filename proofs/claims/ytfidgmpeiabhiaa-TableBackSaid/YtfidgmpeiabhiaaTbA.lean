/- Tables: plain law: what stands at each place. -/
import Derived.Test.YtfidgmpeiabhiaaBase
namespace Go.Proofs.Ytfidgmpeiabhiaa

structure En where
  org : Int
  idx : Int
  deriving DecidableEq
/-- may a chunk be one? -/
def rightB (o : Int) : Bool := decide (0 ≤ o) && decide (o ≤ 2147483646)
/-- where a number first stands -/
def findP (o : Int) : List Int → Option Nat
  | [] => none
  | x :: t => if x = o then some 0 else (findP o t).map (· + 1)
theorem findP_some {o : Int} : ∀ {p : List Int} {i : Nat}, findP o p = some i → ∃ h : i < p.length, p[i] = o ∧ ∀ j, (hj : j < i) → p[j]'(by omega) ≠ o
  | x :: t, i, h => by
    unfold findP at h
    by_cases hx : x = o
    · rw [if_pos hx] at h
      injection h with h
      subst h
      exact ⟨by simp, hx, fun j hj => by omega⟩
    · rw [if_neg hx] at h
      obtain ⟨k, hk, rfl⟩ := Option.map_eq_some_iff.1 h
      obtain ⟨h1, h2, h3⟩ := findP_some hk
      refine ⟨by simp; omega, by simpa using h2, fun j hj => ?_⟩
      cases j with
      | zero => exact hx
      | succ j => simpa using h3 j (by omega)
theorem findP_none {o : Int} : ∀ {p : List Int}, findP o p = none → ∀ x ∈ p, x ≠ o
  | [], _, _, h => by cases h
  | y :: t, h, x, hx => by
    unfold findP at h
    by_cases hy : y = o
    · rw [if_pos hy] at h
      cases h
    · rw [if_neg hy] at h
      rcases List.mem_cons.1 hx with rfl | hx
      · exact hy
      · exact findP_none (by simpa using h) x hx
theorem findP_of {o : Int} {p : List Int} {i : Nat} (hi : i < p.length) (h : p[i] = o) (hu : ∀ j, (hj : j < i) → p[j]'(by omega) ≠ o) : findP o p = some i := by
  cases hf : findP o p with
  | none => exact absurd h (findP_none hf _ (List.getElem_mem _))
  | some k =>
    obtain ⟨h1, h2, h3⟩ := findP_some hf
    rcases Nat.lt_trichotomy k i with hk | hk | hk
    · exact absurd h2 (hu k hk)
    · rw [hk]
    · exact absurd h (h3 i hk)
theorem findP_no {o : Int} {p : List Int} (h : ∀ x ∈ p, x ≠ o) : findP o p = none := by
  cases hf : findP o p with
  | none => rfl
  | some k =>
    obtain ⟨h1, h2, _⟩ := findP_some hf
    exact absurd h2 (h _ (List.getElem_mem _))
/-- the table is sound -/
structure Tok (p : List Int) : Prop where
  lo : ∀ x ∈ p, -1 ≤ x ∧ x ≤ 2147483646
  one : ∀ i j, (hi : i < p.length) → (hj : j < p.length) → p[i] = p[j] → 0 ≤ p[i] → i = j
/-- how many exceptions there are -/
def lenP (p : List Int) : Nat := p.countP (fun x => decide (0 ≤ x))
theorem lenP_le (p : List Int) : lenP p ≤ p.length := List.countP_le_length
theorem Tok.find {p : List Int} (h : Tok p) {i : Nat} (hi : i < p.length) (h0 : 0 ≤ p[i]) : findP p[i] p = some i :=
  findP_of hi rfl fun j hj e => by
    have := h.one j i (by omega) hi e (by rw [e]; exact h0)
    omega
theorem Tok.free {p : List Int} (h : Tok p) {x : Int} (hx : x ∈ p) (hn : x < 0) : x = -1 := by
  have := (h.lo x hx).1
  omega
theorem lenP_set {p : List Int} {i : Nat} (hi : i < p.length) (o : Int) : lenP (p.set i o) + (if 0 ≤ p[i] then 1 else 0) = lenP p + (if 0 ≤ o then 1 else 0) := by
  induction p generalizing i with
  | nil => simp at hi
  | cons x t ih =>
    cases i with
    | zero =>
      simp only [List.set_cons_zero, lenP, List.countP_cons, List.getElem_cons_zero, decide_eq_true_eq]
      omega
    | succ i =>
      have := ih (i := i) (by simpa using hi)
      simp only [List.set_cons_succ, lenP, List.countP_cons, List.getElem_cons_succ, decide_eq_true_eq] at this ⊢
      omega
theorem Tok.put {p : List Int} (h : Tok p) {o : Int} {i : Nat} (ho : rightB o = true) (hn : findP o p = none) (_hi : i < p.length) : Tok (p.set i o) := by
  simp only [rightB, Bool.and_eq_true, decide_eq_true_eq] at ho
  refine ⟨fun x hx => ?_, fun a b ha hb e h0 => ?_⟩
  · rcases List.mem_or_eq_of_mem_set hx with hx | rfl
    · exact h.lo x hx
    · omega
  · simp only [List.length_set] at ha hb
    rw [List.getElem_set, List.getElem_set] at e
    rw [List.getElem_set] at h0
    by_cases h1 : i = a
    · by_cases h2 : i = b
      · omega
      · rw [if_pos h1, if_neg h2] at e
        exact absurd e.symm (findP_none hn _ (List.getElem_mem _))
    · by_cases h2 : i = b
      · rw [if_neg h1, if_pos h2] at e
        exact absurd e (findP_none hn _ (List.getElem_mem _))
      · rw [if_neg h1, if_neg h2] at e
        rw [if_neg h1] at h0
        exact h.one a b ha hb e h0
theorem Tok.drop {p : List Int} (h : Tok p) (i : Nat) : Tok (p.set i (-1)) := by
  refine ⟨fun x hx => ?_, fun a b ha hb e h0 => ?_⟩
  · rcases List.mem_or_eq_of_mem_set hx with hx | rfl
    · exact h.lo x hx
    · omega
  · simp only [List.length_set] at ha hb
    rw [List.getElem_set, List.getElem_set] at e
    rw [List.getElem_set] at h0
    by_cases h1 : i = a
    · rw [if_pos h1] at h0
      omega
    · by_cases h2 : i = b
      · rw [if_neg h1, if_pos h2] at e
        rw [if_neg h1] at h0
        omega
      · rw [if_neg h1, if_neg h2] at e
        rw [if_neg h1] at h0
        exact h.one a b ha hb e h0
theorem find_put {p : List Int} {o : Int} {i : Nat} (hn : findP o p = none) (hi : i < p.length) (hf : p[i] = -1) (x : Int) (hx : 0 ≤ x) : findP x (p.set i o) = if x = o then some i else findP x p := by
  by_cases hxo : x = o
  · subst hxo
    rw [if_pos rfl]
    refine findP_of (by simpa using hi) (by rw [List.getElem_set, if_pos rfl]) fun j hj => ?_
    rw [List.getElem_set, if_neg (by omega)]
    exact findP_none hn _ (List.getElem_mem _)
  · rw [if_neg hxo]
    cases hq : findP x p with
    | none =>
      refine findP_no fun y hy => ?_
      rcases List.mem_or_eq_of_mem_set hy with hy | rfl
      · exact findP_none hq y hy
      · exact fun e => hxo e.symm
    | some k =>
      obtain ⟨h1, h2, h3⟩ := findP_some hq
      have hki : i ≠ k := by
        rintro rfl
        omega
      refine findP_of (by simpa using h1) (by rw [List.getElem_set, if_neg hki, h2]) fun j hj => ?_
      rw [List.getElem_set]
      split
      · exact fun e => hxo e.symm
      · exact h3 j hj
theorem find_drop {p : List Int} (h : Tok p) {o : Int} {i : Nat} (hf : findP o p = some i) (ho : 0 ≤ o) (x : Int) (hx : 0 ≤ x) : findP x (p.set i (-1)) = if x = o then none else findP x p := by
  obtain ⟨g1, g2, g3⟩ := findP_some hf
  by_cases hxo : x = o
  · subst hxo
    rw [if_pos rfl]
    refine findP_no fun y hy => ?_
    rcases List.mem_iff_getElem.1 hy with ⟨j, hj, rfl⟩
    rw [List.getElem_set]
    simp only [List.length_set] at hj
    split
    · omega
    · rename_i hij
      intro e
      exact hij (h.one i j g1 hj (by rw [g2, e]) (by rw [g2]; exact ho))
  · rw [if_neg hxo]
    cases hq : findP x p with
    | none =>
      refine findP_no fun y hy => ?_
      rcases List.mem_or_eq_of_mem_set hy with hy | rfl
      · exact findP_none hq y hy
      · omega
    | some k =>
      obtain ⟨h1, h2, h3⟩ := findP_some hq
      have hki : i ≠ k := by
        rintro rfl
        exact hxo (h2.symm.trans g2)
      refine findP_of (by simpa using h1) (by rw [List.getElem_set, if_neg hki, h2]) fun j hj => ?_
      rw [List.getElem_set]
      split
      · omega
      · exact h3 j hj
/-- all exceptions, rising -/
def Rise : List En → Prop := List.Pairwise (fun x y => x.org < y.org)
def IsAll (p : List Int) (l : List En) : Prop := Rise l ∧ ∀ x, x ∈ l ↔ ∃ i : Nat, p[i]? = some x.org ∧ 0 ≤ x.org ∧ x.idx = (i : Int)
theorem rise_one : ∀ {l l' : List En}, Rise l → Rise l' → (∀ x, x ∈ l ↔ x ∈ l') → l = l'
  | [], [], _, _, _ => rfl
  | [], y :: t, _, _, h => by
    have := (h y).2 (List.mem_cons_self ..)
    cases this
  | x :: s, [], _, _, h => by
    have := (h x).1 (List.mem_cons_self ..)
    cases this
  | x :: s, y :: t, h1, h2, h => by
    obtain ⟨a1, a2⟩ := List.pairwise_cons.1 h1
    obtain ⟨b1, b2⟩ := List.pairwise_cons.1 h2
    have hxy : x = y := by
      rcases List.mem_cons.1 ((h x).1 (List.mem_cons_self ..)) with e | hx
      · exact e
      · rcases List.mem_cons.1 ((h y).2 (List.mem_cons_self ..)) with e | hy
        · exact e.symm
        · have := b1 x hx
          have := a1 y hy
          omega
    subst hxy
    have : s = t := rise_one a2 b2 fun z => ⟨fun hz => by
        rcases List.mem_cons.1 ((h z).1 (List.mem_cons_of_mem _ hz)) with rfl | hz'
        · have := a1 z hz
          omega
        · exact hz', fun hz => by
        rcases List.mem_cons.1 ((h z).2 (List.mem_cons_of_mem _ hz)) with rfl | hz'
        · have := b1 z hz
          omega
        · exact hz'⟩
    rw [this]
theorem IsAll.one {p : List Int} {l l' : List En} (h : IsAll p l) (h' : IsAll p l') : l = l' := rise_one h.1 h'.1 fun x => (h.2 x).trans (h'.2 x).symm
/-- a page's numbers -/
def pageP (p : List Int) (i : Nat) : List Int := (p.drop (13 * i)).take 13 ++ List.replicate (13 - ((p.drop (13 * i)).take 13).length) (-1)
theorem pageP_len (p : List Int) (i : Nat) : (pageP p i).length = 13 := by
  unfold pageP
  rw [List.length_append, List.length_replicate]
  have := List.length_take_le 13 (p.drop (13 * i))
  omega
theorem pageP_at (p : List Int) (i k : Nat) (hk : k < 13) : (pageP p i)[k]? = some (p[13 * i + k]?.getD (-1)) := by
  unfold pageP
  by_cases h : 13 * i + k < p.length
  · rw [List.getElem?_append_left (by rw [List.length_take, List.length_drop]; omega), List.getElem?_take_of_lt hk, List.getElem?_drop, List.getElem?_eq_getElem h]
    rfl
  · rw [List.getElem?_append_right (by rw [List.length_take, List.length_drop]; omega), List.getElem?_replicate_of_lt (by rw [List.length_take, List.length_drop]; omega), List.getElem?_eq_none (by omega)]
    rfl
end Go.Proofs.Ytfidgmpeiabhiaa
