/- Extents: plain law: which may be used, in order and out of order. -/
import Derived.Test.YtkbldbcjpdfopaaExD
namespace Go.Proofs.Ytkbldbcjpdfopaa

def inB (n : Int) : Bool := decide (0 ≤ n) && decide (n ≤ 1048576)
theorem inB_iff {n : Int} : inB n = true ↔ 0 ≤ n ∧ n ≤ 1048576 := by simp [inB]
/-- is one wrong behind 'at'? -/
def badB (r : Ex) (at_ : Int) (x : Ex) : Bool := decide (x.len < 1) || decide (x.st < at_) || decide (r.len < x.st - r.st) || decide (r.len - (x.st - r.st) < x.len)
theorem badB_no {r x : Ex} {at_ : Int} : badB r at_ x = false ↔ 1 ≤ x.len ∧ at_ ≤ x.st ∧ x.st + x.len ≤ r.st + r.len := by
  simp only [badB, Bool.or_eq_false_iff, decide_eq_false_iff_not]
  constructor
  · rintro ⟨⟨⟨h1, h2⟩, h3⟩, h4⟩
    omega
  · rintro ⟨h1, h2, h3⟩
    omega
def fitsL (r : Ex) : Int → List Ex → Bool
  | _, [] => true
  | at_, x :: t => !badB r at_ x && fitsL r (x.st + x.len) t
def apartP (a b : Ex) : Prop := a.st + a.len ≤ b.st ∨ b.st + b.len ≤ a.st
theorem apartP.symm {a b : Ex} (h : apartP a b) : apartP b a := Or.symm h
def withinP (r x : Ex) : Prop := 1 ≤ x.len ∧ r.st ≤ x.st ∧ x.st + x.len ≤ r.st + r.len
/-- may they be used? -/
def rightX (r : Ex) (l : List Ex) : Prop := (inB r.st = true ∧ inB r.len = true) ∧ (∀ x ∈ l, withinP r x) ∧ l.Pairwise apartP
noncomputable instance decRight (r : Ex) (l : List Ex) : Decidable (rightX r l) := Classical.propDecidable _
noncomputable def rightB (r : Ex) (l : List Ex) : Bool := decide (rightX r l)
theorem rightB_iff {r : Ex} {l : List Ex} : rightB r l = true ↔ rightX r l := by
  unfold rightB
  exact decide_eq_true_iff
theorem rightB_no {r : Ex} {l : List Ex} (h : ¬ rightX r l) : rightB r l = false := by
  unfold rightB
  exact decide_eq_false h
theorem rightX.perm {r : Ex} {l l' : List Ex} (hp : l'.Perm l) : rightX r l' ↔ rightX r l := by
  unfold rightX
  rw [hp.pairwise_iff (fun {a b} => apartP.symm)]
  constructor
  · rintro ⟨h1, h2, h3⟩
    exact ⟨h1, fun x hx => h2 x (hp.mem_iff.2 hx), h3⟩
  · rintro ⟨h1, h2, h3⟩
    exact ⟨h1, fun x hx => h2 x (hp.mem_iff.1 hx), h3⟩
/-- one behind the other -/
def Chain : Int → List Ex → Prop
  | _, [] => True
  | at_, x :: t => at_ ≤ x.st ∧ Chain (x.st + x.len) t
theorem fitsL_iff {r : Ex} : ∀ {l : List Ex} {at_ : Int}, fitsL r at_ l = true ↔ Chain at_ l ∧ ∀ x ∈ l, 1 ≤ x.len ∧ x.st + x.len ≤ r.st + r.len
  | [], at_ => by simp [fitsL, Chain]
  | x :: t, at_ => by
    rw [fitsL, Bool.and_eq_true, Bool.not_eq_true', badB_no, fitsL_iff, Chain]
    constructor
    · rintro ⟨⟨h1, h2, h3⟩, h4, h5⟩
      refine ⟨⟨h2, h4⟩, fun y hy => ?_⟩
      rcases List.mem_cons.1 hy with rfl | hy
      · exact ⟨h1, h3⟩
      · exact h5 y hy
    · rintro ⟨⟨h2, h4⟩, h5⟩
      have := h5 x (List.mem_cons_self ..)
      exact ⟨⟨this.1, h2, this.2⟩, h4, fun y hy => h5 y (List.mem_cons_of_mem _ hy)⟩
theorem Chain.ge : ∀ {l : List Ex} {at_ : Int}, Chain at_ l → (∀ x ∈ l, 1 ≤ x.len) → ∀ x ∈ l, at_ ≤ x.st
  | y :: _, _, h, h1, x, hx => by
    rcases List.mem_cons.1 hx with rfl | hx
    · exact h.1
    · have h2 := Chain.ge h.2 (fun z hz => h1 z (List.mem_cons_of_mem _ hz)) x hx
      have h3 := h1 y (List.mem_cons_self ..)
      have h4 := h.1
      omega
theorem Chain.pair : ∀ {l : List Ex} {at_ : Int}, Chain at_ l → (∀ x ∈ l, 1 ≤ x.len) → l.Pairwise (fun a b => a.st + a.len ≤ b.st)
  | [], _, _, _ => List.Pairwise.nil
  | _ :: _, _, h, h1 => List.pairwise_cons.2 ⟨fun x hx => Chain.ge h.2 (fun z hz => h1 z (List.mem_cons_of_mem _ hz)) x hx, Chain.pair h.2 (fun z hz => h1 z (List.mem_cons_of_mem _ hz))⟩
theorem Chain.of_pair : ∀ {l : List Ex} {at_ : Int}, l.Pairwise (fun a b => a.st + a.len ≤ b.st) → (∀ x ∈ l, at_ ≤ x.st) → Chain at_ l
  | [], _, _, _ => trivial
  | y :: _, _, h, h1 => ⟨h1 y (List.mem_cons_self ..), Chain.of_pair (List.pairwise_cons.1 h).2 (fun x hx => (List.pairwise_cons.1 h).1 x hx)⟩
/-- sorted ones may be used just if each fits behind the one ahead -/
theorem fits_right {r : Ex} {l : List Ex} (hs : l.Pairwise (fun x y => x.st ≤ y.st)) (h : inB r.st = true ∧ inB r.len = true) : fitsL r r.st l = true ↔ rightX r l := by
  rw [fitsL_iff]
  constructor
  · rintro ⟨h1, h2⟩
    refine ⟨h, fun x hx => ⟨(h2 x hx).1, Chain.ge h1 (fun z hz => (h2 z hz).1) x hx, (h2 x hx).2⟩, (Chain.pair h1 (fun z hz => (h2 z hz).1)).imp fun h => .inl h⟩
  · rintro ⟨_, h2, h3⟩
    refine ⟨Chain.of_pair ?_ (fun x hx => (h2 x hx).2.1), fun x hx => ⟨(h2 x hx).1, (h2 x hx).2.2⟩⟩
    rw [List.pairwise_iff_getElem] at hs h3 ⊢
    intro i j hi hj hij
    have a1 := hs i j hi hj hij
    have a2 := (h2 l[j] (List.getElem_mem _)).1
    rcases h3 i j hi hj hij with a3 | a3
    · exact a3
    · omega
def sumL (l : List Ex) : Int := (l.map (·.len)).sum
theorem sumL_cons (x : Ex) (t : List Ex) : sumL (x :: t) = x.len + sumL t := by simp [sumL]
theorem sumL_append (a b : List Ex) : sumL (a ++ b) = sumL a + sumL b := by simp [sumL]
theorem sumL_perm {l l' : List Ex} (h : l'.Perm l) : sumL l' = sumL l := by
  induction h with
  | nil => rfl
  | cons x _ ih => rw [sumL_cons, sumL_cons, ih]
  | swap x y t => rw [sumL_cons, sumL_cons, sumL_cons, sumL_cons]; omega
  | trans _ _ h1 h2 => rw [h1, h2]
theorem sumL_nonneg : ∀ {l : List Ex}, (∀ x ∈ l, 1 ≤ x.len) → (l.length : Int) ≤ sumL l
  | [], _ => by simp [sumL]
  | x :: t, h => by
    have h1 := sumL_nonneg (l := t) (fun y hy => h y (List.mem_cons_of_mem _ hy))
    have h2 := h x (List.mem_cons_self ..)
    rw [sumL_cons, List.length_cons]
    omega
theorem chain_sum {e : Int} : ∀ {l : List Ex} {at_ : Int}, Chain at_ l → at_ ≤ e → (∀ x ∈ l, 1 ≤ x.len ∧ x.st + x.len ≤ e) → at_ + sumL l ≤ e
  | [], at_, _, h, _ => by simpa [sumL] using h
  | x :: t, at_, h, he, h1 => by
    have h2 := h1 x (List.mem_cons_self ..)
    have h3 := chain_sum h.2 h2.2 (fun y hy => h1 y (List.mem_cons_of_mem _ hy))
    have h4 := h.1
    rw [sumL_cons]
    omega
/-- in order -/
def ins (x : Ex) : List Ex → List Ex
  | [] => [x]
  | y :: t => if x.st ≤ y.st then x :: y :: t else y :: ins x t
def srt (l : List Ex) : List Ex := l.foldr ins []
theorem ins_perm (x : Ex) : ∀ l : List Ex, (ins x l).Perm (x :: l)
  | [] => List.Perm.refl _
  | y :: t => by
    unfold ins
    split
    · exact List.Perm.refl _
    · exact ((ins_perm x t).cons y).trans (List.Perm.swap x y t)
theorem srt_perm : ∀ l : List Ex, (srt l).Perm l
  | [] => List.Perm.refl _
  | x :: t => (ins_perm x (srt t)).trans ((srt_perm t).cons x)
theorem ins_sorted (x : Ex) : ∀ {l : List Ex}, l.Pairwise (fun a b => a.st ≤ b.st) → (ins x l).Pairwise (fun a b => a.st ≤ b.st)
  | [], _ => List.pairwise_singleton _ _
  | y :: t, h => by
    obtain ⟨h1, h2⟩ := List.pairwise_cons.1 h
    unfold ins
    split
    · rename_i hxy
      refine List.pairwise_cons.2 ⟨fun z hz => ?_, h⟩
      rcases List.mem_cons.1 hz with rfl | hz
      · exact hxy
      · have := h1 z hz
        omega
    · rename_i hxy
      refine List.pairwise_cons.2 ⟨fun z hz => ?_, ins_sorted x h2⟩
      rcases List.mem_cons.1 ((ins_perm x t).mem_iff.1 hz) with rfl | hz
      · omega
      · exact h1 z hz
theorem srt_sorted : ∀ l : List Ex, (srt l).Pairwise (fun a b => a.st ≤ b.st)
  | [] => List.Pairwise.nil
  | x :: t => ins_sorted x (srt_sorted t)
def RiseX : List Ex → Prop := List.Pairwise (fun x y => x.st < y.st)
theorem rise_one : ∀ {l l' : List Ex}, RiseX l → RiseX l' → (∀ x, x ∈ l ↔ x ∈ l') → l = l'
  | [], [], _, _, _ => rfl
  | [], y :: t, _, _, h => by
    have := (h y).2 (List.mem_cons_self ..)
    cases this
  | x :: s, [], _, _, h => by
    have := (h x).1 (List.mem_cons_self ..)
    cases this
  | x :: s, y :: t, h1, h2, h => by
    obtain ⟨a1, a2⟩ := List.pairwise_cons.1 h1
    obtain ⟨b1, b2⟩ := List.pairwise_cons.1 h2
    have hxy : x = y := by
      rcases List.mem_cons.1 ((h x).1 (List.mem_cons_self ..)) with e | hx
      · exact e
      · rcases List.mem_cons.1 ((h y).2 (List.mem_cons_self ..)) with e | hy
        · exact e.symm
        · have := b1 x hx
          have := a1 y hy
          omega
    subst hxy
    have : s = t := rise_one a2 b2 fun z => ⟨fun hz => by
        rcases List.mem_cons.1 ((h z).1 (List.mem_cons_of_mem _ hz)) with rfl | hz'
        · have := a1 z hz
          omega
        · exact hz', fun hz => by
        rcases List.mem_cons.1 ((h z).2 (List.mem_cons_of_mem _ hz)) with rfl | hz'
        · have := b1 z hz
          omega
        · exact hz'⟩
    rw [this]
theorem right_chain {r : Ex} {l : List Ex} (hs : l.Pairwise (fun x y => x.st ≤ y.st)) (h : rightX r l) : Chain r.st l ∧ ∀ x ∈ l, 1 ≤ x.len ∧ x.st + x.len ≤ r.st + r.len := fitsL_iff.1 ((fits_right hs h.1).2 h)
theorem right_rise {r : Ex} {l : List Ex} (hs : l.Pairwise (fun x y => x.st ≤ y.st)) (h : rightX r l) : RiseX l := by
  obtain ⟨h1, h2⟩ := right_chain hs h
  have h3 := Chain.pair h1 (fun x hx => (h2 x hx).1)
  unfold RiseX
  rw [List.pairwise_iff_getElem] at h3 ⊢
  intro i j hi hj hij
  have := h3 i j hi hj hij
  have := (h2 l[i] (List.getElem_mem _)).1
  omega
/-- however they are sorted, they come out alike -/
theorem srt_is {r : Ex} {l l' : List Ex} (hp : l'.Perm l) (hs : l'.Pairwise (fun x y => x.st ≤ y.st)) (h : rightX r l) : l' = srt l := by
  have h1 := (rightX.perm hp).2 h
  have h2 := (rightX.perm (srt_perm l)).2 h
  exact rise_one (right_rise hs h1) (right_rise (srt_sorted l) h2) fun x => by rw [hp.mem_iff, (srt_perm l).mem_iff]
theorem right_sum {r : Ex} {l : List Ex} (h : rightX r l) : (l.length : Int) ≤ sumL l ∧ sumL l ≤ r.len := by
  have h2 := (rightX.perm (srt_perm l)).2 h
  obtain ⟨h3, h4⟩ := right_chain (srt_sorted l) h2
  have h0 := inB_iff.1 h.1.2
  have h5 := chain_sum h3 (by omega) h4
  rw [sumL_perm (srt_perm l)] at h5
  exact ⟨sumL_nonneg (fun x hx => (h.2.1 x hx).1), by omega⟩
noncomputable def freeX (r : Ex) (l : List Ex) : Int := if rightB r l = true then r.len - sumL l else 0
end Go.Proofs.Ytkbldbcjpdfopaa
