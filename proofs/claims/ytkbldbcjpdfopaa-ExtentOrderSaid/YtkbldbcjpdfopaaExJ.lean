/- Extents: the document's small, apart. -/
import Derived.Test.YtkbldbcjpdfopaaExI
namespace Go.Proofs.Ytkbldbcjpdfopaa
open Go.RowKit

theorem ref_small (r : Ex) (w : World) : Calls Try.prog 21 #[exV r] w fun e w' => e = .returned (.bool (inB r.st && inB r.len)) ∧ Kept [] w w' := by
  obtain ⟨rs, rl⟩ := r
  unfold exV
  by_cases h0 : 0 ≤ rs
  · by_cases h1 : rs ≤ 1048576
    · by_cases h2 : 0 ≤ rl
      · by_cases h3 : rl ≤ 1048576
        · have hr : Hid ((inB rs && inB rl) = true) := by simp [Hid, inB, h0, h1, h2, h3]
          go_enter Try.func21, Try.ntmps21
          go_wp2_with fail
          go_ret
          exact ⟨by rw [hr.out]; rfl, (Kept.refl _ _).alloc _⟩
        · have hr : Hid ((inB rs && inB rl) = false) := by simp [Hid, inB, h3]
          go_enter Try.func21, Try.ntmps21
          go_wp2_with fail
          go_ret
          exact ⟨by rw [hr.out]; rfl, (Kept.refl _ _).alloc _⟩
      · have hr : Hid ((inB rs && inB rl) = false) := by simp [Hid, inB, h2]
        go_enter Try.func21, Try.ntmps21
        go_wp2_with fail
        go_ret
        exact ⟨by rw [hr.out]; rfl, (Kept.refl _ _).alloc _⟩
    · have hr : Hid ((inB rs && inB rl) = false) := by simp [Hid, inB, h1]
      go_enter Try.func21, Try.ntmps21
      go_wp2_with fail
      go_ret
      exact ⟨by rw [hr.out]; rfl, (Kept.refl _ _).alloc _⟩
  · have hr : Hid ((inB rs && inB rl) = false) := by simp [Hid, inB, h0]
    go_enter Try.func21, Try.ntmps21
    go_wp2_with fail
    go_ret
    exact ⟨by rw [hr.out]; rfl, (Kept.refl _ _).alloc _⟩
instance decApart (a b : Ex) : Decidable (apartP a b) := inferInstanceAs (Decidable (_ ∨ _))
theorem ref_apart (a b : Ex) (w : World) (ha : 0 ≤ a.st ∧ a.st ≤ 4000000 ∧ 0 ≤ a.len ∧ a.len ≤ 4000000) (hb : 0 ≤ b.st ∧ b.st ≤ 4000000 ∧ 0 ≤ b.len ∧ b.len ≤ 4000000) : Calls Try.prog 22 #[exV a, exV b] w fun e w' => e = .returned (.bool (decide (apartP a b))) ∧ Kept [] w w' := by
  obtain ⟨s1, n1⟩ := a
  obtain ⟨s2, n2⟩ := b
  unfold exV
  dsimp only at ha hb ⊢
  have w1 : IntKind.i64.wrap (s1 + n1) = s1 + n1 := IntWalk.i64_in _ (by omega)
  have w2 : IntKind.i64.wrap (s2 + n2) = s2 + n2 := IntWalk.i64_in _ (by omega)
  by_cases h0 : s1 + n1 ≤ s2
  · have hr : Hid (decide (apartP ⟨s1, n1⟩ ⟨s2, n2⟩) = true) := by
      rw [Hid, decide_eq_true_iff]
      exact .inl h0
    go_enter Try.func22, Try.ntmps22
    go_wp2_with fail
    go_ret
    exact ⟨by rw [hr.out]; rfl, ((Kept.refl _ _).alloc _).alloc _⟩
  · by_cases h1 : s2 + n2 ≤ s1
    · have hr : Hid (decide (apartP ⟨s1, n1⟩ ⟨s2, n2⟩) = true) := by
        rw [Hid, decide_eq_true_iff]
        exact .inr h1
      go_enter Try.func22, Try.ntmps22
      go_wp2_with fail
      go_ret
      exact ⟨by rw [hr.out]; rfl, ((Kept.refl _ _).alloc _).alloc _⟩
    · have hr : Hid (decide (apartP ⟨s1, n1⟩ ⟨s2, n2⟩) = false) := by
        rw [Hid, decide_eq_false_iff_not]
        rintro (h | h)
        · exact h0 h
        · exact h1 h
      go_enter Try.func22, Try.ntmps22
      go_wp2_with fail
      go_ret
      exact ⟨by rw [hr.out]; rfl, ((Kept.refl _ _).alloc _).alloc _⟩
end Go.Proofs.Ytkbldbcjpdfopaa
