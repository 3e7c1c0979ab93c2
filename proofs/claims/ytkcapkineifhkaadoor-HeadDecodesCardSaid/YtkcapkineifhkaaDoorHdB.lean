/- A store's head: sizes; whether one may be. -/
import Derived.Test.YtkcapkineifhkaaDoorHdA
import Derived.Test.YtkcapkineifhkaaDoorSealZ
namespace Go.Proofs.YtkcapkineifhkaaDoor
open Go.RowKit

def hv (h : Hd) : Value := .agg #[.int .u32 (h.gen : Int), .int .i64 h.chunk, .int .i64 h.cap, .bool h.inv]
theorem head_sizes (w : World) : Calls Tryd.prog 14 #[] w fun e w' => e = .returned (.slice (some ⟨w.heap.size, 0, none⟩) 4 4) ∧ w' = w.alloc (.cells (zsH.map iv).toArray 3) := by
  go_enter Tryd.func14, Tryd.ntmps14
  go_wp2_with fail
  go_ret
  exact ⟨rfl, rfl⟩
theorem head_in (n m : Int) (w : World) : Calls Tryd.prog 19 #[.int .i64 n, .int .i64 m] w fun e w' => e = .returned (.bool (decide (1 ≤ n) && decide (n ≤ m))) ∧ w = w' := by
  by_cases h : 1 ≤ n
  · go_enter Tryd.func19, Tryd.ntmps19
    go_wp2_with fail
    go_ret
    exact ⟨by simp [h], rfl⟩
  · go_enter Tryd.func19, Tryd.ntmps19
    go_wp2_with fail
    go_ret
    exact ⟨by simp; omega, rfl⟩
theorem head_Right (h : Hd) (w : World) : Calls Tryd.prog 9 #[hv h] w fun e w' => e = .returned (.bool (rightH h)) ∧ Kept [] w w' := by
  obtain ⟨g, c, p, i⟩ := h
  by_cases hg : 0 < g
  · by_cases hc : 1 ≤ c ∧ c ≤ 128
    · have hb : (decide (1 ≤ c) && decide (c ≤ 128)) = true := by simp [hc]
      have HR : Hid (rightH ⟨g, c, p, i⟩ = (decide (1 ≤ p) && decide (p ≤ 1048576))) := by simp [Hid, rightH, hg, hc]
      clear hc
      unfold hv
      go_enter Tryd.func9, Tryd.ntmps9
      go_wp2_with fail
      refine (head_in c 128 _).mono ?_
      rintro e w1 ⟨rfl, rfl⟩
      rw [hb]
      go_wp2_with fail
      refine (head_in p 1048576 _).mono ?_
      rintro e w1 ⟨rfl, rfl⟩
      rw [← HR.out]
      go_wp2_with fail
      go_ret
      exact ⟨rfl, (Kept.refl [] w).alloc _⟩
    · have hb : (decide (1 ≤ c) && decide (c ≤ 128)) = false := by simp; omega
      have HR : Hid (rightH ⟨g, c, p, i⟩ = false) := by simp [Hid, rightH]; omega
      clear hc
      unfold hv
      go_enter Tryd.func9, Tryd.ntmps9
      go_wp2_with fail
      refine (head_in c 128 _).mono ?_
      rintro e w1 ⟨rfl, rfl⟩
      rw [hb]
      go_wp2_with fail
      go_ret
      rw [HR.out]
      exact ⟨rfl, (Kept.refl [] w).alloc _⟩
  · have HR : Hid (rightH ⟨g, c, p, i⟩ = false) := by simp [Hid, rightH]; omega
    unfold hv
    go_enter Tryd.func9, Tryd.ntmps9
    go_wp2_with fail
    go_ret
    rw [HR.out]
    exact ⟨rfl, (Kept.refl [] w).alloc _⟩
end Go.Proofs.YtkcapkineifhkaaDoor
