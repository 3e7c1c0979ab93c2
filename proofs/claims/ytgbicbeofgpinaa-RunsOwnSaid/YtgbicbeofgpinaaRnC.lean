/- A copy of some exceptions. -/
import Derived.Test.YtgbicbeofgpinaaRnB
import Derived.Lib.BufferMore
namespace Go.Proofs.Ytgbicbeofgpinaa
open Go.RowKit

theorem infoE : (Try.prog.info? 36).map (fun i => (i.zero, i.size, i.bytes)) = some (some (.agg #[.int .i64 0, .int .i64 0]), 2, 16) := by kernel_rfl
set_option maxHeartbeats 400000 in
theorem cloneE (w : World) (b o n c : Nat) (xs : List Value) (hl : xs.length = n * 2) (h1 : ∀ u ∈ xs, u.oneCell' = true) (hc : ∀ j u, xs[j]? = some u → w.cell? ⟨b, o + j, none⟩ = some u) (_hb : b < w.heap.size) (hn : n * 16 ≤ 140737488355328) :
    Calls Try.prog 19 #[.slice (some ⟨b, o, none⟩) n c] w fun e w' => ∃ v, e = .returned v ∧ w'.ownsRow 0 36 2 v n xs ∧ Kept [] w w' ∧ ∀ k, v.ownBlock = some k → w.heap.size ≤ k := by
  have he := fun W => Lib.run_eql_slice_some_nil (P := Try.prog) W (t := 22) ⟨b, o, none⟩ n c Try.underlying22
  obtain ⟨i0, hi0, hz0, hz1, hz2⟩ := info_parts infoE
  have hown : (w.alloc (.cells #[] 36)).ownsRow 0 36 2 (.slice (some ⟨w.heap.size, 0, none⟩) 0 0) 0 [] := ⟨by simp, .inr ⟨w.heap.size, 0, #[], rfl, Nat.zero_le _, heap_alloc_new w _, Nat.le_refl _, Nat.zero_le _, by simp, by simp⟩⟩
  have Hrun := fun ty => run_app (P := Try.prog) (w.alloc (.cells #[] 36)) 22 ty 36 i0 _ 2 16 Try.underlying22 hi0 hz0 hz1 hz2 rfl (by omega) _ 0 [] hown (some ⟨b, o, none⟩) n c xs hl (fun h => by cases h) (fun _ => ⟨b, o, rfl, fun j u hu => ((Kept.refl [] w).alloc _).cell (hc j u hu) (by simp)⟩) h1 (by simp only [maxLen]; omega) (by omega)
  have HRun := Lib.hid Hrun
  clear Hrun hown hc h1 hl hn
  go_enter Try.func19, Try.ntmps19
  go_wp2_with (at_builtin; refine wpList_app rfl (.tmp 5) (.tmp 6) _ rfl _ _ rfl rfl (HRun.out _) ?_; rintro v' w' ⟨h2, h3, h4⟩)
  go_ret
  refine ⟨v', rfl, by simpa using h2, (((Kept.refl [] w).alloc _).grown h3 (fun k hk => by simp [Value.ownBlock] at hk; omega)), fun k hk => ?_⟩
  rcases h4 with h4 | h4 <;> rw [h4] at hk <;> simp [Value.ownBlock] at hk <;> omega


theorem enE_one (l : List En) : ∀ u ∈ l.flatMap enE, u.oneCell' = true := by
  intro u hu
  obtain ⟨x, _, hx⟩ := List.mem_flatMap.1 hu
  simp only [enE, List.mem_cons, List.not_mem_nil, or_false] at hx
  rcases hx with rfl | rfl <;> rfl
end Go.Proofs.Ytgbicbeofgpinaa
