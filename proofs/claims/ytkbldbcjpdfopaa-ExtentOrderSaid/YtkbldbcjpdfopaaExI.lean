/- Extents: Fit, at every input. -/
import Derived.Test.YtkbldbcjpdfopaaExH
namespace Go.Proofs.Ytkbldbcjpdfopaa
open Go.RowKit
attribute [local go_sem] Oper.semAt_some

set_option maxRecDepth 4000 in
set_option maxHeartbeats 2000000 in
theorem ext_Fit (W : World) (n₀ : Nat) (r : Ex) (n : Int) (A : Option Addr) (c : Nat) (l : List Ex) (hn0 : n₀ ≤ W.heap.size) (hln : l.length ≤ 8796093022208) (hA : RdX n₀ W A l) (hl : ∀ x ∈ l, wfX x) :
    Calls Try.prog 9 #[exV r, .int .i64 n, .slice A l.length c] W (FitPost r n l W) := by
  by_cases hgood : ¬ n < 1 ∧ rightX r l
  · exact fit_go W n₀ r n A c l hn0 hln hA hl hgood.1 hgood.2
  · have hfit : fitX r n l = (⟨0, 0⟩, 1) := by
      unfold fitX
      refine if_pos ?_
      by_cases h : n < 1
      · exact .inl h
      · exact .inr (rightB_no fun h2 => hgood ⟨h, h2⟩)
    have hr0 : ¬ n < 1 → rightB r l = false := fun h => rightB_no fun h2 => hgood ⟨h, h2⟩
    have HRi := Lib.hid (fun w (k : Kept [] W w) => ext_Right w n₀ r A c l (Nat.le_trans hn0 k.size) hln (hA.kept k hn0) hl)
    unfold FitPost
    rw [hfit]
    clear hl hA hgood hfit
    obtain ⟨rs, rl⟩ := r
    unfold exV at HRi ⊢
    dsimp only at HRi ⊢
    refine (callsIn_wide (n := 4)).1 ?_
    refine callsIn_of_wp_marks Try.func9 rfl trivial ?_ rfl
    refine wpIn_wide.2 ?_
    simp only [Try.ntmps9, List.size_toArray, List.length_cons, List.length_nil, Nat.reduceAdd, Nat.reduceSub, Array.replicate_succ, Array.replicate_zero, List.push_toArray, List.append_toArray, List.nil_append, List.cons_append]
    obtain ⟨W1, hW1⟩ : ∃ W1, W1 = (((W.alloc (.cells #[.int .i64 rs, .int .i64 rl] 23)).alloc (.cells #[.int .i64 n] 3)).alloc (.cells #[.int .i64 0, .int .i64 0] 23)).alloc (.cells #[.int .i64 0] 26) := ⟨_, rfl⟩
    have K1 : Kept [] W W1 := by rw [hW1]; exact ((((Kept.refl [] W).alloc _).alloc _).alloc _).alloc _
    have B6 : Blk W1 (W.heap.size + 1 + 1) 23 #[.int .i64 0, .int .i64 0] := by rw [hW1]; exact (blk_new' (by simp)).alloc _
    have B7 : Blk W1 (W.heap.size + 1 + 1 + 1) 26 #[.int .i64 0] := by rw [hW1]; exact blk_new' (by simp)
    have hne : ¬ W.heap.size + 1 + 1 = W.heap.size + 1 + 1 + 1 := by omega
    have hne2 : ¬ W.heap.size + 1 + 1 + 1 = W.heap.size + 1 + 1 := by omega
    by_cases h : n < 1
    · clear hr0 HRi
      go_wp2_with fail
      clear hW1 K1 B6 B7
      exact ⟨_, results_fit _ _ (W.heap.size + 1 + 1) (W.heap.size + 1 + 1 + 1) _ _ _ rfl rfl ((blk_new' (by simp)).alloc _) (blk_new' (by simp)), rfl, ((((Kept.refl [] W).alloc _).alloc _).alloc _).alloc _⟩
    · have hb := hr0 h
      clear hr0
      go_wp2_with fail
      rw [← hW1]
      clear hW1
      refine (HRi.out W1 K1).mono ?_
      rintro e w1 ⟨rfl, k1⟩
      rw [hb]
      have C6 := B6.kept k1 (fun h => by cases h)
      have C7 := B7.kept k1 (fun h => by cases h)
      have K2 := K1.trans k1
      clear B6 B7 K1 k1 HRi
      have c60 := C6.cell 0
      have c61 := C6.cell 1
      have f60 := C6.frozen 0
      have f61 := C6.frozen 1
      have c70 := C7.cell 0
      have f70 := C7.frozen 0
      go_wp2_with fail
      have D6 := ((C6.set_ 0 (.int .i64 0)).set_ 1 (.int .i64 0)).far (p := ⟨W.heap.size + 1 + 1 + 1, 0, none⟩) hne (.int .i64 1)
      have D7 := ((C7.far (p := ⟨W.heap.size + 1 + 1, 0, none⟩) hne2 (.int .i64 0)).far (p := ⟨W.heap.size + 1 + 1, 1, none⟩) hne2 (.int .i64 0)).set_ 0 (.int .i64 1)
      exact ⟨_, results_fit _ _ _ _ _ _ _ rfl rfl D6 D7, rfl, ((K2.setCell (.inr (by dsimp only; omega)) _).setCell (.inr (by dsimp only; omega)) _).setCell (.inr (by dsimp only; omega)) _⟩
end Go.Proofs.Ytkbldbcjpdfopaa
