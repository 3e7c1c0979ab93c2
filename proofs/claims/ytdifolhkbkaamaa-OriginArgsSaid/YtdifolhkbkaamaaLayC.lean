/- A layout's origin and geometry; an origin on a disk. -/
import Derived.Test.YtdifolhkbkaamaaLayB
import Derived.Test.YtdifolhkbkaamaaDiskL
namespace Go.Proofs.Ytdifolhkbkaamaa
open Go.RowKit

theorem layout_Origin (h : Su) (w : World) : Calls Try.prog 18 #[sv h] w fun e w' => e = .returned (.agg #[.int .i64 (if noneS h = true then 0 else 17), .int .i64 (if noneS h = true then 0 else h.org)]) ∧ Kept [] w w' := by
  obtain ⟨g, c, p⟩ := h
  have hb := (Blk.new w 30 #[.int .i64 g, .int .i64 c, .int .i64 p]).alloc (.cells #[.int .i64 0, .int .i64 0] 48)
  have hO := blk_new (w := w.alloc (.cells #[.int .i64 g, .int .i64 c, .int .i64 p] 30)) (t := 48) (cs := #[.int .i64 0, .int .i64 0]) (g := w.heap.size + 1) (by simp)
  have K0 := Lib.hid (((Kept.refl [] w).alloc (.cells #[.int .i64 g, .int .i64 c, .int .i64 p] 30)).alloc (.cells #[.int .i64 0, .int .i64 0] 48))
  unfold sv
  cases hr : noneS ⟨g, c, p⟩
  all_goals
    go_enter Try.func18, Try.ntmps18
    go_wp2_with fail
    refine (layout_none ⟨g, c, p⟩ _).mono ?_
    rintro e w1 ⟨rfl, k1⟩
    rw [hr]
    obtain ⟨q0, q1, q2⟩ := agg3 hb k1
    have hO1 := Lib.hid (hO.kept k1 (fun h => by cases h))
    have u0 := hO1.out.cell 0
    have u1 := hO1.out.cell 1
    have uf0 := hO1.out.frozen 0
    have uf1 := hO1.out.frozen 1
    have HK1 := Lib.hid (K0.out.trans k1)
    clear k1 hO hb
    go_wp2_with fail
    first
      | exact (bodyPost_ret (v := .agg #[.int .i64 0, .int .i64 0]) (by simp [results, Try.results18, go_sem, set2 hO1.out (.int .i64 0) (.int .i64 0)]) rfl ⟨rfl, (HK1.out.setCell (p := ⟨w.heap.size + 1, 0, none⟩) (.inr (Nat.le_succ _)) _).setCell (p := ⟨w.heap.size + 1, 1, none⟩) (.inr (Nat.le_succ _)) _⟩)
      | exact (bodyPost_ret (v := .agg #[.int .i64 17, .int .i64 c]) (by simp [results, Try.results18, go_sem, set2 hO1.out (.int .i64 17) (.int .i64 c)]) rfl ⟨rfl, (HK1.out.setCell (p := ⟨w.heap.size + 1, 0, none⟩) (.inr (Nat.le_succ _)) _).setCell (p := ⟨w.heap.size + 1, 1, none⟩) (.inr (Nat.le_succ _)) _⟩)
theorem layout_Geom (h : Su) (w : World) : Calls Try.prog 20 #[sv h] w fun e w' => e = .returned (.agg #[.int .i64 h.org, .int .i64 h.chk]) ∧ Kept [] w w' := by
  obtain ⟨g, c, p⟩ := h
  unfold sv
  go_enter Try.func20, Try.ntmps20
  go_wp2_with fail
  refine bodyPost_ret (v := .agg #[.int .i64 c, .int .i64 p]) (by simp [results, Try.results20, go_sem]) rfl ⟨rfl, ?_⟩
  exact ((Kept.refl [] w).alloc _).alloc _
theorem origin_Of_nil (h : Su) (w : World) : Calls Try.prog 7 #[.pointer none, sv h] w fun e w' => e = .returned (.tuple #[.pointer none, .int .i64 1]) ∧ Kept [] w w' := by
  obtain ⟨g, c, p⟩ := h
  have K0 := Lib.hid ((Kept.refl [] w).alloc (.cells #[.int .i64 g, .int .i64 c, .int .i64 p] 30))
  unfold sv
  cases hn : noneS ⟨g, c, p⟩
  all_goals
    go_enter Try.func7, Try.ntmps7
    go_wp2_with fail
    refine (layout_Origin ⟨g, c, p⟩ _).mono ?_
    rintro e w1 ⟨rfl, k1⟩
    rw [hn]
    go_wp2_with fail
    go_ret2
    exact ⟨rfl, (K0.out.trans k1).alloc _⟩
theorem origin_Of_zero (gd : Nat) (w : World) : Calls Try.prog 7 #[.pointer (some ⟨gd, 0, none⟩), sv zeroS] w fun e w' => e = .returned (.tuple #[.pointer none, .int .i64 1]) ∧ Kept [] w w' := by
  have K0 := Lib.hid ((Kept.refl [] w).alloc (.cells #[.int .i64 0, .int .i64 0, .int .i64 0] 30))
  have hn : noneS zeroS = true := by decide
  rw [show sv zeroS = .agg #[.int .i64 0, .int .i64 0, .int .i64 0] from rfl]
  go_enter Try.func7, Try.ntmps7
  go_wp2_with fail
  refine (layout_Origin zeroS _).mono ?_
  rintro e w1 ⟨rfl, k1⟩
  rw [hn]
  go_wp2_with fail
  go_ret2
  exact ⟨rfl, (K0.out.trans k1).alloc _⟩
set_option maxHeartbeats 1000000 in
theorem origin_Of_some (h : Su) (hr : rightS h = true) (w : World) (gd : Nat) (F : List Nat) (d : D) (hd : PD w gd F d) :
    Calls Try.prog 7 #[.pointer (some ⟨gd, 0, none⟩), sv h] w fun e w' => Kept [] w w' ∧
      (if (d.ss.length : Int) < h.sec then e = .returned (.tuple #[.pointer none, .int .i64 2]) else ∃ B, e = .returned (.tuple #[.pointer (some ⟨B, 0, none⟩), .int .i64 0]) ∧ w.heap.size ≤ B ∧ Blk w' B 55 #[.pointer (some ⟨gd, 0, none⟩), .int .i64 h.org, .int .i64 h.chk, .int .i64 17]) := by
  obtain ⟨g, c, p⟩ := h
  have hi := (rightS_iff _).1 hr
  simp only at hi
  have K0 := Lib.hid ((Kept.refl [] w).alloc (.cells #[.int .i64 g, .int .i64 c, .int .i64 p] 30))
  have hb := Blk.new w 30 #[.int .i64 g, .int .i64 c, .int .i64 p]
  have hn : noneS ⟨g, c, p⟩ = false := by simp [noneS]; omega
  have hc0 : ¬ c = 0 := by omega
  have hcb : (c == 0) = false := by rw [beq_eq_false_iff_ne]; exact hc0
  unfold sv
  go_enter Try.func7, Try.ntmps7
  go_wp2_with fail
  refine (layout_Origin ⟨g, c, p⟩ _).mono ?_
  rintro e w1 ⟨rfl, k1⟩
  rw [hn]
  have hd1 := hd.kept (((K0.out.trans k1).alloc (.cells #[.int .i64 17, .int .i64 c] 48))) (fun x hx h => by cases h)
  have hb1 := Lib.hid ((hb.kept k1 (fun h => by cases h)).alloc (.cells #[.int .i64 17, .int .i64 c] 48))
  have HK1 := Lib.hid ((K0.out.trans k1).alloc (.cells #[.int .i64 17, .int .i64 c] 48))
  have hx1 := Blk.new w1 48 #[.int .i64 17, .int .i64 c]
  clear k1 hb
  go_wp2_with fail
  have HD1 := Lib.hid hd1
  obtain ⟨q0, q1, q2⟩ := agg3 hb1.out (Kept.refl [] _)
  have x0 : (w1.alloc (.cells #[.int .i64 17, .int .i64 c] 48)).cell? ⟨w1.heap.size, 0, none⟩ = some (.int .i64 17) := hx1.cell 0
  have x1 := hx1.cell 1
  generalize w1.alloc (.cells #[.int .i64 17, .int .i64 c] 48) = w2 at *
  have HD2 := Lib.hid (HD1.out.kept ((Kept.refl [] w2).drew) (fun x hx h => by cases h))
  have few := hd1.ok.few
  clear hd hd1
  by_cases hlt : (d.ss.length : Int) < g
  · go_region_held3 (fun W => W.cell? ⟨w.heap.size, 0, none⟩ = some (.int .i64 g)) (first | exact q0 | go_keep) ((first | (go_at_call 19; refine (disk_Sectors _ gd F d HD2.out).mono ?_; rintro e w3 ⟨rfl, rfl⟩)))
    all_goals
      go_wp2_with fail
      go_ret2
      exact ⟨HK1.out.drew, by first | rfl | (rw [if_pos hlt]; rfl)⟩
  · go_region_held3 (fun W => W.cell? ⟨w.heap.size, 0, none⟩ = some (.int .i64 g)) (first | exact q0 | go_keep) ((first | (go_at_call 19; refine (disk_Sectors _ gd F d HD2.out).mono ?_; rintro e w3 ⟨rfl, rfl⟩)))
    go_wp2_with fail
    have r0 : w2.drew.cell? ⟨w.heap.size, 0, none⟩ = some (.int .i64 g) := q0
    have r1 : w2.drew.cell? ⟨w.heap.size, 1, none⟩ = some (.int .i64 c) := q1
    have r2 : w2.drew.cell? ⟨w.heap.size, 2, none⟩ = some (.int .i64 p) := q2
    have y0 : w2.drew.cell? ⟨w1.heap.size, 0, none⟩ = some (.int .i64 17) := x0
    go_region_held3 (fun W => W.cell? ⟨w.heap.size, 0, none⟩ = some (.int .i64 g) ∧ W.cell? ⟨w.heap.size, 1, none⟩ = some (.int .i64 c) ∧ W.cell? ⟨w.heap.size, 2, none⟩ = some (.int .i64 p) ∧ W.cell? ⟨w1.heap.size, 0, none⟩ = some (.int .i64 17)) (first | exact ⟨r0, r1, r2, y0⟩ | exact ⟨kg.cell r0 (fun h => by cases h), kg.cell r1 (fun h => by cases h), kg.cell r2 (fun h => by cases h), kg.cell y0 (fun h => by cases h)⟩ | go_keep) ((first | (go_at_call 20; refine (layout_Geom ⟨g, c, p⟩ _).mono ?_; rintro e w4 ⟨rfl, kg⟩)))
    all_goals
      go_wp2_with fail
      go_ret2
      refine ⟨((HK1.out.drew.drew).trans kg).alloc _, ?_⟩
      first
        | (rw [if_neg hlt]; exact ⟨_, rfl, Nat.le_trans ((HK1.out.drew.drew).trans kg).size (Nat.le_refl _), Blk.new _ _ _⟩)
        | exact ⟨_, rfl, Nat.le_trans ((HK1.out.drew.drew).trans kg).size (Nat.le_refl _), Blk.new _ _ _⟩
end Go.Proofs.Ytdifolhkbkaamaa
