/- A superblock that may be; a layout. -/
import Derived.Test.YtdifolhkbkaamaaLay
namespace Go.Proofs.Ytdifolhkbkaamaa
open Go.RowKit

structure Su where
  sec : Int
  org : Int
  chk : Int
  deriving DecidableEq
def rightS (h : Su) : Bool := (decide (1 ≤ h.org) && decide (h.org ≤ 1048576)) && (decide (1 ≤ h.chk) && decide (h.chk ≤ 128)) && decide (h.sec ≤ 1048576) && decide (h.org + 17 ≤ h.sec)
def zeroS : Su := ⟨0, 0, 0⟩
theorem rightS_iff (h : Su) : rightS h = true ↔ (1 ≤ h.org ∧ h.org ≤ 1048576) ∧ (1 ≤ h.chk ∧ h.chk ≤ 128) ∧ h.sec ≤ 1048576 ∧ h.org + 17 ≤ h.sec := by
  simp [rightS, and_assoc]
def sv (h : Su) : Value := .agg #[.int .i64 h.sec, .int .i64 h.org, .int .i64 h.chk]
def wfS (h : Su) : Prop := (-9223372036854775808 ≤ h.sec ∧ h.sec ≤ 9223372036854775807) ∧ (-9223372036854775808 ≤ h.org ∧ h.org ≤ 9223372036854775807) ∧ (-9223372036854775808 ≤ h.chk ∧ h.chk ≤ 9223372036854775807)
set_option maxHeartbeats 1000000 in
theorem super_Right (h : Su) (hw : wfS h) (w : World) : Calls Try.prog 17 #[sv h] w fun e w' => e = .returned (.bool (rightS h)) ∧ Kept [] w w' := by
  obtain ⟨g, c, p⟩ := h
  obtain ⟨⟨g0, g1⟩, ⟨c0, c1⟩, p0, p1⟩ := hw
  simp only at g0 g1 c0 c1 p0 p1
  have H : Hid (rightS ⟨g, c, p⟩ = (rightG c p && (decide (g ≤ 1048576) && decide (c + 17 ≤ g)))) := by
    simp [Hid, rightS, rightG, Bool.and_assoc]
  unfold sv
  cases hG : rightG c p
  · go_enter Try.func17, Try.ntmps17
    go_wp2_with fail
    refine (geom_Right c p _).mono ?_
    rintro e w1 ⟨rfl, k1⟩
    rw [hG]
    go_wp2_with fail
    go_ret
    refine ⟨?_, ((Kept.refl [] w).alloc _).trans k1⟩
    rw [H.out, hG]
    rfl
  · have hc : 1 ≤ c ∧ c ≤ 1048576 := by
      simp [rightG] at hG
      omega
    by_cases h1 : g ≤ 1048576
    · by_cases h2 : c + 17 ≤ g
      all_goals
        go_enter Try.func17, Try.ntmps17
        go_wp2_with fail
        refine (geom_Right c p _).mono ?_
        rintro e w1 ⟨rfl, k1⟩
        rw [hG]
        obtain ⟨q0, q1, q2⟩ := agg3 (Blk.new w 23 #[.int .i64 g, .int .i64 c, .int .i64 p]) k1
        go_wp2_with fail
        go_ret
        refine ⟨?_, ((Kept.refl [] w).alloc _).trans k1⟩
        rw [H.out, hG]
        congr 2
        simp
        omega
    · go_enter Try.func17, Try.ntmps17
      go_wp2_with fail
      refine (geom_Right c p _).mono ?_
      rintro e w1 ⟨rfl, k1⟩
      rw [hG]
      obtain ⟨q0, q1, q2⟩ := agg3 (Blk.new w 23 #[.int .i64 g, .int .i64 c, .int .i64 p]) k1
      go_wp2_with fail
      go_ret
      refine ⟨?_, ((Kept.refl [] w).alloc _).trans k1⟩
      rw [H.out, hG]
      congr 2
      simp
      omega
set_option maxHeartbeats 2000000 in
theorem ref_RightS (h : Su) (hw : wfS h) (w : World) : Calls Try.prog 4 #[sv h] w fun e w' => e = .returned (.bool (rightS h)) ∧ Kept [] w w' := by
  obtain ⟨g, c, p⟩ := h
  obtain ⟨⟨g0, g1⟩, ⟨c0, c1⟩, p0, p1⟩ := hw
  simp only at g0 g1 c0 c1 p0 p1
  have H : Hid (∀ x, rightS ⟨g, c, p⟩ = x ↔ ((decide (1 ≤ c) && decide (c ≤ 1048576)) && (decide (1 ≤ p) && decide (p ≤ 128)) && decide (g ≤ 1048576) && decide (c + 17 ≤ g)) = x) := fun x => Iff.rfl
  unfold sv
  by_cases h0 : 1 ≤ c
  · by_cases h1 : c ≤ 1048576
    · by_cases h2 : 1 ≤ p
      · by_cases h3 : p ≤ 128
        · by_cases h4 : g ≤ 1048576
          · by_cases h9 : c + 17 ≤ g
            all_goals
              go_enter Try.func4, Try.ntmps4
              go_wp2_with fail
              go_ret
              refine ⟨?_, (Kept.refl [] w).alloc _⟩
              rw [(H.out _).2 rfl]
              congr 2
              simp
              omega
          · go_enter Try.func4, Try.ntmps4
            go_wp2_with fail
            go_ret
            refine ⟨?_, (Kept.refl [] w).alloc _⟩
            rw [(H.out false).2 (by simp; omega)]
            rfl
        · go_enter Try.func4, Try.ntmps4
          go_wp2_with fail
          go_ret
          refine ⟨?_, (Kept.refl [] w).alloc _⟩
          rw [(H.out false).2 (by simp; omega)]
          rfl
      · go_enter Try.func4, Try.ntmps4
        go_wp2_with fail
        go_ret
        refine ⟨?_, (Kept.refl [] w).alloc _⟩
        rw [(H.out false).2 (by simp; omega)]
        rfl
    · go_enter Try.func4, Try.ntmps4
      go_wp2_with fail
      go_ret
      refine ⟨?_, (Kept.refl [] w).alloc _⟩
      rw [(H.out false).2 (by simp; omega)]
      rfl
  · go_enter Try.func4, Try.ntmps4
    go_wp2_with fail
    go_ret
    refine ⟨?_, (Kept.refl [] w).alloc _⟩
    rw [(H.out false).2 (by simp; omega)]
    rfl
theorem layout_Of (h : Su) (hw : wfS h) (w : World) : Calls Try.prog 6 #[sv h] w fun e w' => e = .returned (.tuple #[sv (if rightS h = true then h else zeroS), .int .i64 (if rightS h = true then 0 else 1)]) ∧ Kept [] w w' := by
  obtain ⟨g, c, p⟩ := h
  have hb := (Blk.new w 23 #[.int .i64 g, .int .i64 c, .int .i64 p]).alloc (.cells #[.int .i64 0, .int .i64 0, .int .i64 0] 30)
  have hO := blk_new (w := w.alloc (.cells #[.int .i64 g, .int .i64 c, .int .i64 p] 23)) (t := 30) (cs := #[.int .i64 0, .int .i64 0, .int .i64 0]) (g := w.heap.size + 1) (by simp)
  have K0 := Lib.hid (((Kept.refl [] w).alloc (.cells #[.int .i64 g, .int .i64 c, .int .i64 p] 23)).alloc (.cells #[.int .i64 0, .int .i64 0, .int .i64 0] 30))
  unfold sv
  cases hr : rightS ⟨g, c, p⟩
  all_goals
    go_enter Try.func6, Try.ntmps6
    go_wp2_with fail
    refine (super_Right ⟨g, c, p⟩ hw _).mono ?_
    rintro e w1 ⟨rfl, k1⟩
    rw [hr]
    obtain ⟨q0, q1, q2⟩ := agg3 hb k1
    have hO1 := Lib.hid (hO.kept k1 (fun h => by cases h))
    have u0 := hO1.out.cell 0
    have u1 := hO1.out.cell 1
    have u2 := hO1.out.cell 2
    have uf0 := hO1.out.frozen 0
    have uf1 := hO1.out.frozen 1
    have uf2 := hO1.out.frozen 2
    have HK1 := Lib.hid (K0.out.trans k1)
    clear k1 hO hb
    go_wp2_with fail
    first
      | exact (bodyPost_ret (v := .tuple #[.agg #[.int .i64 0, .int .i64 0, .int .i64 0], .int .i64 1]) (by simp [results, Try.results6, go_sem, set3 hO1.out (.int .i64 0) (.int .i64 0) (.int .i64 0)]) rfl ⟨rfl, ((HK1.out.setCell (p := ⟨w.heap.size + 1, 0, none⟩) (.inr (Nat.le_succ _)) _).setCell (p := ⟨w.heap.size + 1, 1, none⟩) (.inr (Nat.le_succ _)) _).setCell (p := ⟨w.heap.size + 1, 2, none⟩) (.inr (Nat.le_succ _)) _⟩)
      | exact (bodyPost_ret (v := .tuple #[.agg #[.int .i64 g, .int .i64 c, .int .i64 p], .int .i64 0]) (by simp [results, Try.results6, go_sem, set3 hO1.out (.int .i64 g) (.int .i64 c) (.int .i64 p)]) rfl ⟨rfl, ((HK1.out.setCell (p := ⟨w.heap.size + 1, 0, none⟩) (.inr (Nat.le_succ _)) _).setCell (p := ⟨w.heap.size + 1, 1, none⟩) (.inr (Nat.le_succ _)) _).setCell (p := ⟨w.heap.size + 1, 2, none⟩) (.inr (Nat.le_succ _)) _⟩)
def noneS (h : Su) : Bool := decide (h.sec = 0) && decide (h.org = 0) && decide (h.chk = 0)
theorem layout_none (h : Su) (w : World) : Calls Try.prog 33 #[sv h] w fun e w' => e = .returned (.bool (noneS h)) ∧ Kept [] w w' := by
  obtain ⟨g, c, p⟩ := h
  have H : Hid (∀ x, noneS ⟨g, c, p⟩ = x ↔ (decide (g = 0) && decide (c = 0) && decide (p = 0)) = x) := fun x => Iff.rfl
  unfold sv
  by_cases h1 : g = 0
  · by_cases h2 : c = 0
    · by_cases h3 : p = 0
      all_goals
        go_enter Try.func33, Try.ntmps33
        go_wp2_with fail
        go_ret
        refine ⟨?_, (Kept.refl [] w).alloc _⟩
        rw [(H.out _).2 rfl]
        congr 2
        simp [h1, h2, h3]
    · go_enter Try.func33, Try.ntmps33
      go_wp2_with fail
      go_ret
      refine ⟨?_, (Kept.refl [] w).alloc _⟩
      rw [(H.out false).2 (by simp [h2])]
      rfl
  · go_enter Try.func33, Try.ntmps33
    go_wp2_with fail
    go_ret
    refine ⟨?_, (Kept.refl [] w).alloc _⟩
    rw [(H.out false).2 (by simp [h1])]
    rfl
end Go.Proofs.Ytdifolhkbkaamaa
