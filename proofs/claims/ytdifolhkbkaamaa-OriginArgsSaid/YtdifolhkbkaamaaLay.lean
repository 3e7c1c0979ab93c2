/- A chunk's sectors; a superblock that may be; a layout. -/
import Derived.Test.YtdifolhkbkaamaaGeoB
namespace Go.Proofs.Ytdifolhkbkaamaa
open Go.RowKit

theorem set2 {W : World} {b : Nat} {t : TypeId} {c0 c1 : Value} (h : Blk W b t #[c0, c1]) (u0 u1 : Value) :
    (W.setCell ⟨b, 0, none⟩ u0).cell? ⟨b, 0, none⟩ = some u0 ∧ ((W.setCell ⟨b, 0, none⟩ u0).setCell ⟨b, 1, none⟩ u1).cell? ⟨b, 1, none⟩ = some u1 :=
  ⟨(h.set_ 0 u0).cell 0, ((h.set_ 0 u0).set_ 1 u1).cell 1⟩
theorem set3 {W : World} {b : Nat} {t : TypeId} {c0 c1 c2 : Value} (h : Blk W b t #[c0, c1, c2]) (u0 u1 u2 : Value) :
    (W.setCell ⟨b, 0, none⟩ u0).cell? ⟨b, 0, none⟩ = some u0 ∧ ((W.setCell ⟨b, 0, none⟩ u0).setCell ⟨b, 1, none⟩ u1).cell? ⟨b, 1, none⟩ = some u1 ∧
    (((W.setCell ⟨b, 0, none⟩ u0).setCell ⟨b, 1, none⟩ u1).setCell ⟨b, 2, none⟩ u2).cell? ⟨b, 2, none⟩ = some u2 :=
  ⟨(h.set_ 0 u0).cell 0, ((h.set_ 0 u0).set_ 1 u1).cell 1, (((h.set_ 0 u0).set_ 1 u1).set_ 2 u2).cell 2⟩
theorem agg3 {w W : World} {b : Nat} {t : TypeId} {c0 c1 c2 : Value} (h : Blk w b t #[c0, c1, c2]) (k : Kept [] w W) :
    W.cell? ⟨b, 0, none⟩ = some c0 ∧ W.cell? ⟨b, 1, none⟩ = some c1 ∧ W.cell? ⟨b, 2, none⟩ = some c2 := by
  have h2 := h.kept k (fun h => by cases h)
  exact ⟨h2.cell 0, h2.cell 1, h2.cell 2⟩
set_option maxHeartbeats 1000000 in
theorem geom_Span (o c ch x m : Int) (w : World) (hG : rightG o c = true) (h0 : 0 ≤ ch) (h1 : ch < (o + c - 1) / c) (hx : ch * c = x) (hm : min c (o - x) = m) (hxb : 0 ≤ x ∧ x ≤ 1048576) :
    Calls Try.prog 24 #[.agg #[.int .i64 o, .int .i64 c], .int .i64 ch] w fun e w' => e = .returned (.tuple #[.agg #[.int .i64 x, .int .i64 m], .int .i64 0]) ∧ Kept [] w w' := by
  have hr : (1 ≤ o ∧ o ≤ 1048576) ∧ 1 ≤ c ∧ c ≤ 128 := by simpa [rightG, and_assoc] using hG
  have hb := (Blk.new w 52 #[.int .i64 o, .int .i64 c]).alloc (.cells #[.int .i64 0, .int .i64 0] 48)
  have hO := blk_new (w := w.alloc (.cells #[.int .i64 o, .int .i64 c] 52)) (t := 48) (cs := #[.int .i64 0, .int .i64 0]) (g := w.heap.size + 1) (by simp)
  have K0 := Lib.hid (((Kept.refl [] w).alloc (.cells #[.int .i64 o, .int .i64 c] 52)).alloc (.cells #[.int .i64 0, .int .i64 0] 48))
  have hwx : IntKind.i64.wrap (ch * c) = x := by rw [hx]; exact IntWalk.i64_in _ (by omega)
  have hw2 : IntKind.i64.wrap (o - x) = o - x := IntWalk.i64_in _ (by omega)
  have Hm := Lib.hid hm
  clear hx
  obtain ⟨z, hz⟩ : ∃ z, (o + c - 1) / c = z := ⟨_, rfl⟩
  have HZ := Lib.hid hz
  rw [hz] at h1
  clear hz hm
  go_enter Try.func24, Try.ntmps24
  go_wp2_with fail
  refine (geom_Right o c _).mono ?_
  rintro e w1 ⟨rfl, k1⟩
  rw [hG]
  obtain ⟨q0, q1⟩ := agg2 hb k1
  have hb1 := hb.kept k1 (fun h => by cases h)
  have hO1 := hO.kept k1 (fun h => by cases h)
  go_wp2_with fail
  refine (geom_Chunks o c _ hG).mono ?_
  rintro e w2 ⟨rfl, k2⟩
  rw [HZ.out]
  obtain ⟨r0, r1⟩ := agg2 hb1 k2
  have hO2 := Lib.hid (hO1.kept k2 (fun h => by cases h))
  have HK2 := Lib.hid ((K0.out.trans k1).trans k2)
  have u0 := hO2.out.cell 0
  have u1 := hO2.out.cell 1
  have uf0 := hO2.out.frozen 0
  have uf1 := hO2.out.frozen 1
  clear hb hO hb1 hO1 k1 k2 q0 q1
  have hmm := Hm.out
  rcases (show (c ≤ o - x ∧ m = c) ∨ (o - x < c ∧ m = o - x) by omega) with ⟨hl, rfl⟩ | ⟨hl, rfl⟩
  · clear hmm
    go_wp2_with fail
    refine bodyPost_ret (v := .tuple #[.agg #[.int .i64 x, .int .i64 m], .int .i64 0]) (by simp [results, Try.results24, go_sem, set2 hO2.out (.int .i64 x) (.int .i64 m)]) rfl ⟨rfl, ?_⟩
    exact (HK2.out.setCell (p := ⟨w.heap.size + 1, 0, none⟩) (.inr (Nat.le_succ _)) _).setCell (p := ⟨w.heap.size + 1, 1, none⟩) (.inr (Nat.le_succ _)) _
  · clear hmm
    have hl2 : ¬ c ≤ o - x := by omega
    go_wp2_with fail
    refine bodyPost_ret (v := .tuple #[.agg #[.int .i64 x, .int .i64 (o - x)], .int .i64 0]) (by simp [results, Try.results24, go_sem, set2 hO2.out (.int .i64 x) (.int .i64 (o - x))]) rfl ⟨rfl, ?_⟩
    exact (HK2.out.setCell (p := ⟨w.heap.size + 1, 0, none⟩) (.inr (Nat.le_succ _)) _).setCell (p := ⟨w.heap.size + 1, 1, none⟩) (.inr (Nat.le_succ _)) _
end Go.Proofs.Ytdifolhkbkaamaa
