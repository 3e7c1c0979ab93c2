/- A geometry: where one sector lies; a chunk's sectors. -/
import Derived.Test.YtdifolhkbkaamaaGeoA
import Derived.Shelf.Abstract
namespace Go.Proofs.Ytdifolhkbkaamaa
open Go.RowKit
attribute [local go_sem] Oper.semAt_some

theorem geom_Right (o c : Int) (w : World) : Calls Try.prog 32 #[.agg #[.int .i64 o, .int .i64 c]] w fun e w' => e = .returned (.bool (rightG o c)) ∧ Kept [] w w' := by
  have H : Hid (∀ x, rightG o c = x ↔ ((decide (1 ≤ o) && decide (o ≤ 1048576)) && (decide (1 ≤ c) && decide (c ≤ 128))) = x) := fun x => Iff.rfl
  by_cases h2 : 1 ≤ o
  · by_cases h3 : o ≤ 1048576
    · by_cases h4 : 1 ≤ c
      · by_cases h5 : c ≤ 128
        all_goals
          go_enter Try.func32, Try.ntmps32
          go_wp2_with fail
          go_ret
          refine ⟨?_, (Kept.refl [] w).alloc _⟩
          rw [(H.out _).2 rfl]
          congr 2
          simp
          omega
      · go_enter Try.func32, Try.ntmps32
        go_wp2_with fail
        go_ret
        refine ⟨?_, (Kept.refl [] w).alloc _⟩
        rw [(H.out false).2 (by simp; omega)]
        rfl
    · go_enter Try.func32, Try.ntmps32
      go_wp2_with fail
      go_ret
      refine ⟨?_, (Kept.refl [] w).alloc _⟩
      rw [(H.out false).2 (by simp; omega)]
      rfl
  · go_enter Try.func32, Try.ntmps32
    go_wp2_with fail
    go_ret
    refine ⟨?_, (Kept.refl [] w).alloc _⟩
    rw [(H.out false).2 (by simp; omega)]
    rfl
theorem blk_new {w : World} {t : TypeId} {cs : Array Value} {g : Nat} (h : g = w.heap.size) : Blk (w.alloc (.cells cs t)) g t cs := by
  subst h
  exact Blk.new w t cs
theorem agg2 {w W : World} {b : Nat} {t : TypeId} {c0 c1 : Value} (h : Blk w b t #[c0, c1]) (k : Kept [] w W) :
    W.cell? ⟨b, 0, none⟩ = some c0 ∧ W.cell? ⟨b, 1, none⟩ = some c1 := by
  have h2 := h.kept k (fun h => by cases h)
  exact ⟨h2.cell 0, h2.cell 1⟩
theorem infoP : (Try.prog.info? 75).map (fun i => (i.zero, i.size, i.bytes)) = some (some (.agg #[.int .i64 0, .int .i64 0, .int .i64 0]), 3, 24) := by kernel_rfl
def SplitPost (w : World) (m : Int) (e : Ending) (w' : World) : Prop := (∃ A k d, e = .returned (.tuple #[.slice A k d, .int .i64 m])) ∧ Kept [] w w'
set_option maxRecDepth 4000 in
set_option maxHeartbeats 2000000 in
theorem geom_Split_one (o c at_ : Int) (w : World) (hG : rightG o c = true) (h0 : 0 ≤ at_) (h1 : at_ < o) :
    Calls Try.prog 22 #[.agg #[.int .i64 o, .int .i64 c], .int .i64 at_, .int .i64 1] w (SplitPost w 0) := by
  have hr : (1 ≤ o ∧ o ≤ 1048576) ∧ 1 ≤ c ∧ c ≤ 128 := by simpa [rightG, and_assoc] using hG
  have hb := Blk.new w 52 #[.int .i64 o, .int .i64 c]
  have hws : IntKind.i64.wrap (o - at_) = o - at_ := IntWalk.i64_in _ (by omega)
  refine (callsIn_wide (n := 4)).1 ?_
  refine callsIn_of_wp_marks Try.func22 rfl trivial ?_ rfl
  refine wpIn_wide.2 ?_
  simp only [Try.ntmps22, List.size_toArray, List.length_cons, List.length_nil, Nat.reduceAdd, Nat.reduceSub, Array.replicate_succ, Array.replicate_zero, List.push_toArray, List.append_toArray, List.nil_append, List.cons_append]
  go_wp2_with fail
  refine (geom_Right o c _).mono ?_
  rintro e w1 ⟨rfl, k1⟩
  rw [hG]
  obtain ⟨q0, q1⟩ := agg2 hb k1
  have HK1 := Lib.hid (((Kept.refl [] w).alloc _).trans k1)
  have q0' := ((Kept.refl [] w1).alloc (.cells #[.slice none 0 0] 61)).cell q0 (fun h => by cases h)
  have q1' := ((Kept.refl [] w1).alloc (.cells #[.slice none 0 0] 61)).cell q1 (fun h => by cases h)
  go_wp2_with fail
  refine (geom_pieces o c at_ 1 _).mono ?_
  rintro e w2 ⟨rfl, rfl⟩
  go_wp2_with fail
  have B8 := ((((Blk.new w1 61 #[.slice none 0 0]).alloc (.cells #[.int .i64 o, .int .i64 c] 52)).alloc (.cells #[.int .i64 at_] 3)).alloc (.cells #[.int .i64 1] 3))
  have BG := (((blk_new (w := w1.alloc (.cells #[.slice none 0 0] 61)) (t := 52) (cs := #[.int .i64 o, .int .i64 c]) (g := w1.heap.size + 1) (by simp)).alloc (.cells #[.int .i64 at_] 3)).alloc (.cells #[.int .i64 1] 3))
  have BA := (blk_new (w := (w1.alloc (.cells #[.slice none 0 0] 61)).alloc (.cells #[.int .i64 o, .int .i64 c] 52)) (t := 3) (cs := #[.int .i64 at_]) (g := w1.heap.size + 2) (by simp)).alloc (.cells #[.int .i64 1] 3)
  have BN := blk_new (w := ((w1.alloc (.cells #[.slice none 0 0] 61)).alloc (.cells #[.int .i64 o, .int .i64 c] 52)).alloc (.cells #[.int .i64 at_] 3)) (t := 3) (cs := #[.int .i64 1]) (g := w1.heap.size + 3) (by simp)
  have K0 := (((HK1.out.alloc (.cells #[.slice none 0 0] 61)).alloc (.cells #[.int .i64 o, .int .i64 c] 52)).alloc (.cells #[.int .i64 at_] 3)).alloc (.cells #[.int .i64 1] 3)
  have hz : ((((w1.alloc (.cells #[.slice none 0 0] 61)).alloc (.cells #[.int .i64 o, .int .i64 c] 52)).alloc (.cells #[.int .i64 at_] 3)).alloc (.cells #[.int .i64 1] 3)).heap.size = w1.heap.size + 4 := by simp
  have hw1 := HK1.out.size
  generalize ((((w1.alloc (.cells #[.slice none 0 0] 61)).alloc (.cells #[.int .i64 o, .int .i64 c] 52)).alloc (.cells #[.int .i64 at_] 3)).alloc (.cells #[.int .i64 1] 3)) = W0 at *
  refine (wpIn_wide (n := 4)).1 ?_
  refine range_boxes (F := Fence.wide) rfl (by decide) (gf := 44) (lb := #[.pointer (some ⟨w1.heap.size + 3, 0, none⟩), .pointer (some ⟨w1.heap.size + 2, 0, none⟩), .pointer (some ⟨w1.heap.size + 1, 0, none⟩)]) rfl trivial (enters_of Try.func44 (by kernel_rfl) rfl)
    (pieces_one 3 (w1.heap.size + 3) (w1.heap.size + 2) (w1.heap.size + 1) o c at_ W0 (by omega) (by omega) h0 (by omega) (by decide) BN BA BG (by omega))
    (by intro b hb; simp at hb; omega) KpT.trans (fun W l o o' _ h ho _ => KpT.putObj o' h ho) (fun _ => rfl)
    (fun pre W => (∃ v, Blk W w1.heap.size 61 #[v] ∧ (∃ A k d, v = .slice A k d) ∧ (pre = [] → v = .slice none 0 0)) ∧ Kept [] w W)
    (fun _ _ _ => False) ?own (fun _ _ _ _ _ h _ _ => h.elim) ?box (fun _ _ _ _ h _ => h.elim)
    ⟨⟨_, B8, ⟨_, _, _, rfl⟩, fun _ => rfl⟩, K0⟩
    (fun _ a' W => ∃ bp, Blk W bp 75 #[.int .i64 (at_ / c), .int .i64 (at_ % c), .int .i64 1] ∧ a' = { tmps := #[Value.agg #[Value.int IntKind.i64 o, Value.int IntKind.i64 c], Value.int IntKind.i64 at_, Value.int IntKind.i64 1, Value.pointer (some { block := w.heap.size, off := 0 }), undef, undef, Value.slice none 0 0, Value.int IntKind.i64 0, Value.pointer (some { block := w1.heap.size, off := 0 }), Value.pointer (some { block := bp, off := 0 }), Value.bool false, Value.agg #[Value.int IntKind.i64 o, Value.int IntKind.i64 c], Value.bool true, Value.bool false, Value.bool (decide (at_ < 0) || decide (o < at_) || decide (o - at_ < 1)), Value.int IntKind.i64 at_, Value.bool (decide (at_ < 0)), Value.bool (decide (at_ < 0)), Value.int IntKind.i64 1, Value.bool false, Value.bool (decide (at_ < 0)), Value.bool (decide (at_ < 0)), Value.int IntKind.i64 at_, Value.pointer (some { block := w.heap.size, off := 0 }), Value.int IntKind.i64 o, Value.bool (decide (o < at_)), Value.bool (decide (at_ < 0) || decide (o < at_)), Value.bool (decide (at_ < 0) || decide (o < at_)), Value.int IntKind.i64 1, Value.pointer (some { block := w.heap.size, off := 0 }), Value.int IntKind.i64 o, Value.int IntKind.i64 at_, Value.int IntKind.i64 (o - at_), Value.bool (decide (o - at_ < 1)), Value.bool (decide (at_ < 0) || decide (o < at_) || decide (o - at_ < 1)), Value.agg #[Value.int IntKind.i64 o, Value.int IntKind.i64 c], Value.int IntKind.i64 at_, Value.int IntKind.i64 1, Value.func (Fn.func 44) #[] #[Value.pointer (some { block := w1.heap.size + 1 + 2, off := 0 }), Value.pointer (some { block := w1.heap.size + 1 + 1, off := 0 }), Value.pointer (some { block := w1.heap.size + 1, off := 0 })], Value.agg #[Value.int IntKind.i64 (at_ / c), Value.int IntKind.i64 (at_ % c), Value.int IntKind.i64 1], undef, undef, undef, undef, undef], defers := [] }) ?ax ?assign ?body ?done ?stop
  case own =>
    rintro pre A B row ⟨⟨v, hb, hs, hp⟩, hk⟩ hg hr
    exact ⟨⟨v, (grownBy_keeps_cells hg (fun r e => (hr r e).2) hb rfl).trans hb, hs, hp⟩, hk.grown hg (fun k e => .inr (by have := (hr k e).1; omega))⟩
  case box =>
    rintro pre A B ⟨⟨v, hb, hs, hp⟩, hk⟩ hkk
    exact ⟨⟨v, hkk.heap hb (by simp), hs, hp⟩, hk.trans' hkk (fun x hx => .inr (by simp at hx; omega))⟩
  case ax =>
    rintro x a' W l ob ob' ⟨bp, hb, h1⟩ hl ho hc
    refine ⟨bp, ?_, h1⟩
    refine (World.putObj_heap_other ?_).trans hb
    intro e
    subst e
    have hb' : W.heap[bp]? = some (.cells #[.int .i64 (at_ / c), .int .i64 (at_ % c), .int .i64 1] 75 (0, 0)) := hb
    rw [hb'] at ho
    injection ho with ho
    subst ho
    cases hc
  case assign =>
    rintro l pre x W K ⟨⟨v, hb, hs, hp⟩, hk⟩ hlen hK
    dsimp only [pc]
    gi_wp2
    refine hK _ _ (KeepsOthers.alloc W _) (fun b cs t fr hb _ => (Below.heap_alloc W _ b (Array.getElem?_eq_some_iff.1 hb).1).trans hb) ⟨⟨v, hb.alloc _, hs, hp⟩, hk.alloc _⟩ ⟨_, Blk.new W _ _, rfl⟩
  case body =>
    rintro l pre x a' W ⟨bp, hbp, rfl⟩ ⟨⟨v, hb, hs, hp⟩, hk⟩ hlen
    obtain rfl : pre = [] := by
      cases pre with
      | nil => rfl
      | cons y t => simp at hlen
    obtain rfl := hp rfl
    obtain ⟨i0, hi0, hz0, hz1, hz2⟩ := info_parts infoP
    have c8 := hb.cell 0
    have f8 := hb.frozen 0
    have p0 := hbp.cell 0
    have p1 := hbp.cell 1
    have p2 := hbp.cell 2
    have B8n := hb.alloc (.cells #[.int .i64 (at_ / c), .int .i64 (at_ % c), .int .i64 1] 75)
    gi_wp2_with (gi_at_builtin; refine wpListIn_append_own _ rfl (.tmp 40) (.tmp 42) _ rfl W.heap.size 75 i0 _ 3 24 Try.underlying61 hi0 hz0 hz1 hz2 rfl (by decide) _ 0 [] rfl (World.ownsRow_nil _ _ _ _) ⟨W.heap.size, 0, none⟩ 1 1 [.int .i64 (at_ / c), .int .i64 (at_ % c), .int .i64 1] rfl rfl (World.news_of_block (cs := #[.int .i64 (at_ / c), .int .i64 (at_ % c), .int .i64 1]) (t := 75) (fr := (0, 0)) (heap_alloc_new W _)) (by simp [Value.oneCell']) (by decide) (by decide) (by simp) ?_; intro v' w5 hown5 hgrow5 hn5; obtain ⟨g', cap', rfl⟩ := ownsRow_succ hown5; have K5 := (Kept.refl [] _).grown hgrow5 (fun k e => by cases e); have b85 := B8n.kept K5 (fun h => by cases h); have c85 := b85.cell 0; have f85 := b85.frozen 0)
    have KK : Kept [w1.heap.size] W (w5.setCell ⟨w1.heap.size, 0, none⟩ (.slice (some ⟨g', 0, none⟩) 1 cap')) := (((Kept.refl [w1.heap.size] W).alloc _).trans' K5 (fun x hx => by cases hx)).setCell (.inl (by simp)) _
    refine ⟨(KeepsOthers.alloc W _).trans ((KeepsOthers.of_grownBy hgrow5 (fun j ob e => by cases e)).trans (KeepsOthers.setCell _ _ _)), ?_, ⟨_, b85.set_ 0 _, ⟨_, _, _, rfl⟩, fun h => by simp at h⟩, hk.trans' KK (fun x hx => .inr (by simp at hx; omega))⟩
    intro b cs t fr hbb ho
    refine KK.heap hbb ?_
    intro hm
    obtain rfl : b = w1.heap.size := by simpa using hm
    rcases ho with ho | ho
    · simp at ho
    · have h8 : W.heap[w1.heap.size]? = some (.cells #[.slice none 0 0] 61 (0, 0)) := hb
      rw [h8] at hbb
      injection hbb with hbb
      injection hbb with _ hbb _
      rw [ho] at hbb
      exact absurd hbb (by decide)
  case done =>
    rintro D xs W hD _ ⟨⟨v, hb, ⟨A, k, d, rfl⟩, hp⟩, hk⟩ hdef
    have c8 := hb.cell 0
    go_wp2_with fail
    refine ⟨by simp, .inl ⟨_, _, rfl, run_takeDeferred hdef, ?_⟩⟩
    exact ⟨_, results_tmp2 rfl _ _ _, ⟨_, _, _, rfl⟩, hk.grown (grownBy_putObj' W D _) (fun k e => .inr (by cases e; omega))⟩
  case stop =>
    rintro D cc pre W _ _ h _
    exact h.elim
set_option maxHeartbeats 1000000 in
theorem geom_Split_far (o c at_ n : Int) (w : World) (hG : rightG o c = true) (h : at_ < 0 ∨ n < 0 ∨ o < at_ ∨ o - at_ < n) (ha : -4611686018427387904 ≤ at_ ∧ at_ ≤ 4611686018427387904) :
    Calls Try.prog 22 #[.agg #[.int .i64 o, .int .i64 c], .int .i64 at_, .int .i64 n] w (SplitPost w 2) := by
  have hr : (1 ≤ o ∧ o ≤ 1048576) ∧ 1 ≤ c ∧ c ≤ 128 := by simpa [rightG, and_assoc] using hG
  have hb := Blk.new w 52 #[.int .i64 o, .int .i64 c]
  have hws : IntKind.i64.wrap (o - at_) = o - at_ := IntWalk.i64_in _ (by omega)
  refine (callsIn_wide (n := 4)).1 ?_
  refine callsIn_of_wp_marks Try.func22 rfl trivial ?_ rfl
  refine wpIn_wide.2 ?_
  simp only [Try.ntmps22, List.size_toArray, List.length_cons, List.length_nil, Nat.reduceAdd, Nat.reduceSub, Array.replicate_succ, Array.replicate_zero, List.push_toArray, List.append_toArray, List.nil_append, List.cons_append]
  by_cases h1 : at_ < 0
  · go_wp2_with fail
    refine (geom_Right o c _).mono ?_
    rintro e w1 ⟨rfl, k1⟩
    rw [hG]
    obtain ⟨q0, q1⟩ := agg2 hb k1
    go_wp2_with fail
    exact ⟨_, results_tmp2 rfl _ _ _, ⟨_, _, _, rfl⟩, ((Kept.refl [] w).alloc _).trans k1⟩
  · by_cases h2 : n < 0
    · go_wp2_with fail
      refine (geom_Right o c _).mono ?_
      rintro e w1 ⟨rfl, k1⟩
      rw [hG]
      obtain ⟨q0, q1⟩ := agg2 hb k1
      go_wp2_with fail
      exact ⟨_, results_tmp2 rfl _ _ _, ⟨_, _, _, rfl⟩, ((Kept.refl [] w).alloc _).trans k1⟩
    · by_cases h3 : o < at_
      · go_wp2_with fail
        refine (geom_Right o c _).mono ?_
        rintro e w1 ⟨rfl, k1⟩
        rw [hG]
        obtain ⟨q0, q1⟩ := agg2 hb k1
        go_wp2_with fail
        exact ⟨_, results_tmp2 rfl _ _ _, ⟨_, _, _, rfl⟩, ((Kept.refl [] w).alloc _).trans k1⟩
      · have h4 : o - at_ < n := by omega
        go_wp2_with fail
        refine (geom_Right o c _).mono ?_
        rintro e w1 ⟨rfl, k1⟩
        rw [hG]
        obtain ⟨q0, q1⟩ := agg2 hb k1
        go_wp2_with fail
        exact ⟨_, results_tmp2 rfl _ _ _, ⟨_, _, _, rfl⟩, ((Kept.refl [] w).alloc _).trans k1⟩
theorem geom_up (n e : Int) (w : World) (h0 : 0 ≤ n) (h1 : n ≤ 1048576) (e0 : 1 ≤ e) (e1 : e ≤ 128) : Calls Try.prog 45 #[.int .i64 n, .int .i64 e] w fun r w' => r = .returned (.int .i64 ((n + e - 1) / e)) ∧ w = w' := by
  have hq : (n + e - 1).tdiv e = (n + e - 1) / e := Int.tdiv_eq_ediv_of_nonneg (by omega)
  have hne : (e == 0) = false := by rw [beq_eq_false_iff_ne]; omega
  have hne2 : e ≠ 0 := by omega
  have hw1 : IntKind.i64.wrap (n + e) = n + e := IntWalk.i64_in _ (by omega)
  have hw2 : IntKind.i64.wrap (n + e - 1) = n + e - 1 := IntWalk.i64_in _ (by omega)
  have hb : 0 ≤ (n + e - 1) / e ∧ (n + e - 1) / e ≤ 2000000 := ⟨Int.ediv_nonneg (by omega) (by omega), Int.le_trans (Int.ediv_le_self _ (by omega)) (by omega)⟩
  have hw3 : IntKind.i64.wrap ((n + e - 1) / e) = (n + e - 1) / e := IntWalk.i64_in _ (by omega)
  go_enter Try.func45, Try.ntmps45
  go_wp2_with fail
  go_ret
  exact ⟨rfl, rfl⟩
def chunksG (o c : Int) : Int := if rightG o c = true then (o + c - 1) / c else 0
theorem geom_Chunks (o c : Int) (w : World) (hG : rightG o c = true) : Calls Try.prog 36 #[.agg #[.int .i64 o, .int .i64 c]] w fun e w' => e = .returned (.int .i64 ((o + c - 1) / c)) ∧ Kept [] w w' := by
  have hr : (1 ≤ o ∧ o ≤ 1048576) ∧ 1 ≤ c ∧ c ≤ 128 := by simpa [rightG, and_assoc] using hG
  have hb := Blk.new w 52 #[.int .i64 o, .int .i64 c]
  go_enter Try.func36, Try.ntmps36
  go_wp2_with fail
  refine (geom_Right o c _).mono ?_
  rintro e w1 ⟨rfl, k1⟩
  rw [hG]
  obtain ⟨q0, q1⟩ := agg2 hb k1
  go_wp2_with fail
  refine (geom_up o c _ (by omega) (by omega) (by omega) (by omega)).mono ?_
  rintro e w2 ⟨rfl, rfl⟩
  go_wp2_with fail
  go_ret
  exact ⟨rfl, ((Kept.refl [] w).alloc _).trans k1⟩
end Go.Proofs.Ytdifolhkbkaamaa
