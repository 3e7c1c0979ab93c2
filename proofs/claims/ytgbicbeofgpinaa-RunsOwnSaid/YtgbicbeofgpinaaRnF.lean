/- Exceptions in runs: all of them, and the first one, of any exceptions. -/
import Derived.Test.YtgbicbeofgpinaaRnE
namespace Go.Proofs.Ytgbicbeofgpinaa
open Go.RowKit
attribute [local go_sem] Oper.semAt_some

def OfPost (most : Int) (l : List En) (w : World) (e : Ending) (w' : World) : Prop :=
  (rightR most l = false ∧ e = .returned (.tuple #[.slice none 0 0, .int .i64 1]) ∧ Kept [] w w') ∨
  (rightR most l = true ∧ ∃ (v : Value) (xs : List Rn), e = .returned (.tuple #[v, .int .i64 0]) ∧ xs.map (·.r) = runsR most l ∧ w'.ownsRow w.heap.size 22 1 v xs.length (xs.map rnV) ∧ (∀ x ∈ xs, RnOk w.heap.size x w') ∧ Kept [] w w')
theorem blk_new' {w : World} {t : TypeId} {cs : Array Value} {g : Nat} (h : g = w.heap.size) : Blk (w.alloc (.cells cs t)) g t cs := by
  subst h
  exact Blk.new w t cs
theorem RdE.kept' {w w' : World} {A : Option Addr} {l : List En} (h : RdE w A l) (k : Kept [] w w') : Rd w' w.heap.size 2 A l.length (l.flatMap enE) := Rd.kept h k (Nat.le_refl _) (fun _ h => by cases h)
theorem own_down {w : World} {base base' e size n : Nat} {v : Value} {xs : List Value} (h : w.ownsRow base e size v n xs) (hb : base' ≤ base) : w.ownsRow base' e size v n xs := by
  refine ⟨h.1, ?_⟩
  rcases h.2 with h2 | ⟨g, cap, cur, e, h2, h3⟩
  · exact .inl h2
  · exact .inr ⟨g, cap, cur, e, Nat.le_trans hb h2, h3⟩
set_option maxHeartbeats 1000000 in
theorem runs_Of (most : Int) (w : World) (A : Option Addr) (c : Nat) (l : List En) (hA : RdE w A l) (hc : l.length ≤ c) (hn : l.length ≤ 8796093022208) (hmb : most ≤ 9223372036854775807) (ho : ∀ x ∈ l, x.org ≤ 9223372036854775807) :
    Calls Try.prog 7 #[.int .i64 most, .slice A l.length c] w (OfPost most l w) := by
  have HR := runs_right most w A c l hA hn
  by_cases hr : rightR most l = true
  · obtain ⟨hup, hm⟩ := right_up hr ho
    go_enter Try.func7, Try.ntmps7
    go_wp2_with (go_at_call 13; refine HR.mono ?_; rintro e w1 ⟨rfl, k1⟩; rw [hr])
    refine (runs_all most A l.length c _).mono ?_
    rintro e w2 ⟨rfl, rfl⟩
    have hz := k1.size
    have BM : Blk ((w1.alloc (.cells #[.int .i64 most] 3)).alloc (.cells #[.slice A l.length c] 22)) w1.heap.size 3 #[.int .i64 most] := (Blk.new w1 _ _).alloc _
    have BL : Blk ((w1.alloc (.cells #[.int .i64 most] 3)).alloc (.cells #[.slice A l.length c] 22)) (w1.heap.size + 1) 22 #[.slice A l.length c] := blk_new' (by simp)
    have K2 : Kept [] w ((w1.alloc (.cells #[.int .i64 most] 3)).alloc (.cells #[.slice A l.length c] 22)) := (k1.alloc _).alloc _
    have hA2 := hA.kept' K2
    generalize (w1.alloc (.cells #[.int .i64 most] 3)).alloc (.cells #[.slice A l.length c] 22) = W2 at *
    go_wp2_with fail
    refine (collect_seq most l A c (w1.heap.size + 1) w1.heap.size w.heap.size W2 hm hmb hn hup (by omega) K2.size (by omega) hz BL BM hA2 hc).mono ?_
    rintro e w3 ⟨v, xs, rfl, h1, h2, h3, k3⟩
    go_wp2_with fail
    refine bodyPost_ret (results_tmp2 rfl _ _ _) rfl ?_
    refine .inr ⟨hr, v, xs, rfl, h1, own_down h2 K2.size, fun x hx => ⟨own_down (h3 x hx).1 K2.size, (h3 x hx).2⟩, K2.trans' k3 (fun z hz2 => .inr ?_)⟩
    simp at hz2
    omega
  · have hr : rightR most l = false := by simpa using hr
    go_enter Try.func7, Try.ntmps7
    go_wp2_with (go_at_call 13; refine HR.mono ?_; rintro e w1 ⟨rfl, k1⟩; rw [hr])
    refine bodyPost_ret (results_tmp2 rfl _ _ _) rfl ?_
    exact .inl ⟨hr, rfl, k1⟩
def FirstPost (most : Int) (l : List En) (w : World) (e : Ending) (w' : World) : Prop :=
  (rightR most l = false ∧ e = .returned (.tuple #[.slice none 0 0, .int .i64 1]) ∧ Kept [] w w') ∨
  (rightR most l = true ∧ l = [] ∧ e = .returned (.tuple #[.slice none 0 0, .int .i64 0]) ∧ Kept [] w w') ∨
  (rightR most l = true ∧ l ≠ [] ∧ ∃ x : Rn, e = .returned (.tuple #[rnV x, .int .i64 0]) ∧ x.r = l.take (cutR most l) ∧ RnOk w.heap.size x w' ∧ Kept [] w w')
theorem defer_set {W : World} {D : Nat} {d : Option (List Deferred)} (h : W.heap[D]? = some (.deferred d)) (p : Addr) (u : Value) : (W.setCell p u).heap[D]? = some (.deferred d) := (KeepsOthers.setCell W p u).same _ _ h rfl
theorem blk_defer {W : World} {D : Nat} {d : Option (List Deferred)} (h : W.heap[D]? = some (.deferred d)) (o : Obj) {b t : Nat} {cs : Array Value} (hb : Blk W b t cs) : Blk (W.putObj D o) b t cs := by
  refine (World.putObj_heap_other ?_).trans hb
  rintro rfl
  have hb' : W.heap[b]? = some (.cells cs t (0, 0)) := hb
  rw [hb'] at h
  cases h
theorem results_first (tmps : Array Value) (w : World) (a b : Addr) (u v : Value) (hp : tmps[4]?.getD undef = .pointer (some a)) (hq : tmps[5]?.getD undef = .pointer (some b)) (hu : w.cell? a = some u) (hv : w.cell? b = some v) :
    (results Try.f9 tmps).run Try.prog w = .ok (.tuple #[u, v]) w := by
  simp [results, hp, hq, asAddr, hu, hv, go_sem]
set_option maxRecDepth 4000 in
set_option maxHeartbeats 1000000 in
theorem runs_First (most : Int) (w : World) (A : Option Addr) (c : Nat) (l : List En) (hA : RdE w A l) (hc : l.length ≤ c) (hn : l.length ≤ 8796093022208) (hmb : most ≤ 9223372036854775807) (ho : ∀ x ∈ l, x.org ≤ 9223372036854775807) :
    Calls Try.prog 9 #[.int .i64 most, .slice A l.length c] w (FirstPost most l w) := by
  refine (callsIn_wide (n := 4)).1 ?_
  refine callsIn_of_wp_marks Try.func9 rfl trivial ?_ rfl
  refine wpIn_wide.2 ?_
  simp only [Try.ntmps9, List.size_toArray, List.length_cons, List.length_nil, Nat.reduceAdd, Nat.reduceSub, Array.replicate_succ, Array.replicate_zero, List.push_toArray, List.append_toArray, List.nil_append, List.cons_append]
  go_wp2_with fail
  have b4 : Blk ((w.alloc (.cells #[.slice none 0 0] 22)).alloc (.cells #[.int .i64 0] 25)) w.heap.size 22 #[.slice none 0 0] := (Blk.new w _ _).alloc _
  have b5 : Blk ((w.alloc (.cells #[.slice none 0 0] 22)).alloc (.cells #[.int .i64 0] 25)) (w.heap.size + 1) 25 #[.int .i64 0] := blk_new' (by simp)
  have K1 : Kept [] w ((w.alloc (.cells #[.slice none 0 0] 22)).alloc (.cells #[.int .i64 0] 25)) := ((Kept.refl [] w).alloc _).alloc _
  generalize (w.alloc (.cells #[.slice none 0 0] 22)).alloc (.cells #[.int .i64 0] 25) = W1 at *
  have HR := runs_right most W1 A c l (hA.kept K1) hn
  refine HR.mono ?_
  rintro e w1 ⟨rfl, k1⟩
  have b41 := b4.kept k1 (fun h => by cases h)
  have b51 := b5.kept k1 (fun h => by cases h)
  have K2 := K1.trans k1
  clear b4 b5 K1 k1 HR
  have c4 := b41.cell 0
  have f4 := b41.frozen 0
  have c5 := b51.cell 0
  have f5 := b51.frozen 0
  have hne : ¬ w.heap.size = w.heap.size + 1 := by omega
  have hne2 : ¬ w.heap.size + 1 = w.heap.size := by omega
  by_cases hr : rightR most l = true
  · obtain ⟨hup, hm⟩ := right_up hr ho
    rw [hr]
    go_wp2_with fail
    refine (runs_all most A l.length c _).mono ?_
    rintro e w2 ⟨rfl, rfl⟩
    go_wp2_with fail
    have hz := K2.size
    have hz5 := b51.lt
    have BM : Blk ((w1.alloc (.cells #[.int .i64 most] 3)).alloc (.cells #[.slice A l.length c] 22)) w1.heap.size 3 #[.int .i64 most] := (Blk.new w1 _ _).alloc _
    have BL : Blk ((w1.alloc (.cells #[.int .i64 most] 3)).alloc (.cells #[.slice A l.length c] 22)) (w1.heap.size + 1) 22 #[.slice A l.length c] := blk_new' (by simp)
    have K3 : Kept [] w ((w1.alloc (.cells #[.int .i64 most] 3)).alloc (.cells #[.slice A l.length c] 22)) := (K2.alloc _).alloc _
    have B4 := (b41.alloc (.cells #[.int .i64 most] 3)).alloc (.cells #[.slice A l.length c] 22)
    have B5 := (b51.alloc (.cells #[.int .i64 most] 3)).alloc (.cells #[.slice A l.length c] 22)
    have hA2 := hA.kept' K3
    have hzW : ((w1.alloc (.cells #[.int .i64 most] 3)).alloc (.cells #[.slice A l.length c] 22)).heap.size = w1.heap.size + 2 := by simp
    generalize (w1.alloc (.cells #[.int .i64 most] 3)).alloc (.cells #[.slice A l.length c] 22) = W2 at *
    refine (wpIn_wide (n := 4)).1 ?_
    refine range_told (F := Fence.wide) rfl (by decide) (gf := 18) (lb := #[.pointer (some ⟨w1.heap.size + 1, 0, none⟩), .pointer (some ⟨w1.heap.size, 0, none⟩)]) rfl trivial (enters_of Try.func18 (by kernel_rfl) rfl)
      (all_seq most l A c 3 (w1.heap.size + 1) w1.heap.size w.heap.size W2.heap.size W2 hm hmb hn hup (by omega) K3.size (Nat.le_refl _) (by omega) hz BL BM hA2 hc (by decide))
      (by intro b hb; simp at hb; omega) KpB.trans (fun W l o o' hl h ho _ => ⟨by simp, fun b ob hb hx => (World.putObj_heap_other (by rcases hx with hx | hx; omega; simp at hx; omega)).trans hb⟩) (fun _ => rfl)
      (fun pre W => pre = [] ∧ Blk W w.heap.size 22 #[.slice none 0 0] ∧ Blk W (w.heap.size + 1) 25 #[.int .i64 0] ∧ Kept [] w W)
      (fun cc pre W => cc = .ret ∧ ∃ x, pre = [x] ∧ Blk W w.heap.size 22 #[rnV x] ∧ Blk W (w.heap.size + 1) 25 #[.int .i64 0] ∧ RnOk W2.heap.size x W ∧ Kept [] w W) ?own ?ownx ?box ?boxx
      ⟨rfl, B4, B5, K3⟩
      (fun x a' W => a' = { tmps := #[.int .i64 most, .slice A l.length c, undef, undef, .pointer (some ⟨w.heap.size, 0, none⟩), .pointer (some ⟨w.heap.size + 1, 0, none⟩), rnV x, .int .i64 most, .slice A l.length c, .bool true, .bool false, .int .i64 most, .slice A l.length c, seqV (w1.heap.size + 1) w1.heap.size, rnV x, undef], defers := [] } ∧ RnOk W2.heap.size x W) ?ax ?assign ?body ?done ?stop
    case own =>
      rintro pre A B row ⟨h1, h2, h3, hk⟩ hg hr
      exact ⟨h1, (grownBy_keeps_cells hg (fun r e => (hr r e).2) h2 rfl).trans h2, (grownBy_keeps_cells hg (fun r e => (hr r e).2) h3 rfl).trans h3, hk.grown hg (fun k e => .inr (by have := (hr k e).1; omega))⟩
    case ownx =>
      rintro cc pre A B row ⟨h0, x, h1, h2, h3, h4, hk⟩ hg hr
      exact ⟨h0, x, h1, (grownBy_keeps_cells hg (fun r e => (hr r e).2) h2 rfl).trans h2, (grownBy_keeps_cells hg (fun r e => (hr r e).2) h3 rfl).trans h3, ⟨own_same h4.1 (fun k cs t fr _ hc => (grownBy_keeps_cells hg (fun r e => (hr r e).2) hc rfl).trans hc), h4.2⟩, hk.grown hg (fun k e => .inr (by have := (hr k e).1; omega))⟩
    case box =>
      rintro pre A B ⟨h1, h2, h3, hk⟩ hkk
      exact ⟨h1, h2.kept hkk (by simp; omega), h3.kept hkk (by simp; omega), hk.trans' hkk (fun x hx => .inr (by simp at hx; omega))⟩
    case boxx =>
      rintro cc pre A B ⟨h0, x, h1, h2, h3, h4, hk⟩ hkk
      exact ⟨h0, x, h1, h2.kept hkk (by simp; omega), h3.kept hkk (by simp; omega), ⟨own_same h4.1 (fun k cs t fr hle hc => hkk.heap hc (by simp; omega)), h4.2⟩, hk.trans' hkk (fun x hx => .inr (by simp at hx; omega))⟩
    case ax =>
      rintro x a' W l ob ob' ⟨rfl, hok⟩ hl ho hc
      refine ⟨rfl, own_same hok.1 (fun k cs t fr _ hk => (World.putObj_heap_other ?_).trans hk), hok.2⟩
      intro e
      subst e
      rw [hk] at ho
      injection ho with ho
      subst ho
      cases hc
    case assign =>
      rintro l pre x W K h hok hlen hK
      gi_wp2
      exact hK _ _ (KeepsOthers.refl W) ⟨Nat.le_refl _, fun _ _ h _ => h⟩ h ⟨rfl, hok⟩
    case body =>
      rintro ll pre x a' W ⟨rfl, hok⟩ ⟨rfl, h2, h3, hk⟩ hlen
      obtain ⟨r, g, c⟩ := x
      dsimp only [rnV]
      have c4 := h2.cell 0
      have f4 := h2.frozen 0
      have c5 := h3.cell 0
      have f5 := h3.frozen 0
      gi_wp2
      have B4' := (h2.set_ 0 (.slice (some ⟨g, 0, none⟩) r.length c)).far (p := ⟨w.heap.size + 1, 0, none⟩) hne (.int .i64 0)
      have B5' := (h3.far (p := ⟨w.heap.size, 0, none⟩) hne2 (.slice (some ⟨g, 0, none⟩) r.length c)).set_ 0 (.int .i64 0)
      have hlt := hok.1.lt g rfl
      exact ⟨(KeepsOthers.setCell _ _ _).trans (KeepsOthers.setCell _ _ _), rfl, _, rfl, B4', B5', ⟨own_set (own_set hok.1 (fun k hk => by cases hk; simp; omega) _) (fun k hk => by cases hk; simp; omega) _, hok.2⟩, (hk.setCell (.inr (by simp)) _).setCell (.inr (by simp)) _⟩
    case done =>
      rintro D xs W hD hS ⟨rfl, h2, h3, hk⟩ hdef
      have c4 := h2.cell 0
      have f4 := h2.frozen 0
      have c5 := h3.cell 0
      have f5 := h3.frozen 0
      go_wp2_with fail
      have B4' := (h2.set_ 0 (.slice none 0 0)).far (p := ⟨w.heap.size + 1, 0, none⟩) hne (.int .i64 0)
      have B5' := (h3.far (p := ⟨w.heap.size, 0, none⟩) hne2 (.slice none 0 0)).set_ 0 (.int .i64 0)
      have hdef' := defer_set (defer_set hdef ⟨w.heap.size, 0, none⟩ (.slice none 0 0)) ⟨w.heap.size + 1, 0, none⟩ (.int .i64 0)
      refine ⟨by simp, .inl ⟨_, _, rfl, run_takeDeferred hdef', ?_⟩⟩
      have hl : l = [] := by
        by_cases h0 : l = []
        · exact h0
        · rw [runsR_cons most l h0] at hS
          cases hS
      exact ⟨_, results_first _ _ _ _ _ _ rfl rfl ((blk_defer hdef' _ B4').cell 0) ((blk_defer hdef' _ B5').cell 0), .inr (.inl ⟨hr, hl, rfl, ((hk.setCell (.inr (by simp)) _).setCell (.inr (by simp)) _).grown (grownBy_putObj' _ D _) (fun k e => .inr (by cases e; omega))⟩)⟩
    case stop =>
      rintro D cc pre W hD hsp ⟨rfl, x, rfl, h2, h3, h4, hk⟩ hdef
      gi_wp2
      refine ⟨by simp, .inl ⟨_, _, rfl, run_takeDeferred hdef, ?_⟩⟩
      have hne : l ≠ [] := by
        rintro rfl
        obtain ⟨t, ht⟩ := hsp
        simp [runsR, runsF] at ht
      have hxr : x.r = l.take (cutR most l) := by
        obtain ⟨t, ht⟩ := hsp
        rw [runsR_cons most l hne] at ht
        simp at ht
        exact ht.1
      exact ⟨_, results_first _ _ _ _ _ _ rfl rfl ((blk_defer hdef _ h2).cell 0) ((blk_defer hdef _ h3).cell 0), .inr (.inr ⟨hr, hne, x, rfl, hxr, ⟨own_down (own_same h4.1 (fun k cs t fr _ hc => (World.putObj_heap_other (fun e => by subst e; rw [hc] at hdef; cases hdef)).trans hc)) K3.size, h4.2⟩, hk.grown (grownBy_putObj' _ D _) (fun k e => .inr (by cases e; omega))⟩)⟩
  · have hr : rightR most l = false := by simpa using hr
    rw [hr]
    go_wp2_with fail
    have B4 := (b41.set_ 0 (.slice none 0 0)).far (p := ⟨w.heap.size + 1, 0, none⟩) hne (.int .i64 1)
    have B5 := (b51.far (p := ⟨w.heap.size, 0, none⟩) hne2 (.slice none 0 0)).set_ 0 (.int .i64 1)
    exact ⟨_, results_first _ _ _ _ _ _ rfl rfl (B4.cell 0) (B5.cell 0), .inl ⟨hr, rfl, (K2.setCell (.inr (by simp)) _).setCell (.inr (by simp)) _⟩⟩
end Go.Proofs.Ytgbicbeofgpinaa
