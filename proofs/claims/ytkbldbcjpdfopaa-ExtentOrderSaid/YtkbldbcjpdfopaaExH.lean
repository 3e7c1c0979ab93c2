/- Extents: Fit. -/
import Derived.Test.YtkbldbcjpdfopaaExG
namespace Go.Proofs.Ytkbldbcjpdfopaa
open Go.RowKit
attribute [local go_sem] Oper.semAt_some

/-- where there is room -/
noncomputable def fitX (r : Ex) (n : Int) (l : List Ex) : Ex × Int := if n < 1 ∨ rightB r l = false then (⟨0, 0⟩, 1) else match (gapsX r l).find? (fun x => decide (n ≤ x.len)) with | some x => (⟨x.st, n⟩, 0) | none => (⟨0, 0⟩, 111)
theorem defer_set {W : World} {D : Nat} {d : Option (List Deferred)} (h : W.heap[D]? = some (.deferred d)) (p : Addr) (u : Value) : (W.setCell p u).heap[D]? = some (.deferred d) := (KeepsOthers.setCell W p u).same _ _ h rfl
theorem blk_defer {W : World} {D : Nat} {d : Option (List Deferred)} (h : W.heap[D]? = some (.deferred d)) (o : Obj) {b t : Nat} {cs : Array Value} (hb : Blk W b t cs) : Blk (W.putObj D o) b t cs := putObj_cells h rfl hb
theorem own_none {n₀ : Nat} {w : World} : OwnOk (fun _ _ => False) n₀ w := ⟨fun _ _ h => h.elim, fun _ h => h.elim, fun _ _ _ _ _ h => h⟩
theorem results_fit (tmps : Array Value) (w : World) (b6 b7 : Nat) (u v z : Value) (hp : tmps[6]?.getD undef = .pointer (some ⟨b6, 0, none⟩)) (hq : tmps[7]?.getD undef = .pointer (some ⟨b7, 0, none⟩)) (h0 : Blk w b6 23 #[u, v]) (h1 : Blk w b7 26 #[z]) :
    (results Try.f9 tmps).run Try.prog w = .ok (.tuple #[.agg #[u, v], z]) w := by
  have c0 := h0.cell 0
  have c1 := h0.cell 1
  have c2 := h1.cell 0
  simp [results, hp, hq, asAddr, c0, c1, c2, go_sem]
def FitPost (r : Ex) (n : Int) (l : List Ex) (W : World) (e : Ending) (w' : World) : Prop := e = .returned (.tuple #[exV (fitX r n l).1, .int .i64 (fitX r n l).2]) ∧ Kept [] W w'
set_option maxRecDepth 4000 in
set_option maxHeartbeats 4000000 in
theorem fit_go (W : World) (n₀ : Nat) (r : Ex) (n : Int) (A : Option Addr) (c : Nat) (l : List Ex) (hn0 : n₀ ≤ W.heap.size) (hln : l.length ≤ 8796093022208) (hA : RdX n₀ W A l) (hl : ∀ x ∈ l, wfX x) (hn : ¬ n < 1) (hr : rightX r l) :
    Calls Try.prog 9 #[exV r, .int .i64 n, .slice A l.length c] W (FitPost r n l W) := by
  have hb : rightB r l = true := rightB_iff.2 hr
  have hsum := right_sum hr
  have h02 := inB_iff.1 hr.1.2
  have HG := Lib.hid (fun w => ext_gaps r A l.length c w)
  have HRi := Lib.hid (fun w (k : Kept [] W w) => ext_Right w n₀ r A c l (Nat.le_trans hn0 k.size) hln (hA.kept k hn0) hl)
  have HSq := Lib.hid (fun w (k : Kept [] W w) => gaps_of r A c n₀ l w hr (Nat.le_trans hn0 k.size) (hA.kept k hn0))
  clear hl hr
  obtain ⟨rs, rl⟩ := r
  unfold exV at HG HRi ⊢
  dsimp only at HG HRi HSq hsum h02 ⊢
  refine (callsIn_wide (n := 4)).1 ?_
  refine callsIn_of_wp_marks Try.func9 rfl trivial ?_ rfl
  refine wpIn_wide.2 ?_
  simp only [Try.ntmps9, List.size_toArray, List.length_cons, List.length_nil, Nat.reduceAdd, Nat.reduceSub, Array.replicate_succ, Array.replicate_zero, List.push_toArray, List.append_toArray, List.nil_append, List.cons_append]
  obtain ⟨W1, hW1⟩ : ∃ W1, W1 = (((W.alloc (.cells #[.int .i64 rs, .int .i64 rl] 23)).alloc (.cells #[.int .i64 n] 3)).alloc (.cells #[.int .i64 0, .int .i64 0] 23)).alloc (.cells #[.int .i64 0] 26) := ⟨_, rfl⟩
  have K1 : Kept [] W W1 := by rw [hW1]; exact ((((Kept.refl [] W).alloc _).alloc _).alloc _).alloc _
  have B3 : Blk W1 W.heap.size 23 #[.int .i64 rs, .int .i64 rl] := by rw [hW1]; exact (((Blk.new W _ _).alloc _).alloc _).alloc _
  have B4 : Blk W1 (W.heap.size + 1) 3 #[.int .i64 n] := by rw [hW1]; exact ((blk_new' (by simp)).alloc _).alloc _
  have B6 : Blk W1 (W.heap.size + 1 + 1) 23 #[.int .i64 0, .int .i64 0] := by rw [hW1]; exact (blk_new' (by simp)).alloc _
  have B7 : Blk W1 (W.heap.size + 1 + 1 + 1) 26 #[.int .i64 0] := by rw [hW1]; exact blk_new' (by simp)
  go_wp2_with fail
  rw [← hW1]
  clear hW1
  refine (HRi.out W1 K1).mono ?_
  rintro e w1 ⟨rfl, k1⟩
  rw [hb]
  have C3 := B3.kept k1 (fun h => by cases h)
  have C4 := B4.kept k1 (fun h => by cases h)
  have C6 := B6.kept k1 (fun h => by cases h)
  have C7 := B7.kept k1 (fun h => by cases h)
  have K2 := K1.trans k1
  clear B3 B4 B6 B7 K1 k1 HRi
  have c30 := C3.cell 0
  have c31 := C3.cell 1
  go_wp2_with fail
  refine (HG.out w1).mono ?_
  rintro e w2 ⟨rfl, rfl⟩
  clear c30 c31
  go_wp2_with fail
  have hne : ¬ W.heap.size + 1 + 1 = W.heap.size + 1 + 1 + 1 := by omega
  have hne2 : ¬ W.heap.size + 1 + 1 + 1 = W.heap.size + 1 + 1 := by omega
  have hz := K2.size
  have hz7 := C7.lt
  have hsq := HSq.out w1 K2
  have D4 := (C4.alloc (.cells #[.int .i64 rs, .int .i64 rl] 23)).alloc (.cells #[.slice A l.length c] 24)
  have D6 := (C6.alloc (.cells #[.int .i64 rs, .int .i64 rl] 23)).alloc (.cells #[.slice A l.length c] 24)
  have D7 := (C7.alloc (.cells #[.int .i64 rs, .int .i64 rl] 23)).alloc (.cells #[.slice A l.length c] 24)
  have K3 : Kept [] W ((w1.alloc (.cells #[.int .i64 rs, .int .i64 rl] 23)).alloc (.cells #[.slice A l.length c] 24)) := (K2.alloc _).alloc _
  have hzW : ((w1.alloc (.cells #[.int .i64 rs, .int .i64 rl] 23)).alloc (.cells #[.slice A l.length c] 24)).heap.size = w1.heap.size + 2 := by simp
  generalize (w1.alloc (.cells #[.int .i64 rs, .int .i64 rl] 23)).alloc (.cells #[.slice A l.length c] 24) = W2 at *
  refine (wpIn_wide (n := 4)).1 ?_
  refine range_told (F := Fence.wide) rfl (by decide) (gf := 24) (lb := #[.pointer (some ⟨w1.heap.size, 0, none⟩), .pointer (some ⟨w1.heap.size + 1, 0, none⟩)]) rfl trivial (enters_of Try.func24 (by kernel_rfl) rfl)
    (hsq W2 (fun _ _ => False) (Kept.refl _ _) own_none)
    (by intro b hb; cases hb) KpO.trans (fun V ll o o' hl h ho _ => ⟨by simp, fun b cs t fr hb _ => putObj_cells h ho hb, fun g hg => hg.elim⟩) (fun _ => rfl)
    (fun pre V => (∀ x ∈ pre, ¬ n ≤ x.len) ∧ Blk V (W.heap.size + 1) 3 #[.int .i64 n] ∧ Blk V (W.heap.size + 1 + 1) 23 #[.int .i64 0, .int .i64 0] ∧ Blk V (W.heap.size + 1 + 1 + 1) 26 #[.int .i64 0] ∧ Kept [] W V)
    (fun cc pre V => cc = .ret ∧ ∃ pre' x, pre = pre' ++ [x] ∧ (∀ x ∈ pre', ¬ n ≤ x.len) ∧ n ≤ x.len ∧ Blk V (W.heap.size + 1 + 1) 23 #[.int .i64 x.st, .int .i64 n] ∧ Blk V (W.heap.size + 1 + 1 + 1) 26 #[.int .i64 0] ∧ Kept [] W V) ?own ?ownx ?box ?boxx
    ⟨(fun _ h => by cases h), D4, D6, D7, K3⟩
    (fun x a' V => ∃ p, W.heap.size + 1 + 1 + 1 < p ∧ a' = { tmps := #[.agg #[.int .i64 rs, .int .i64 rl], .int .i64 n, .slice A l.length c, .pointer (some ⟨W.heap.size, 0, none⟩), .pointer (some ⟨W.heap.size + 1, 0, none⟩), undef, .pointer (some ⟨W.heap.size + 1 + 1, 0, none⟩), .pointer (some ⟨W.heap.size + 1 + 1 + 1, 0, none⟩), .pointer (some ⟨p, 0, none⟩), .int .i64 n, .bool false, .bool false, .agg #[.int .i64 rs, .int .i64 rl], .slice A l.length c, .bool true, .bool false, .bool false, undef, .agg #[.int .i64 rs, .int .i64 rl], .slice A l.length c, gapV w1.heap.size (w1.heap.size + 1), exV x, undef, undef, undef, undef, undef, undef, undef, undef, undef], defers := [] } ∧ Blk V p 23 #[.int .i64 x.st, .int .i64 x.len]) ?ax ?assign ?body ?done ?stop
  case own =>
    rintro pre B C row ⟨h0, h1, h2, h3, hk⟩ hg hr
    have kc : ∀ b t cs, Blk B b t cs → Blk C b t cs := fun b t cs h => (grownBy_keeps_cells hg (fun r e => (hr r e).2) h rfl).trans h
    exact ⟨h0, kc _ _ _ h1, kc _ _ _ h2, kc _ _ _ h3, hk.grown hg (fun k e => .inr (by have := (hr k e).1; omega))⟩
  case ownx =>
    rintro cc pre B C row ⟨hc, p', x, hp, h0, hx, h2, h3, hk⟩ hg hr
    have kc : ∀ b t cs, Blk B b t cs → Blk C b t cs := fun b t cs h => (grownBy_keeps_cells hg (fun r e => (hr r e).2) h rfl).trans h
    exact ⟨hc, p', x, hp, h0, hx, kc _ _ _ h2, kc _ _ _ h3, hk.grown hg (fun k e => .inr (by have := (hr k e).1; omega))⟩
  case box =>
    rintro pre B C ⟨h0, h1, h2, h3, hk⟩ hkk
    exact ⟨h0, h1.kept hkk (fun h => by cases h), h2.kept hkk (fun h => by cases h), h3.kept hkk (fun h => by cases h), hk.trans' hkk (fun x hx => .inl hx)⟩
  case boxx =>
    rintro cc pre B C ⟨hc, p', x, hp, h0, hx, h2, h3, hk⟩ hkk
    exact ⟨hc, p', x, hp, h0, hx, h2.kept hkk (fun h => by cases h), h3.kept hkk (fun h => by cases h), hk.trans' hkk (fun x hx => .inl hx)⟩
  case ax =>
    rintro x a' V ll ob ob' ⟨p, hp, rfl, hb⟩ hl ho hc
    exact ⟨p, hp, rfl, putObj_cells ho hc hb⟩
  case assign =>
    rintro ll pre x V K ⟨h0, h1, h2, h3, hk⟩ hok hlen hK
    obtain ⟨st, len⟩ := x
    dsimp only [exV]
    have hzV := h3.lt
    gi_wp2
    exact hK _ _ (KeepsOthers.alloc V _) ⟨by simp, fun b cs t fr hb _ => (heap_alloc_old V _ (Array.getElem?_eq_some_iff.1 hb).1).trans hb, fun g hg => hg.elim⟩ ⟨h0, h1.alloc _, h2.alloc _, h3.alloc _, hk.alloc _⟩ ⟨V.heap.size, hzV, rfl, Blk.new V _ _⟩
  case body =>
    rintro ll pre x a' V ⟨p, hp, rfl, hbp⟩ ⟨h0, h1, h2, h3, hk⟩ hlen
    obtain ⟨st, len⟩ := x
    have p0 := hbp.cell 0
    have p1 := hbp.cell 1
    have n0 := h1.cell 0
    have c60 := h2.cell 0
    have c61 := h2.cell 1
    have f60 := h2.frozen 0
    have f61 := h2.frozen 1
    have c70 := h3.cell 0
    have f70 := h3.frozen 0
    dsimp only at p0 p1
    by_cases hx : n ≤ len
    · gi_wp2
      have B6 := ((h2.set_ 0 (.int .i64 st)).set_ 1 (.int .i64 n)).far (p := ⟨W.heap.size + 1 + 1 + 1, 0, none⟩) hne (.int .i64 0)
      have B7 := ((h3.far (p := ⟨W.heap.size + 1 + 1, 0, none⟩) hne2 (.int .i64 st)).far (p := ⟨W.heap.size + 1 + 1, 1, none⟩) hne2 (.int .i64 n)).set_ 0 (.int .i64 0)
      exact ⟨((KeepsOthers.setCell _ _ _).trans (KeepsOthers.setCell _ _ _)).trans (KeepsOthers.setCell _ _ _), rfl, pre, ⟨st, len⟩, rfl, (fun y hy => by have := h0 y hy; omega), hx, B6, B7, ((hk.setCell (.inr (by dsimp only; omega)) _).setCell (.inr (by dsimp only; omega)) _).setCell (.inr (by dsimp only; omega)) _⟩
    · gi_wp2
      refine ⟨KeepsOthers.refl _, ⟨Nat.le_refl _, fun _ _ _ _ h _ => h, fun _ h => h.elim⟩, fun y hy => ?_, h1, h2, h3, hk⟩
      rcases List.mem_append.1 hy with hy | hy
      · exact h0 y hy
      · obtain rfl := List.mem_singleton.1 hy
        exact hx
  case done =>
    rintro D xs V hD hS ⟨h0, h1, h2, h3, hk⟩ hdef
    have c60 := h2.cell 0
    have c61 := h2.cell 1
    have f60 := h2.frozen 0
    have f61 := h2.frozen 1
    have c70 := h3.cell 0
    have f70 := h3.frozen 0
    go_wp2_with fail
    have B6 := ((h2.set_ 0 (.int .i64 0)).set_ 1 (.int .i64 0)).far (p := ⟨W.heap.size + 1 + 1 + 1, 0, none⟩) hne (.int .i64 111)
    have B7 := ((h3.far (p := ⟨W.heap.size + 1 + 1, 0, none⟩) hne2 (.int .i64 0)).far (p := ⟨W.heap.size + 1 + 1, 1, none⟩) hne2 (.int .i64 0)).set_ 0 (.int .i64 111)
    have hdef' := defer_set (defer_set (defer_set hdef ⟨W.heap.size + 1 + 1, 0, none⟩ (.int .i64 0)) ⟨W.heap.size + 1 + 1, 1, none⟩ (.int .i64 0)) ⟨W.heap.size + 1 + 1 + 1, 0, none⟩ (.int .i64 111)
    refine ⟨by simp, .inl ⟨_, _, rfl, run_takeDeferred hdef', ?_⟩⟩
    refine ⟨_, results_fit _ _ _ _ _ _ _ rfl rfl (blk_defer hdef' _ B6) (blk_defer hdef' _ B7), ?_, (((hk.setCell (.inr (by dsimp only; omega)) _).setCell (.inr (by dsimp only; omega)) _).setCell (.inr (by dsimp only; omega)) _).grown (grownBy_putObj' _ D _) (fun k e => .inr (by cases e; omega))⟩
    have hfit : fitX ⟨rs, rl⟩ n l = (⟨0, 0⟩, 111) := by
      unfold fitX
      rw [if_neg (by rw [hb]; simp; omega), ← hS, List.find?_eq_none.2 (fun y hy => by simpa using h0 y hy)]
    rw [hfit]
    rfl
  case stop =>
    rintro D cc pre V hD hsp ⟨rfl, p', x, rfl, h0, hx, h2, h3, hk⟩ hdef
    gi_wp2
    refine ⟨by simp, .inl ⟨_, _, rfl, run_takeDeferred hdef, ?_⟩⟩
    refine ⟨_, results_fit _ _ _ _ _ _ _ rfl rfl (blk_defer hdef _ h2) (blk_defer hdef _ h3), ?_, hk.grown (grownBy_putObj' _ D _) (fun k e => .inr (by cases e; omega))⟩
    have hfit : fitX ⟨rs, rl⟩ n l = (⟨x.st, n⟩, 0) := by
      unfold fitX
      rw [if_neg (by rw [hb]; simp; omega)]
      obtain ⟨t, ht⟩ := hsp
      rw [← ht, List.append_assoc, List.find?_append, List.find?_eq_none.2 (fun y hy => by simpa using h0 y hy)]
      simp [hx]
    rw [hfit]
    rfl
end Go.Proofs.Ytkbldbcjpdfopaa
