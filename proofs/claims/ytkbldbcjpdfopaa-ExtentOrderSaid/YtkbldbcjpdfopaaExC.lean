/- Extents: all that an iterator hands out, laid behind one another. -/
import Derived.Test.YtkbldbcjpdfopaaExB
import Derived.Lib.BufferMore
import Derived.Shelf.Abstract
import Derived.Maps.OwnIn
namespace Go.Proofs.Ytkbldbcjpdfopaa
open Go.RowKit
attribute [local go_sem] Oper.semAt_some

theorem own_same {W W' : World} {base e size n : Nat} {v : Value} {xs : List Value} (h : W.ownsRow base e size v n xs) (hk : ∀ k cs t fr, base ≤ k → W.heap[k]? = some (.cells cs t fr) → W'.heap[k]? = some (.cells cs t fr)) : W'.ownsRow base e size v n xs := by
  refine ⟨h.1, ?_⟩
  rcases h.2 with h2 | ⟨g, cap, cur, e, hb, hh, h3⟩
  · exact .inl h2
  · exact .inr ⟨g, cap, cur, e, hb, hk _ _ _ _ hb hh, h3⟩
theorem own_cells {W : World} {base e size n : Nat} {v : Value} {xs : List Value} (h : W.ownsRow base e size v n xs) {j : Nat} {ob : Obj} (hj : v.ownBlock = some j) (hh : W.heap[j]? = some ob) : ob.isCells = true := by
  rcases h.2 with ⟨rfl, _⟩ | ⟨g, cap, cur, rfl, _, hc, _⟩
  · cases hj
  · injection hj with hj
    subst hj
    rw [hc] at hh
    injection hh with hh
    subst hh
    rfl
theorem blk_new' {w : World} {t : TypeId} {cs : Array Value} {g : Nat} (h : g = w.heap.size) : Blk (w.alloc (.cells cs t)) g t cs := by
  subst h
  exact Blk.new w t cs
theorem own_down {w : World} {base base' e size n : Nat} {v : Value} {xs : List Value} (h : w.ownsRow base e size v n xs) (hb : base' ≤ base) : w.ownsRow base' e size v n xs := by
  refine ⟨h.1, ?_⟩
  rcases h.2 with h2 | ⟨g, cap, cur, e, h2, h3⟩
  · exact .inl h2
  · exact .inr ⟨g, cap, cur, e, Nat.le_trans hb h2, h3⟩
/-- what has been laid so far -/
def Laid (B : Nat) (pre : List Ex) (W : World) : Prop := ∃ v, Blk W B 24 #[v] ∧ W.ownsRow B 23 2 v pre.length (pre.flatMap exE)
theorem Laid.same {B : Nat} {pre : List Ex} {W W' : World} (h : Laid B pre W) (hk : ∀ k cs t fr, B ≤ k → W.heap[k]? = some (.cells cs t fr) → W'.heap[k]? = some (.cells cs t fr)) : Laid B pre W' := by
  obtain ⟨v, hb, ho⟩ := h
  exact ⟨v, hk _ _ _ _ (Nat.le_refl _) hb, own_same ho hk⟩
theorem putObj_cells {W : World} {l : Nat} {ob ob' : Obj} (ho : W.heap[l]? = some ob) (hc : ob.isCells = false) {k : Nat} {cs : Array Value} {t : TypeId} {fr : Nat × Nat} (hk : W.heap[k]? = some (.cells cs t fr)) : (W.putObj l ob').heap[k]? = some (.cells cs t fr) := by
  refine (World.putObj_heap_other ?_).trans hk
  rintro rfl
  rw [hk] at ho
  injection ho with ho
  subst ho
  cases hc
/-- the iterator's contract in a world, and in all that come behind it -/
def SeqX (gf : Nat) (lb : Array Value) (n₀ : Nat) (S Sp : List Ex → Prop) (N : Nat) (w : World) : Prop := ∀ W own, Kept [] w W → OwnOk own n₀ W → SeqO Fence.wide 3 Try.prog gf lb (fun x : Ex => #[exV x]) (fun _ _ => True) [] (KpO own) S Sp N W
/-- what a collector owns: its box, and the row that it points to -/
def ownB (B : Nat) (W : World) (g : Nat) : Prop := B ≤ g ∧ (g = B ∨ ∃ v, W.cell? ⟨B, 0, none⟩ = some v ∧ v.ownBlock = some g)
theorem ownB_same {B : Nat} {W W' : World} {g : Nat} (h : W'.heap[B]? = W.heap[B]?) (hg : ownB B W' g) : ownB B W g := by
  rcases hg with ⟨h1, h2 | ⟨v, h2, h3⟩⟩
  · exact ⟨h1, .inl h2⟩
  · exact ⟨h1, .inr ⟨v, (cell_heap (a := ⟨B, 0, none⟩) h).symm.trans h2, h3⟩⟩
theorem ownB_ok {n₀ : Nat} {w W : World} (hn0 : n₀ ≤ w.heap.size) (h : W = w.alloc (.cells #[.slice none 0 0] 24)) : OwnOk (ownB w.heap.size) n₀ W := by
  have hs : W.heap.size = w.heap.size + 1 := by rw [h]; simp
  refine ⟨fun W g hg => Nat.le_trans hn0 hg.1, fun g hg => ?_, fun V V' hV k g hg => ownB_same ?_ hg⟩
  · rcases hg with ⟨h1, h2 | ⟨v, h2, h3⟩⟩
    · omega
    · have h4 := Blk.cell (Blk.new w 24 #[.slice none 0 0]) 0
      rw [← h, h2] at h4
      injection h4 with h4
      subst h4
      cases h3
  · have hl : w.heap.size < V.heap.size := by omega
    have h5 : V.heap[w.heap.size]? = some V.heap[w.heap.size] := Array.getElem?_eq_getElem hl
    exact (k.heap h5 (fun h => by cases h)).trans h5.symm
set_option maxRecDepth 4000 in
set_option maxHeartbeats 4000000 in
theorem append_seq (gf : Nat) (lb : Array Value) (n₀ : Nat) (S Sp : List Ex → Prop) (N : Nat) (w : World) (hn0 : n₀ ≤ w.heap.size) (hN : N ≤ 8796093022208) (eg : ∀ args w, (callFunc gf args).run Try.prog w = .ok (.enter gf args) w) (hseq : SeqX gf lb n₀ S Sp N w) :
    Calls Try.prog 23 #[.slice none 0 0, .func (.func gf) #[] lb] w fun e w' => ∃ (v : Value) (xs : List Ex), e = .returned v ∧ S xs ∧ w'.ownsRow w.heap.size 23 2 v xs.length (xs.flatMap exE) ∧ Kept [] w w' := by
  refine (callsIn_wide (n := 4)).1 ?_
  refine callsIn_of_wp_marks Try.func23 rfl trivial ?_ rfl
  refine wpIn_wide.2 ?_
  simp only [Try.ntmps23, List.size_toArray, List.length_cons, List.length_nil, Nat.reduceAdd, Nat.reduceSub, Array.replicate_succ, Array.replicate_zero, List.push_toArray, List.append_toArray, List.nil_append, List.cons_append]
  go_wp2_with fail
  have B0 := Blk.new w 24 #[.slice none 0 0]
  have K1 : Kept [] w (w.alloc (.cells #[.slice none 0 0] 24)) := (Kept.refl [] w).alloc _
  have hsz : (w.alloc (.cells #[.slice none 0 0] 24)).heap.size = w.heap.size + 1 := by simp
  have hOwn := ownB_ok (n₀ := n₀) (w := w) hn0 rfl
  obtain ⟨i0, hi0, hz0, hz1, hz2⟩ := info_parts infoX
  generalize w.alloc (.cells #[.slice none 0 0] 24) = W0 at *
  refine (wpIn_wide (n := 4)).1 ?_
  refine range_told (F := Fence.wide) rfl (by decide) (gf := gf) (lb := lb) rfl trivial eg
    (hseq W0 _ K1 hOwn)
    (by intro b hb; cases hb) KpO.trans (fun W l o o' hl h ho _ => ⟨by simp, fun b cs t fr hb _ => putObj_cells h ho hb, fun g hg => .inl (ownB_same (World.putObj_heap_other (by omega)) hg)⟩) (fun _ => rfl)
    (fun pre W => Laid w.heap.size pre W ∧ Kept [] w W)
    (fun _ _ _ => False) ?own (fun _ _ _ _ _ h _ _ => h.elim) ?box (fun _ _ _ _ h _ => h.elim)
    ⟨⟨_, B0, World.ownsRow_nil _ _ _ _⟩, K1⟩
    (fun x a' W => ∃ p, w.heap.size < p ∧ a' = { tmps := #[Value.slice none 0 0, .func (.func gf) #[] lb, .pointer (some ⟨w.heap.size, 0, none⟩), undef, .slice none 0 0, .pointer (some ⟨p, 0, none⟩), .func (.func gf) #[] lb, exV x, undef, undef, undef, undef, undef], defers := [] } ∧ Blk W p 23 #[.int .i64 x.st, .int .i64 x.len]) ?ax ?assign ?body ?done ?stop
  case own =>
    rintro pre A B row ⟨h, hk⟩ hg hr
    exact ⟨h.same (fun k cs t fr _ hc => (grownBy_keeps_cells hg (fun r e => (hr r e).2) hc rfl).trans hc), hk.grown hg (fun k e => .inr (by have := (hr k e).1; omega))⟩
  case box =>
    rintro pre A B ⟨h, hk⟩ hkk
    exact ⟨h.same (fun k cs t fr hle hc => hkk.heap hc (fun h => by cases h)), hk.trans' hkk (fun x hx => .inl hx)⟩
  case ax =>
    rintro x a' W l ob ob' ⟨p, hp, rfl, hb⟩ hl ho hc
    exact ⟨p, hp, rfl, putObj_cells ho hc hb⟩
  case assign =>
    rintro l pre x W K ⟨h, hk⟩ hok hlen hK
    obtain ⟨st, len⟩ := x
    dsimp only [exV]
    have hz : w.heap.size < W.heap.size := by
      obtain ⟨v, hb, _⟩ := h
      exact hb.lt
    gi_wp2
    refine hK _ _ (KeepsOthers.alloc W _) ⟨by simp, fun b cs t fr hb _ => (heap_alloc_old W _ (Array.getElem?_eq_some_iff.1 hb).1).trans hb, fun g hg => .inl (ownB_same (heap_alloc_old W _ hz) hg)⟩ ⟨h.same (fun k cs t fr _ hc => (heap_alloc_old W _ (Array.getElem?_eq_some_iff.1 hc).1).trans hc), hk.alloc _⟩ ⟨W.heap.size, hz, rfl, Blk.new W _ _⟩
  case body =>
    rintro ll pre x a' W ⟨p, hp, rfl, hbp⟩ ⟨⟨v, hb, ho⟩, hk⟩ hlen
    obtain ⟨A', c', rfl, _⟩ := own_slice ho
    obtain ⟨st, len⟩ := x
    have c8 := hb.cell 0
    have f8 := hb.frozen 0
    have p0 := hbp.cell 0
    have p1 := hbp.cell 1
    dsimp only at p0 p1
    have hszW : w.heap.size + 1 ≤ W.heap.size := by have := hb.lt; omega
    have HO := Lib.hid (ho.alloc (.cells #[.int .i64 st, .int .i64 len] 23))
    gi_wp2_with (gi_at_builtin; refine wpListIn_append_own_at _ rfl (.tmp 8) (.tmp 10) _ rfl w.heap.size 23 i0 _ 2 16 Try.underlying24 hi0 hz0 hz1 hz2 rfl (by decide) (.slice A' pre.length c') pre.length (pre.flatMap exE) rfl HO.out ⟨W.heap.size, 0, none⟩ 1 1 (exE ⟨st, len⟩) rfl rfl (fun j u hu => World.news_of_block (Blk.new W 23 #[.int .i64 st, .int .i64 len]) j u hu) (fun u hu => exE_one [⟨st, len⟩] u (by simpa using hu)) (by simp only [maxLen]; omega) (by omega) (by simp; omega) ?_; intro v' w5 hown5 hgrow5 _ hat5; obtain ⟨g', cap', rfl⟩ := ownsRow_succ hown5; have K5 : Kept (Value.slice A' pre.length c').ownBlock.toList W w5 := ((Kept.refl (Value.slice A' pre.length c').ownBlock.toList W).alloc _).grown hgrow5 (fun k e => .inl (by simp [e])); have b5 := hb.kept K5 (fun hm => own_ne ho hb (by decide) _ (by simpa using hm) rfl); have c5 := b5.cell 0; have f5 := b5.frozen 0; have hown5' := Lib.hid hown5; clear hown5)
    have KK : Kept (w.heap.size :: (Value.slice A' pre.length c').ownBlock.toList) W (w5.setCell ⟨w.heap.size, 0, none⟩ (.slice (some ⟨g', 0, none⟩) (pre.length + 1) cap')) := (K5.mono fun _ h => by simp [h]).setCell (.inl (by simp)) _
    have hv : ∀ k, k ∈ (Value.slice A' pre.length c').ownBlock.toList → w.heap.size ≤ k := fun k hk => (ho.lt k (by simpa using hk)).1
    have hnB : ∀ k, (Value.slice (some ⟨g', 0, none⟩) (pre.length + 1) cap').ownBlock = some k → k ≠ w.heap.size := own_ne hown5'.out b5 (by decide)
    refine ⟨(KeepsOthers.alloc W _).trans ((KeepsOthers.of_grownBy hgrow5 ?_).trans (KeepsOthers.setCell _ _ _)), ⟨KK.size, fun b cs t fr hbo hx => KK.heap hbo ?_, ?_⟩, ⟨_, b5.set_ 0 _, ?_⟩, ?_⟩
    · exact fun j ob e hh => own_cells HO.out e hh
    · intro hm
      refine hx ?_
      rcases List.mem_cons.1 hm with rfl | hm
      · exact ⟨Nat.le_refl _, .inl rfl⟩
      · exact ⟨hv _ hm, .inr ⟨_, c8, by simpa using hm⟩⟩
    · rintro g ⟨hg1, hg2 | ⟨v2, hg2, hg3⟩⟩
      · exact .inl ⟨hg1, .inl hg2⟩
      · have h9 : (w5.setCell ⟨w.heap.size, 0, none⟩ (.slice (some ⟨g', 0, none⟩) (pre.length + 1) cap')).cell? ⟨w.heap.size, 0, none⟩ = some (.slice (some ⟨g', 0, none⟩) (pre.length + 1) cap') := (b5.set_ 0 (.slice (some ⟨g', 0, none⟩) (pre.length + 1) cap')).cell 0
        have h9b := hg2.symm.trans h9
        injection h9b with h9b
        have h9c : (Value.slice (some ⟨g', 0, none⟩) (pre.length + 1) cap').ownBlock = some g := h9b ▸ hg3
        rcases hat5 with h10 | h10
        · exact .inl ⟨hg1, .inr ⟨_, c8, h10.symm.trans h9c⟩⟩
        · have h11 := h10.symm.trans h9c
          injection h11 with h11
          refine .inr ⟨?_, by simpa using (hown5'.out.lt g h9c).2⟩
          rw [← h11]
          simp
    · rw [List.length_append, List.flatMap_append]
      exact own_set hown5'.out hnB _
    · exact hk.trans' KK (fun z hz => .inr (by
        rcases List.mem_cons.1 hz with rfl | hm
        · exact Nat.le_refl _
        · exact hv _ hm))
  case done =>
    rintro D xs W hD hS ⟨⟨v, hb, ho⟩, hk⟩ hdef
    have c8 := hb.cell 0
    go_wp2_with fail
    refine ⟨by simp, .inl ⟨_, _, rfl, run_takeDeferred hdef, ?_⟩⟩
    refine ⟨_, results_tmp rfl _ _ _, v, xs, rfl, hS, own_same ho ?_, hk.grown (grownBy_putObj' W D _) (fun k e => .inr (by cases e; omega))⟩
    intro k cs t fr _ hkk
    exact putObj_cells hdef rfl hkk
  case stop =>
    rintro D cc pre W _ _ h _
    exact h.elim
theorem collect_seq (gf : Nat) (lb : Array Value) (n₀ : Nat) (S Sp : List Ex → Prop) (N : Nat) (w : World) (hn0 : n₀ ≤ w.heap.size) (hN : N ≤ 8796093022208) (eg : ∀ args w, (callFunc gf args).run Try.prog w = .ok (.enter gf args) w) (hseq : SeqX gf lb n₀ S Sp N w) :
    Calls Try.prog 16 #[.func (.func gf) #[] lb] w fun e w' => ∃ (v : Value) (xs : List Ex), e = .returned v ∧ S xs ∧ w'.ownsRow w.heap.size 23 2 v xs.length (xs.flatMap exE) ∧ Kept [] w w' := by
  have H := append_seq gf lb n₀ S Sp N w hn0 hN eg hseq
  clear hseq
  go_enter Try.func16, Try.ntmps16
  go_wp2_with (go_at_call 23; refine H.mono ?_; rintro e w' ⟨v, xs, rfl, h1, h2, h3⟩)
  go_ret
  exact ⟨v, xs, rfl, h1, h2, h3⟩
end Go.Proofs.Ytkbldbcjpdfopaa
