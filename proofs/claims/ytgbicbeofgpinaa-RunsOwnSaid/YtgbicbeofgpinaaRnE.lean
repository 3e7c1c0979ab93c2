/- Exceptions in runs: all of them, as the program lays them behind one another. -/
import Derived.Test.YtgbicbeofgpinaaRnD
import Derived.Test.YtgbicbeofgpinaaRnU
import Derived.Shelf.Abstract
namespace Go.Proofs.Ytgbicbeofgpinaa
open Go.RowKit
attribute [local go_sem] Oper.semAt_some

def seqV (bl bm : Nat) : Value := .func (.func 18) #[] #[.pointer (some ⟨bl, 0, none⟩), .pointer (some ⟨bm, 0, none⟩)]
theorem runs_all (most : Int) (A : Option Addr) (n c : Nat) (w : World) : Calls Try.prog 15 #[.int .i64 most, .slice A n c] w fun e w' =>
    e = .returned (seqV (w.heap.size + 1) w.heap.size) ∧ w' = (w.alloc (.cells #[.int .i64 most] 3)).alloc (.cells #[.slice A n c] 22) := by
  go_enter Try.func15, Try.ntmps15
  go_wp2_with fail
  go_ret
  exact ⟨rfl, rfl⟩
theorem infoEs : (Try.prog.info? 22).map (fun i => (i.zero, i.size, i.bytes)) = some (some (.slice none 0 0), 1, 24) := by kernel_rfl
/-- what has been laid so far -/
def Laid (n₁ B : Nat) (pre : List Rn) (W : World) : Prop := ∃ v, Blk W B 24 #[v] ∧ W.ownsRow n₁ 22 1 v pre.length (pre.map rnV) ∧ ∀ x ∈ pre, RnOk n₁ x W
theorem own_same {W W' : World} {base e size n : Nat} {v : Value} {xs : List Value} (h : W.ownsRow base e size v n xs) (hk : ∀ k cs t fr, base ≤ k → W.heap[k]? = some (.cells cs t fr) → W'.heap[k]? = some (.cells cs t fr)) : W'.ownsRow base e size v n xs := by
  refine ⟨h.1, ?_⟩
  rcases h.2 with h2 | ⟨g, cap, cur, e, hb, hh, h3⟩
  · exact .inl h2
  · exact .inr ⟨g, cap, cur, e, hb, hk _ _ _ _ hb hh, h3⟩
theorem Laid.same {n₁ B : Nat} {pre : List Rn} {W W' : World} (h : Laid n₁ B pre W) (hk : ∀ k cs t fr, n₁ ≤ k → W.heap[k]? = some (.cells cs t fr) → W'.heap[k]? = some (.cells cs t fr)) (hB : n₁ ≤ B) : Laid n₁ B pre W' := by
  obtain ⟨v, hb, ho, hx⟩ := h
  exact ⟨v, hk _ _ _ _ hB hb, own_same ho hk, fun x hx2 => ⟨own_same (hx x hx2).1 hk, (hx x hx2).2⟩⟩
theorem own_cells {W : World} {base e size n : Nat} {v : Value} {xs : List Value} (h : W.ownsRow base e size v n xs) {j : Nat} {ob : Obj} (hj : v.ownBlock = some j) (hh : W.heap[j]? = some ob) : ob.isCells = true := by
  rcases h.2 with ⟨rfl, _⟩ | ⟨g, cap, cur, rfl, _, hc, _⟩
  · cases hj
  · injection hj with hj
    subst hj
    rw [hc] at hh
    injection hh with hh
    subst hh
    rfl
theorem rnV_one (x : Rn) : (rnV x).oneCell' = true := rfl
set_option maxRecDepth 4000 in
set_option maxHeartbeats 4000000 in
theorem append_seq (most : Int) (l : List En) (A0 : Option Addr) (c0 bl bm n₀ : Nat) (w : World) (hm : 1 ≤ most) (hmb : most ≤ 9223372036854775807) (hln : l.length ≤ 8796093022208) (hup : upR l) (hlm : bl ≠ bm) (hn0 : n₀ ≤ w.heap.size) (hlb : n₀ ≤ bl) (hmb2 : n₀ ≤ bm)
    (hL : Blk w bl 22 #[.slice A0 l.length c0]) (hM : Blk w bm 3 #[.int .i64 most]) (hA : Rd w n₀ 2 A0 l.length (l.flatMap enE)) (hc0 : l.length ≤ c0) :
    Calls Try.prog 17 #[.slice none 0 0, seqV bl bm] w fun e w' => ∃ (v : Value) (xs : List Rn), e = .returned v ∧ xs.map (·.r) = runsR most l ∧ w'.ownsRow w.heap.size 22 1 v xs.length (xs.map rnV) ∧ (∀ x ∈ xs, RnOk w.heap.size x w') ∧ Kept [bl, bm] w w' := by
  refine (callsIn_wide (n := 4)).1 ?_
  refine callsIn_of_wp_marks Try.func17 rfl trivial ?_ rfl
  refine wpIn_wide.2 ?_
  simp only [Try.ntmps17, List.size_toArray, List.length_cons, List.length_nil, Nat.reduceAdd, Nat.reduceSub, Array.replicate_succ, Array.replicate_zero, List.push_toArray, List.append_toArray, List.nil_append, List.cons_append]
  go_wp2_with fail
  have B0 := Blk.new w 24 #[.slice none 0 0]
  have hL1 := hL.alloc (.cells #[.slice none 0 0] 24)
  have hM1 := hM.alloc (.cells #[.slice none 0 0] 24)
  have K1 : Kept [] w (w.alloc (.cells #[.slice none 0 0] 24)) := (Kept.refl [] w).alloc _
  have hA1 := hA.kept K1 hn0 (fun _ h => by cases h)
  have hbl := hL.lt
  have hbm := hM.lt
  have hsz : (w.alloc (.cells #[.slice none 0 0] 24)).heap.size = w.heap.size + 1 := by simp
  obtain ⟨i0, hi0, hz0, hz1, hz2⟩ := info_parts infoEs
  generalize w.alloc (.cells #[.slice none 0 0] 24) = W0 at *
  refine (wpIn_wide (n := 4)).1 ?_
  refine range_told (F := Fence.wide) rfl (by decide) (gf := 18) (lb := #[.pointer (some ⟨bl, 0, none⟩), .pointer (some ⟨bm, 0, none⟩)]) rfl trivial (enters_of Try.func18 (by kernel_rfl) rfl)
    (all_seq most l A0 c0 3 bl bm n₀ w.heap.size W0 hm hmb hln hup hlm (by omega) (by omega) hlb hmb2 hL1 hM1 hA1 hc0 (by decide))
    (by intro b hb; simp at hb; omega) KpB.trans (fun W l o o' hl h ho _ => ⟨by simp, fun b ob hb hx => (World.putObj_heap_other (by rcases hx with hx | hx; omega; simp at hx; omega)).trans hb⟩) (fun _ => rfl)
    (fun pre W => Laid w.heap.size w.heap.size pre W ∧ Kept [bl, bm] w W)
    (fun _ _ _ => False) ?own (fun _ _ _ _ _ h _ _ => h.elim) ?box (fun _ _ _ _ h _ => h.elim)
    ⟨⟨_, B0, World.ownsRow_nil _ _ _ _, fun _ h => by cases h⟩, K1.mono fun _ h => by cases h⟩
    (fun x a' W => a' = { tmps := #[Value.slice none 0 0, seqV bl bm, .pointer (some ⟨w.heap.size, 0, none⟩), undef, .slice none 0 0, rnV x, seqV bl bm, rnV x, undef, undef, undef, undef, undef], defers := [] } ∧ RnOk w.heap.size x W) ?ax ?assign ?body ?done ?stop
  case own =>
    rintro pre A B row ⟨h, hk⟩ hg hr
    exact ⟨h.same (fun k cs t fr _ hc => (grownBy_keeps_cells hg (fun r e => (hr r e).2) hc rfl).trans hc) (Nat.le_refl _), hk.grown hg (fun k e => .inr (by have := (hr k e).1; omega))⟩
  case box =>
    rintro pre A B ⟨h, hk⟩ hkk
    exact ⟨h.same (fun k cs t fr hle hc => hkk.heap hc (by simp; omega)) (Nat.le_refl _), hk.trans' hkk (fun x hx => .inl hx)⟩
  case ax =>
    rintro x a' W l ob ob' ⟨rfl, hok⟩ hl ho hc
    refine ⟨rfl, own_same hok.1 (fun k cs t fr _ hk => (World.putObj_heap_other ?_).trans hk), hok.2⟩
    intro e
    subst e
    rw [hk] at ho
    injection ho with ho
    subst ho
    cases hc
  case assign =>
    rintro l pre x W K ⟨h, hk⟩ hok hlen hK
    gi_wp2
    exact hK _ _ (KeepsOthers.refl W) ⟨Nat.le_refl _, fun _ _ h _ => h⟩ ⟨h, hk⟩ ⟨rfl, hok⟩
  case body =>
    rintro ll pre x a' W ⟨rfl, hok⟩ ⟨⟨v, hb, ho, hx⟩, hk⟩ hlen
    obtain ⟨A', c', rfl, _⟩ := own_slice ho
    obtain ⟨r, g, c⟩ := x
    dsimp only [rnV]
    have c8 := hb.cell 0
    have f8 := hb.frozen 0
    have hszW : w.heap.size + 1 ≤ W.heap.size := by have := hb.lt; omega
    have HO := Lib.hid (ho.alloc (.cells #[.slice (some ⟨g, 0, none⟩) r.length c] 22))
    have B8 := hb.alloc (.cells #[.slice (some ⟨g, 0, none⟩) r.length c] 22)
    gi_wp2_with (gi_at_builtin; refine wpListIn_append_big _ rfl (.tmp 8) (.tmp 10) _ rfl w.heap.size 22 i0 _ 24 Try.underlying24 hi0 hz0 hz1 hz2 rfl (.slice A' pre.length c') pre.length (pre.map rnV) rfl HO.out ⟨W.heap.size, 0, none⟩ 1 (.slice (some ⟨g, 0, none⟩) r.length c) rfl (Blk.cell (Blk.new W _ _) 0) rfl (by simp only [maxLen]; omega) (by omega) (by omega) (by simp; omega) ?_; intro v' w5 hown5 hgrow5; obtain ⟨g', cap', rfl⟩ := ownsRow_succ hown5; have K5 : Kept (Value.slice A' pre.length c').ownBlock.toList W w5 := ((Kept.refl (Value.slice A' pre.length c').ownBlock.toList W).alloc _).grown hgrow5 (fun k e => .inl (by simp [e])); have b5 := hb.kept K5 (fun hm => own_ne ho hb (by decide) _ (by simpa using hm) rfl); have c5 := b5.cell 0; have f5 := b5.frozen 0; have hown5' := Lib.hid hown5; clear hown5)
    have KK : Kept (w.heap.size :: (Value.slice A' pre.length c').ownBlock.toList) W (w5.setCell ⟨w.heap.size, 0, none⟩ (.slice (some ⟨g', 0, none⟩) (pre.length + 1) cap')) := (K5.mono fun _ h => by simp [h]).setCell (.inl (by simp)) _
    have hv : ∀ k, k ∈ (Value.slice A' pre.length c').ownBlock.toList → w.heap.size ≤ k := fun k hk => (ho.lt k (by simpa using hk)).1
    have hnB : ∀ k, (Value.slice (some ⟨g', 0, none⟩) (pre.length + 1) cap').ownBlock = some k → k ≠ w.heap.size := own_ne hown5'.out b5 (by decide)
    refine ⟨(KeepsOthers.alloc W _).trans ((KeepsOthers.of_grownBy hgrow5 ?_).trans (KeepsOthers.setCell _ _ _)), ⟨KK.size, fun b ob hbo hx => KK.heap hbo ?_⟩, ⟨_, b5.set_ 0 _, ?_, ?_⟩, ?_⟩
    · exact fun j ob e hh => own_cells HO.out e hh
    · intro hm
      rcases List.mem_cons.1 hm with rfl | hm
      · rcases hx with hx | hx
        · omega
        · simp at hx; omega
      · have := hv _ hm
        rcases hx with hx | hx
        · omega
        · simp at hx; omega
    · rw [List.length_append, List.map_append]
      exact own_set hown5'.out hnB _
    · intro y hy
      have hy2 : RnOk w.heap.size y W := by
        rcases List.mem_append.1 hy with hy | hy
        · exact hx y hy
        · simp at hy
          rw [hy]
          exact hok
      refine ⟨Kept.owns KK hy2.1 ?_, hy2.2⟩
      intro k hk hm
      rcases List.mem_cons.1 hm with rfl | hm
      · exact own_ne hy2.1 hb (by decide) _ hk rfl
      · exact own_own_ne hy2.1 ho (by decide) _ hk (by simpa using hm)
    · exact hk.trans' KK (fun z hz => .inr (by
        rcases List.mem_cons.1 hz with rfl | hm
        · exact Nat.le_refl _
        · exact hv _ hm))
  case done =>
    rintro D xs W hD hS ⟨⟨v, hb, ho, hx⟩, hk⟩ hdef
    have c8 := hb.cell 0
    go_wp2_with fail
    refine ⟨by simp, .inl ⟨_, _, rfl, run_takeDeferred hdef, ?_⟩⟩
    refine ⟨_, results_tmp rfl _ _ _, v, xs, rfl, hS, own_same ho ?_, fun x hx2 => ⟨own_same (hx x hx2).1 ?_, (hx x hx2).2⟩, hk.grown (grownBy_putObj' W D _) (fun k e => .inr (by cases e; omega))⟩
    all_goals
      intro k cs t fr _ hkk
      refine (World.putObj_heap_other ?_).trans hkk
      intro e
      subst e
      rw [hkk] at hdef
      cases hdef
  case stop =>
    rintro D cc pre W _ _ h _
    exact h.elim
theorem collect_seq (most : Int) (l : List En) (A0 : Option Addr) (c0 bl bm n₀ : Nat) (w : World) (hm : 1 ≤ most) (hmb : most ≤ 9223372036854775807) (hln : l.length ≤ 8796093022208) (hup : upR l) (hlm : bl ≠ bm) (hn0 : n₀ ≤ w.heap.size) (hlb : n₀ ≤ bl) (hmb2 : n₀ ≤ bm)
    (hL : Blk w bl 22 #[.slice A0 l.length c0]) (hM : Blk w bm 3 #[.int .i64 most]) (hA : Rd w n₀ 2 A0 l.length (l.flatMap enE)) (hc0 : l.length ≤ c0) :
    Calls Try.prog 14 #[seqV bl bm] w fun e w' => ∃ (v : Value) (xs : List Rn), e = .returned v ∧ xs.map (·.r) = runsR most l ∧ w'.ownsRow w.heap.size 22 1 v xs.length (xs.map rnV) ∧ (∀ x ∈ xs, RnOk w.heap.size x w') ∧ Kept [bl, bm] w w' := by
  have H := append_seq most l A0 c0 bl bm n₀ w hm hmb hln hup hlm hn0 hlb hmb2 hL hM hA hc0
  go_enter Try.func14, Try.ntmps14
  go_wp2_with (go_at_call 17; refine H.mono ?_; rintro e w' ⟨v, xs, rfl, h1, h2, h3, h4⟩)
  go_ret
  exact ⟨v, xs, rfl, h1, h2, h3, h4⟩
theorem rise_up : ∀ (last : Int) (l : List En), riseB last l = true → -1 ≤ last → (∀ k, (h : k + 1 < l.length) → l[k].org < l[k + 1].org) ∧ ∀ x ∈ l, -1 ≤ x.org
  | _, [], _, _ => ⟨fun k h => by simp at h, fun x h => by cases h⟩
  | last, x :: t, h, hl => by
    simp only [riseB, Bool.and_eq_true, decide_eq_true_eq] at h
    obtain ⟨h1, h2⟩ := h
    obtain ⟨i1, i2⟩ := rise_up x.org t h2 (by omega)
    refine ⟨fun k hk => ?_, fun y hy => ?_⟩
    · cases k with
      | zero =>
        cases t with
        | nil => simp at hk
        | cons y t =>
          simp only [riseB, Bool.and_eq_true, decide_eq_true_eq] at h2
          exact h2.1
      | succ k => exact i1 k (by simpa using hk)
    · rcases List.mem_cons.1 hy with rfl | hy
      · omega
      · exact i2 y hy
theorem right_up {most : Int} {l : List En} (h : rightR most l = true) (hl : ∀ x ∈ l, x.org ≤ 9223372036854775807) : upR l ∧ 1 ≤ most := by
  simp only [rightR, Bool.and_eq_true, decide_eq_true_eq] at h
  obtain ⟨i1, i2⟩ := rise_up _ _ h.1 (by omega)
  exact ⟨⟨i1, fun x hx => ⟨i2 x hx, hl x hx⟩⟩, h.2⟩
end Go.Proofs.Ytgbicbeofgpinaa
