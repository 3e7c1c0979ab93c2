/- Tables: Drop. -/
import Derived.Test.YtfidgmpeiabhiaaTbD
namespace Go.Proofs.Ytfidgmpeiabhiaa
open Go.RowKit Go.Maps Go.ChangeMaps

/-- what Drop tells -/
def dropI (o : Int) (p : List Int) : Int × Int := match fnd o p with | some i => ((i : Int), 0) | none => (0, 161)
def dropP (o : Int) (p : List Int) : List Int := match fnd o p with | some i => p.set i (-1) | none => p
theorem dropP_len (o : Int) (p : List Int) : (dropP o p).length = p.length := by
  unfold dropP
  split
  · simp
  · rfl
theorem dropP_ok {o : Int} {p : List Int} (h : Tok p) : Tok (dropP o p) := by
  unfold dropP
  split
  · exact h.drop _
  · exact h
theorem own_tight {W : World} {P : Program} {k : TypeId} {R : Value → Option (DataW Unit × List MemPlace)} {b n : Nat} {D : DataW Unit} (h : W.ownsMap P k R b n D) : W.ownsMap P k R b (Maps.size D) D := by
  obtain ⟨es, cl, hb, F, hs, rfl⟩ := h
  refine ⟨es, cl, hb, F, ?_, rfl⟩
  rw [Maps.size_eq, length_sorted]
  simp
theorem MapAt.drop {W : World} {bm : Nat} {p : List Int} {o : Int} {i : Nat} {n : Nat} {D : DataW Unit} (hown : W.ownsMap Try.prog 3 (plainElem Try.prog 3) bm n (D.del (.int .i64 o))) (ht : Tidy D) (hp : Tok p)
    (hs : Maps.size D = lenP p) (h1 : ∀ o : Int, (Lit.int .i64 o).wf = true → Maps.has D (.int .i64 o) = (decide (0 ≤ o) && (findP o p).isSome)) (h2 : ∀ (o : Int) (i : Nat) (z : DataW Unit), 0 ≤ o → findP o p = some i → D.atKey (.int .i64 o) z = .lit (.int .i64 i))
    (ho : 0 ≤ o) (hw : (Lit.int .i64 o).wf = true) (hi : findP o p = some i) : MapAt W bm (p.set i (-1)) := by
  obtain ⟨hil, hif, _⟩ := findP_some hi
  have hhas : Maps.has D (.int .i64 o) = true := by rw [h1 o hw, hi]; simp [ho]
  have hls : lenP (p.set i (-1)) + 1 = lenP p := by
    have := lenP_set hil (-1)
    rw [hif, if_pos ho, if_neg (by omega)] at this
    omega
  have hsz : Maps.size (D.del (.int .i64 o)) = lenP (p.set i (-1)) := by
    have := size_del ht (k := .int .i64 o)
    rw [hhas, hs] at this
    simp at this
    omega
  refine ⟨_, _, own_tight hown, hsz, hsz, fun x hx => ?_, fun x j z hx0 hx => ?_⟩
  · by_cases hxo : x = o
    · subst hxo
      rw [has_del_same, find_drop hp hi ho x ho, if_pos rfl]
      simp
    · rw [has_del_other (by intro e; injection e with _ e; exact hxo e), h1 x hx]
      by_cases h0 : 0 ≤ x
      · rw [find_drop hp hi ho x h0, if_neg hxo]
      · simp [h0]
  · rw [find_drop hp hi ho x hx0] at hx
    by_cases hxo : x = o
    · rw [if_pos hxo] at hx
      cases hx
    · rw [if_neg hxo] at hx
      rw [atKey_del_other (by intro e; injection e with _ e; exact hxo e)]
      exact h2 x j z hx0 hx
def DropPost (n₀ : Nat) (t : Tb) (p : List Int) (o : Int) (W : World) (e : Ending) (w' : World) : Prop :=
  e = .returned (.tuple #[.int .i64 (dropI o p).1, .int .i64 (dropI o p).2]) ∧ TbAt n₀ w' t (dropP o p) ∧ Kept (t.bm :: t.v.ownBlock.toList) W w'
set_option maxRecDepth 4000 in
set_option maxHeartbeats 2000000 in
theorem tb_Drop (W : World) (n₀ : Nat) (t : Tb) (p : List Int) (o : Int) (ho : -9223372036854775808 ≤ o ∧ o ≤ 9223372036854775807) (h : TbAt n₀ W t p) :
    Calls Try.prog 18 #[tbV t, .int .i64 o] W (DropPost n₀ t p o W) := by
  obtain ⟨n, D, hown, hn, hs, h1, h2⟩ := h.mp
  have c1 := h.tb.cell 1
  have c0 := h.tb.cell 0
  obtain ⟨A, c, hv, _⟩ := own_slice h.pl
  simp only [List.getElem?_toArray, List.getElem?_cons_zero, hv] at c0
  have HO := Lib.hid hown
  have HL : Hid (∀ c, D.atKey (.int .i64 o) (.lit (.int .i64 0)) = .lit (.int .i64 c) → Maps.has D (.int .i64 o) = fndB o p ∧ c = fndI o p) := fun c hat => look_is (wfI ho) h1 h2 hat
  have HW := Lib.hid (wfI ho)
  have HT := Lib.hid h
  replace hv := Lib.hid hv
  have hplen := h.len
  cases hq : fnd o p with
  | none =>
    have hb : Hid (fndB o p = false) := by rw [Hid, fndB, hq]; rfl
    have hi : Hid (dropI o p = (0, 161)) := by rw [Hid, dropI, hq]
    have hp : Hid (dropP o p = p) := by rw [Hid, dropP, hq]
    clear h hown h1 h2 hs hq hn
    unfold tbV
    go_enter Try.func18, Try.ntmps18
    go_wp2_with (at_lookup; refine wpList_lookup_own_ok_int _ rfl _ _ 57 rfl 3 3 .i64 lawI Try.underlying57 Try.underlying3 (zeroI _) t.bm n D rfl HO.out _ (.int .i64 o) rfl (keyOf_int_mk Try.underlying3 HW.out) ?_; intro c hat hwc; obtain ⟨hbb, rfl⟩ := HL.out c hat; rw [hbb, hb.out]; clear hbb hat hwc)
    refine bodyPost_ret (results_tmp2 rfl _ _ _) rfl ?_
    refine ⟨?_, by rw [hp.out]; exact HT.out, Kept.refl _ _⟩
    rw [hi.out]
    rfl
  | some i =>
    have ho0 : 0 ≤ o := by
      rcases Int.lt_or_le o 0 with h0 | h0
      · rw [fnd, if_neg (by omega)] at hq
        cases hq
      · exact h0
    have hf : findP o p = some i := by rw [fnd, if_pos ho0] at hq; exact hq
    obtain ⟨hil, hif, _⟩ := findP_some hf
    have hb : Hid (fndB o p = true) := by rw [Hid, fndB, hq]; rfl
    have hfi : Hid (fndI o p = (i : Int)) := by rw [Hid, fndI, hq]
    have hi : Hid (dropI o p = ((i : Int), 0)) := by rw [Hid, dropI, hq]
    have hp : Hid (dropP o p = p.set i (-1)) := by rw [Hid, dropP, hq]
    obtain ⟨g, _, e1, _⟩ := own_some (hv.out ▸ h.pl) (by omega)
    injection e1 with e1 _ e2
    subst e1
    subst e2
    have d0 := own_cellS (hv.out ▸ h.pl) i (iv p[i]) (by simp [hil])
    have f0 := own_frozen (hv.out ▸ h.pl) i
    rw [Nat.zero_add] at d0
    rw [hif] at d0
    have hgb : g ≠ t.bm := fun e => by
      subst e
      obtain ⟨es, cl, hb2, _⟩ := hown
      rw [World.cell?, hb2] at d0
      cases d0
    have HO1 : Hid ((W.setCell ⟨g, i, none⟩ (.int .i64 (-1))).ownsMap Try.prog 3 (plainElem Try.prog 3) t.bm n D) := World.ownsMap.setCell hown (fun e => hgb e.symm) _
    have HM : Hid (∀ W', W'.ownsMap Try.prog 3 (plainElem Try.prog 3) t.bm n (D.del (.int .i64 o)) → MapAt W' t.bm (p.set i (-1))) := fun W' hW => MapAt.drop hW (hown.tidy lawI) h.ok hs h1 h2 ho0 HW.out hf
    have HP := Lib.hid (own_put (hv.out ▸ h.pl) (k := i) (.int .i64 (-1)))
    have hgt : g ≠ t.tb := fun e => own_ne (hv.out ▸ h.pl) h.tb (by decide) g rfl e
    have hili : (i : Int) < (p.length : Int) := by omega
    clear h hown h1 h2 hs hq hf hn
    unfold tbV
    go_enter Try.func18, Try.ntmps18
    go_wp2_with (first | (at_lookup; refine wpList_lookup_own_ok_int _ rfl _ _ 57 rfl 3 3 .i64 lawI Try.underlying57 Try.underlying3 (zeroI _) t.bm n D rfl HO.out _ (.int .i64 o) rfl (keyOf_int_mk Try.underlying3 HW.out) ?_; intro c hat hwc; obtain ⟨hbb, rfl⟩ := HL.out c hat; rw [hbb, hb.out, hfi.out]; clear hbb hat hwc) | (at_delete; refine wpList_delete_own _ rfl _ _ 57 3 rfl 3 lawI Try.underlying57 _ t.bm n D rfl HO1.out _ (.int .i64 o) rfl (keyOf_int_mk Try.underlying3 HW.out) ?_; intro w1 hown1 hturn1))
    refine bodyPost_ret (results_tmp2 rfl _ _ _) rfl ?_
    have hT := HT.out
    have k1 : Kept [g] W (W.setCell ⟨g, i, none⟩ (.int .i64 (-1))) := (Kept.refl [g] W).setCell (.inl (by simp)) _
    have k3 : Kept [t.bm] (W.setCell ⟨g, i, none⟩ (.int .i64 (-1))) w1 := (Kept.refl _ _).grown hturn1.grown (fun k e => .inl (by cases e; simp))
    have kk : Kept (t.bm :: t.v.ownBlock.toList) W w1 := (k1.mono fun z hz => .inl (by simp at hz; simp [hv.out, Value.ownBlock, hz])).trans (k3.mono fun z hz => .inl (by simp at hz; simp [hz]))
    refine ⟨?_, ?_, kk⟩
    · rw [hi.out]
      rfl
    · rw [hp.out]
      have hbt : t.tb ≠ t.bm := fun e => by
        obtain ⟨n, D, ⟨es, cl, hb2, _⟩, _⟩ := hT.mp
        have := hT.tb
        unfold Blk at this
        rw [e, hb2] at this
        cases this
      refine ⟨hT.tb.kept kk (by simp [hv.out, Value.ownBlock]; exact ⟨hbt, fun e => hgt e.symm⟩), ?_, HM.out _ hown1, hT.lo, hT.ok.drop i, by simpa using hT.len⟩
      have h3 := k3.owns HP.out (fun j hj hm => by cases hj; simp at hm; exact hgb hm)
      rw [hv.out, List.length_set, List.map_set]
      exact h3
end Go.Proofs.Ytfidgmpeiabhiaa
