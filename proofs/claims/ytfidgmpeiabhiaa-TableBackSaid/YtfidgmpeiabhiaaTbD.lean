/- Tables: Put. -/
import Derived.Test.YtfidgmpeiabhiaaTbC
namespace Go.Proofs.Ytfidgmpeiabhiaa
open Go.RowKit Go.Maps Go.ChangeMaps

theorem own_cellS {w : World} {base e size n g c : Nat} {xs : List Value} (h : w.ownsRow base e size (.slice (some ⟨g, 0, none⟩) n c) n xs) (j : Nat) (u : Value) (hu : xs[j]? = some u) : w.cell? ⟨g, 0 + j, none⟩ = some u := by
  have := h.cells (g := g) rfl j u hu
  rwa [Addr.add_lit] at this
theorem own_frozen {w : World} {base e size n g c : Nat} {xs : List Value} (h : w.ownsRow base e size (.slice (some ⟨g, 0, none⟩) n c) n xs) (j : Nat) : w.frozen? ⟨g, j, none⟩ = false := by
  rcases h.2 with ⟨h2, _⟩ | ⟨g', cap, cur, e', hb, hh, _⟩
  · cases h2
  · injection e' with e1
    injection e1 with e1
    injection e1 with e1
    subst e1
    exact Blk.frozen (show Blk w g e cur from hh) j
theorem own_put {w : World} {base e n g c k : Nat} {xs : List Value} (h : w.ownsRow base e 1 (.slice (some ⟨g, 0, none⟩) n c) n xs) (u : Value) : (w.setCell ⟨g, k, none⟩ u).ownsRow base e 1 (.slice (some ⟨g, 0, none⟩) n c) n (xs.set k u) := by
  refine ⟨by simpa using h.1, ?_⟩
  rcases h.2 with ⟨h2, _⟩ | ⟨g', cap, cur, e', hb, hh, h1, h2, h3, h4⟩
  · cases h2
  · injection e' with e1 _ e3
    injection e1 with e1
    injection e1 with e1
    subst e1
    subst e3
    refine .inr ⟨g, c, cur.setIfInBounds k u, rfl, hb, Blk.set_ (show Blk w g e cur from hh) k u, h1, h2, by simpa using h3, ?_⟩
    rw [← h4, Array.toList_setIfInBounds, List.take_set]
theorem kept_setBlock (w : World) (b : Nat) (o : Obj) : Kept [b] w (setBlock w b o) :=
  ⟨rfl, rfl, rfl, by simp [setBlock], fun k _ hk => by
    show (w.heap.setIfInBounds b o)[k]? = w.heap[k]?
    rw [Array.getElem?_setIfInBounds_ne (fun e => hk (by simp [e]))]⟩
def PutPost (n₀ : Nat) (t : Tb) (p : List Int) (o : Int) (W : World) (e : Ending) (w' : World) : Prop :=
  e = .returned (.tuple #[.int .i64 (putI o p).1, .int .i64 (putI o p).2]) ∧ TbAt n₀ w' t (putP o p) ∧ Kept (t.bm :: t.v.ownBlock.toList) W w'
set_option maxRecDepth 4000 in
set_option maxHeartbeats 2000000 in
theorem tb_Put (W : World) (n₀ : Nat) (t : Tb) (p : List Int) (o : Int) (ho : -9223372036854775808 ≤ o ∧ o ≤ 9223372036854775807) (h : TbAt n₀ W t p) :
    Calls Try.prog 16 #[tbV t, .int .i64 o] W (PutPost n₀ t p o W) := by
  have HR := tb_right o
  by_cases hr : rightB o = true
  · have hr2 := hr
    simp only [rightB, Bool.and_eq_true, decide_eq_true_eq] at hr2
    obtain ⟨n, D, hown, hn, hs, h1, h2⟩ := h.mp
    have c1 := h.tb.cell 1
    have c0 := h.tb.cell 0
    obtain ⟨A, c, hv, _⟩ := own_slice h.pl
    simp only [List.getElem?_toArray, List.getElem?_cons_zero, hv] at c0
    have HO := Lib.hid hown
    have HL : Hid (∀ c, D.atKey (.int .i64 o) (.lit (.int .i64 0)) = .lit (.int .i64 c) → Maps.has D (.int .i64 o) = fndB o p ∧ c = fndI o p) := fun c hat => look_is (wfI ho) h1 h2 hat
    have HW := Lib.hid (wfI ho)
    have HT := Lib.hid h
    have hfn : fnd o p = findP o p := if_pos hr2.1
    replace hr := Lib.hid hr
    replace HR := Lib.hid HR
    replace hv := Lib.hid hv
    have hplen := h.len
    cases hq : findP o p with
    | some i =>
      have hb : Hid (fndB o p = true) := by rw [Hid, fndB, hfn, hq]; rfl
      have hi : Hid (fndI o p = (putI o p).1) := by rw [Hid, fndI, hfn, putI, hr.out, hq]; rfl
      have hi2 : Hid ((putI o p).2 = 0) := by rw [Hid, putI, hr.out, hq]; rfl
      have hp : Hid (putP o p = p) := by rw [Hid, putP, hr.out, hq]; rfl
      clear h hown h1 h2 hs hfn hq hn
      unfold tbV
      go_enter Try.func16, Try.ntmps16
      go_wp2_with (first | (go_at_call 31; refine (HR.out _).mono ?_; rintro e w1 ⟨rfl, rfl⟩; rw [hr.out]) | (at_lookup; refine wpList_lookup_own_ok_int _ rfl _ _ 57 rfl 3 3 .i64 lawI Try.underlying57 Try.underlying3 (zeroI _) t.bm n D rfl HO.out _ (.int .i64 o) rfl (keyOf_int_mk Try.underlying3 HW.out) ?_; intro c hat hwc; obtain ⟨hbb, rfl⟩ := HL.out c hat; rw [hbb, hb.out]; clear hbb hat hwc))
      refine bodyPost_ret (results_tmp2 rfl _ _ _) rfl ?_
      refine ⟨?_, by rw [hp.out]; exact HT.out, Kept.refl _ _⟩
      rw [← hi.out, hi2.out]
      rfl
    | none =>
      have hb : Hid (fndB o p = false) := by rw [Hid, fndB, hfn, hq]; rfl
      cases hf : findP (-1) p with
      | none =>
        have hi : Hid (putI o p = (0, 111)) := by rw [Hid, putI, hr.out, hq, hf]; rfl
        have hp : Hid (putP o p = p) := by rw [Hid, putP, hr.out, hq, hf]; rfl
        have hx : Hid (idxI (-1) p = -1) := by rw [Hid, idxI, hf]
        clear h hown h1 h2 hs hfn hq hf hn
        unfold tbV
        go_enter Try.func16, Try.ntmps16
        go_wp2_with (first | (go_at_call 31; refine (HR.out _).mono ?_; rintro e w1 ⟨rfl, rfl⟩; rw [hr.out]) | (at_lookup; refine wpList_lookup_own_ok_int _ rfl _ _ 57 rfl 3 3 .i64 lawI Try.underlying57 Try.underlying3 (zeroI _) t.bm n D rfl HO.out _ (.int .i64 o) rfl (keyOf_int_mk Try.underlying3 HW.out) ?_; intro c hat hwc; obtain ⟨hbb, rfl⟩ := HL.out c hat; rw [hbb, hb.out]; clear hbb hat hwc) | (go_at_call 37; refine (slices_Index _ n₀ c A p (-1) (by have := HT.out.pl; rwa [hv.out] at this) hplen).mono ?_; rintro e w1 ⟨rfl, rfl⟩; rw [hx.out]))
        refine bodyPost_ret (results_tmp2 rfl _ _ _) rfl ?_
        refine ⟨?_, by rw [hp.out]; exact HT.out, Kept.refl _ _⟩
        rw [hi.out]
        rfl
      | some i =>
        obtain ⟨hil, hif, _⟩ := findP_some hf
        have hi : Hid (putI o p = ((i : Int), 0)) := by rw [Hid, putI, hr.out, hq, hf]; rfl
        have hp : Hid (putP o p = p.set i o) := by rw [Hid, putP, hr.out, hq, hf]; rfl
        have hx : Hid (idxI (-1) p = (i : Int)) := by rw [Hid, idxI, hf]
        obtain ⟨g, _, e1, _⟩ := own_some (hv.out ▸ h.pl) (by omega)
        injection e1 with e1 _ e2
        subst e1
        subst e2
        have d0 := own_cellS (hv.out ▸ h.pl) i (iv p[i]) (by simp [hil])
        have f0 := own_frozen (hv.out ▸ h.pl) i
        rw [Nat.zero_add] at d0
        rw [hif] at d0
        have hgb : g ≠ t.bm := fun e => by
          subst e
          obtain ⟨es, cl, hb2, _⟩ := hown
          have hlt := block_lt_of_cell d0
          rw [World.cell?, hb2] at d0
          cases d0
        have hown1 : ((W.setCell ⟨g, i, none⟩ (.int .i64 o)).drew).ownsMap Try.prog 3 (plainElem Try.prog 3) t.bm n D := World.ownsMap.setCell hown (fun e => hgb e.symm) _
        have hnone : Maps.has D (.int .i64 o) = false := by rw [h1 o HW.out, hq]; simp
        obtain ⟨st, o1, hE1, hWt, es1, cl1, ho1⟩ := entry_new hown1 lawI Try.underlying57 (zeroI _) (by have := lenP_le p; have := h.len; simp only [maxLen]; omega) (keyOf_int_mk Try.underlying3 HW.out) hnone
        have hb1 : ∃ es cl, ((W.setCell ⟨g, i, none⟩ (.int .i64 o)).drew).heap[t.bm]? = some (.map es cl) := by
          obtain ⟨es, cl, hb2, _⟩ := hown1
          exact ⟨es, cl, hb2⟩
        obtain ⟨esb, clb, hb1⟩ := hb1
        have hb2 : (setBlock ((W.setCell ⟨g, i, none⟩ (.int .i64 o)).drew) t.bm o1).heap[t.bm]? = some o1 := heap_setBlock_same hb1 _
        obtain ⟨o2, hE2, hown3⟩ := hWt t.bm _ (.int .i64 i) _ _ hb2 (plainElem_int Try.underlying3 (wfI (by have := h.len; omega)))
        have K1 : Kept [g] W ((W.setCell ⟨g, i, none⟩ (.int .i64 o)).drew) := ((Kept.refl [g] W).setCell (.inl (by simp)) _).drew
        have K3 : Kept [t.bm] ((W.setCell ⟨g, i, none⟩ (.int .i64 o)).drew) (setBlock (setBlock ((W.setCell ⟨g, i, none⟩ (.int .i64 o)).drew) t.bm o1) t.bm o2) := (kept_setBlock _ _ _).trans (kept_setBlock _ _ _)
        have HM := Lib.hid (MapAt.put hown3 hn (hown.tidy lawI) hs h1 h2 hr.out hq hf)
        have HP := Lib.hid (own_put (hv.out ▸ h.pl) (k := i) (.int .i64 o))
        obtain ⟨W3, hW3⟩ : ∃ W3, setBlock (setBlock ((W.setCell ⟨g, i, none⟩ (.int .i64 o)).drew) t.bm o1) t.bm o2 = W3 := ⟨_, rfl⟩
        obtain ⟨W2, hW2⟩ : ∃ W2, setBlock ((W.setCell ⟨g, i, none⟩ (.int .i64 o)).drew) t.bm o1 = W2 := ⟨_, rfl⟩
        rw [hW2] at hE1 hE2 hW3
        rw [hW3] at hE2
        have K3' : Hid (Kept [t.bm] ((W.setCell ⟨g, i, none⟩ (.int .i64 o)).drew) W3) := by rw [← hW3, ← hW2]; exact K3
        have HM' : Hid (MapAt W3 t.bm (p.set i o)) := by rw [← hW3, ← hW2]; exact HM.out
        replace K1 := Lib.hid K1
        replace hE2 : (Instr.entryStore 57 (.map (some t.bm)) (.int .i64 (st : Int)) (.int .i64 (i : Int))).run Try.prog W2 = .ok () W3 := hE2
        replace hE1 : (Instr.mapEntry 57 (.map (some t.bm)) (.int .i64 o)).run Try.prog (W.setCell ⟨g, i, none⟩ (.int .i64 o)).drew = .ok (.tuple #[.int .i64 0, .int .i64 (st : Int)]) W2 := hE1
        have hplt : p.length ≤ 1048576 := h.len
        clear K3 HM hWt hW2 hW3 hb1 hb2 hown hown1 hown3 h1 h2 hs hfn hq hf h ho1 hn
        unfold tbV
        go_enter Try.func16, Try.ntmps16
        go_wp2_with (first | (go_at_call 31; refine (HR.out _).mono ?_; rintro e w1 ⟨rfl, rfl⟩; rw [hr.out]) | (at_lookup; refine wpList_lookup_own_ok_int _ rfl _ _ 57 rfl 3 3 .i64 lawI Try.underlying57 Try.underlying3 (zeroI _) t.bm n D rfl HO.out _ (.int .i64 o) rfl (keyOf_int_mk Try.underlying3 HW.out) ?_; intro c hat hwc; obtain ⟨hbb, rfl⟩ := HL.out c hat; rw [hbb, hb.out]; clear hbb hat hwc) | (go_at_call 37; refine (slices_Index _ n₀ _ _ p (-1) (by have := HT.out.pl; rwa [hv.out] at this) hplen).mono ?_; rintro e w1 ⟨rfl, rfl⟩; rw [hx.out]))
        go_region
        go_wp2_with fail
        refine bodyPost_ret (results_tmp2 rfl _ _ _) rfl ?_
        have hT := HT.out
        have kk : Kept (t.bm :: t.v.ownBlock.toList) W W3 := (K1.out.mono fun z hz => .inl (by simp at hz; simp [hv.out, Value.ownBlock, hz])).trans (K3'.out.mono fun z hz => .inl (by simp at hz; simp [hz]))
        refine ⟨?_, ?_, kk⟩
        · rw [hi.out]
          rfl
        · rw [hp.out]
          have hgt : g ≠ t.tb := own_ne (by have := hT.pl; rwa [hv.out] at this) hT.tb (by decide) g rfl
          have hbt : t.tb ≠ t.bm := fun e => by
            obtain ⟨n, D, ⟨es, cl, hb2, _⟩, _⟩ := hT.mp
            have := hT.tb
            unfold Blk at this
            rw [e, hb2] at this
            cases this
          refine ⟨hT.tb.kept kk (by simp [hv.out, Value.ownBlock]; exact ⟨hbt, fun e => hgt e.symm⟩), ?_, HM'.out, hT.lo, ?_, by simpa using hT.len⟩
          · have h3 := K3'.out.owns (World.ownsRow.drew HP.out) (fun j hj hm => by cases hj; simp at hm; exact hgb hm)
            rw [hv.out, List.length_set, List.map_set]
            exact h3
          · have := putP_ok (o := o) hT.ok
            rw [hp.out] at this
            exact this
  · have hr : rightB o = false := by simpa using hr
    have hi : Hid (putI o p = (0, 1)) := by rw [Hid, putI, hr]; rfl
    have hp : Hid (putP o p = p) := by rw [Hid, putP, hr]; rfl
    have HT := Lib.hid h
    replace hr := Lib.hid hr
    replace HR := Lib.hid HR
    clear h
    unfold tbV
    go_enter Try.func16, Try.ntmps16
    go_wp2_with (go_at_call 31; refine (HR.out _).mono ?_; rintro e w1 ⟨rfl, rfl⟩; rw [hr.out])
    refine bodyPost_ret (results_tmp2 rfl _ _ _) rfl ?_
    refine ⟨?_, by rw [hp.out]; exact HT.out, Kept.refl _ _⟩
    rw [hi.out]
    rfl
end Go.Proofs.Ytfidgmpeiabhiaa
