/- Commands: the program's Print. -/
import Derived.Test.YtjdambplggiphaaDoorCmO
namespace Go.Proofs.YtjdambplggiphaaDoor
open Go.RowKit Go.Lib

def wfC (c : Cm) : Prop := (-9223372036854775808 ≤ c.id ∧ c.id ≤ 9223372036854775807) ∧ (-9223372036854775808 ≤ c.at_ ∧ c.at_ ≤ 9223372036854775807) ∧ (-9223372036854775808 ≤ c.n ∧ c.n ≤ 9223372036854775807)
def valF (c : Cm) (f : UInt8) : Int := if f = 105 then c.id else if f = 97 then c.at_ else c.n
theorem val_cell (c : Cm) (f : UInt8) : (cmC c)[idxF f]? = some (.int .i64 (valF c f)) := by
  unfold idxF valF
  by_cases h1 : f = 105
  · rw [if_pos h1, if_pos h1]
    rfl
  · rw [if_neg h1, if_neg h1]
    by_cases h2 : f = 97
    · rw [if_pos h2, if_pos h2]
      rfl
    · rw [if_neg h2, if_neg h2]
      rfl
theorem val_wf {c : Cm} (h : wfC c) (f : UInt8) : -9223372036854775808 ≤ valF c f ∧ valF c f ≤ 9223372036854775807 := by
  unfold valF
  obtain ⟨h1, h2, h3⟩ := h
  split
  · exact h1
  · split
    · exact h2
    · exact h3
theorem itoa_len {n : Int} (h : -9223372036854775808 ≤ n ∧ n ≤ 9223372036854775807) : (itoa n).length ≤ 20 := by
  unfold itoa
  split
  · have := dec_len 18 n.natAbs (by omega)
    rw [List.length_cons]
    omega
  · have := dec_len 18 n.toNat (by omega)
    omega
theorem word_val {c : Cm} {f : UInt8} (h : f ≠ 100) : wordL c f = itoa (valF c f) := by
  unfold wordL valF
  rw [if_neg h]
theorem word_data (c : Cm) : wordL c 100 = hexL c.data := rfl
set_option maxRecDepth 4000 in
/-- one text more; all but the row itself is kept -/
theorem app_S2 {W w : World} {A' : Option Addr} {c' : Nat} {l : List Bs} (x : Bs) (HO : SAt W.heap.size w A' c' l) (HK : Kept [] W w) (hn : l.length ≤ 4000000) (ty : TypeId) :
    ∃ v' w', (Builtin.append_ #[36, 36] ty #[.slice A' l.length c', .slice (some ⟨w.heap.size, 0, none⟩) 1 1]).run Tryd.prog (w.alloc (.cells #[.string ⟨x.toArray⟩] 9)) = .ok v' w' ∧ ∃ (A2 : Option Addr) (c2 : Nat), v' = .slice A2 (l ++ [x]).length c2 ∧ SAt W.heap.size w' A2 c2 (l ++ [x]) ∧ Kept [] W w' ∧ Kept (Value.slice A' l.length c').ownBlock.toList w w' := by
  obtain ⟨i0, p0, p1, p2, p3⟩ := info_parts infoS
  have hlo : ∀ j, (Value.slice A' l.length c').ownBlock = some j → W.heap.size ≤ j := fun j hj => (World.ownsRow.lt HO j hj).1
  obtain ⟨v', w', hr, h2, h3, h4⟩ := run_app (P := Tryd.prog) (w.alloc (.cells #[.string ⟨x.toArray⟩] 9)) 36 ty 9 i0 _ 1 16 Tryd.underlying36 p0 p1 p2 p3 rfl (by decide) _ _ _ (own_down (World.ownsRow.alloc HO _) (Nat.zero_le _)) (some ⟨w.heap.size, 0, none⟩) 1 1 [sV x] rfl (fun h => by cases h) (fun _ => ⟨_, 0, rfl, fun j u hu => by
    have := World.news_of_block (Blk.new w 9 #[sV x]) j u hu
    rwa [Addr.add_lit] at this⟩) (by simp [sV, Value.oneCell']) (by simp only [maxLen]; omega) (by omega)
  have h5 : w'.ownsRow W.heap.size 9 1 v' (l.length + 1) ((l ++ [x]).map sV) := by
    rw [List.map_append]
    refine own_up h2 (fun j hj => ?_)
    rcases h4 with h | h
    · exact hlo j (h ▸ hj)
    · rw [h] at hj
      injection hj with hj
      subst hj
      have := HK.size
      simp
      omega
  have e1 : l.length + 1 = (l ++ [x]).length := by simp
  rw [e1] at h5
  obtain ⟨A2, c2, rfl, _⟩ := own_slice h5
  exact ⟨_, w', hr, A2, c2, rfl, h5, (HK.alloc _).grown h3 (fun j e => .inr (hlo j e)), ((Kept.refl _ w).alloc _).grown h3 (fun k e => .inl (by simp [e]))⟩
theorem row_not_iter {n₀ c : Nat} {w : World} {A : Option Addr} {l : List Bs} {k : Nat} {s : ByteArray} {p : Nat} (h : SAt n₀ w A c l) (hk : w.heap[k]? = some (.stringIter s p)) : k ∉ (Value.slice A l.length c).ownBlock.toList := by
  intro hm
  have hm : (Value.slice A l.length c).ownBlock = some k := by simpa using hm
  rcases h.2 with ⟨h2, _⟩ | ⟨g', cap, cur, e', hb, hh, _⟩
  · rw [h2] at hm
    cases hm
  · rw [e'] at hm
    injection hm with hm
    subst hm
    rw [hh] at hk
    cases hk
theorem own_iter {n₀ c : Nat} {w : World} {A : Option Addr} {l : List Bs} {k : Nat} {s : ByteArray} {p q : Nat} (h : SAt n₀ w A c l) (hk : w.heap[k]? = some (.stringIter s p)) : SAt n₀ (w.iterAt k s q) A c l := by
  have hn := row_not_iter h hk
  refine ⟨h.1, ?_⟩
  rcases h.2 with h2 | ⟨g', cap, cur, e', hb, hh, h3⟩
  · exact .inl h2
  · refine .inr ⟨g', cap, cur, e', hb, ?_, h3⟩
    rw [iterAt_other]
    · exact hh
    · rintro rfl
      apply hn
      rw [e']
      simp [Value.ownBlock]
theorem print_no_parse {c : Cm} {f : Bs} (h : frm c.op = some f) (hp : parseL (textL c f) ≠ some c) : printL c = none := by
  unfold printL
  rw [h]
  exact if_neg hp
theorem print_yes_parse {c : Cm} {f : Bs} (h : frm c.op = some f) (hp : parseL (textL c f) = some c) : printL c = some (textL c f) := by
  unfold printL
  rw [h]
  exact if_pos hp
set_option maxRecDepth 8000 in
set_option maxHeartbeats 8000000 in
theorem cmd_Print (c : Cm) (w : World) (hL : Laid w) (hs : c.op.length ≤ 1000 ∧ c.data.length ≤ 1000) (hw : wfC c) : Calls Tryd.prog 7 #[cmV c] w (PrintPost c w) := by
  have HNo := Lib.hid (fun w' (h : printL c = none) (k : Kept [] w w') => PrintPost.no h k)
  have HYes := Lib.hid (fun w' s (h : printL c = some s) (k : Kept [] w w') => PrintPost.yes h k)
  have HNF := Lib.hid (print_no_form (c := c))
  have HNP := Lib.hid (fun f => print_no_parse (c := c) (f := f))
  have HPY := Lib.hid (fun f => print_yes_parse (c := c) (f := f))
  have K0 := Lib.hid ((Kept.refl [] w).alloc (.cells (cmC c) 23))
  have B0 := Lib.hid (Blk.new w 23 (cmC c))
  have HHex := Lib.hid (fun w => cmd_hex c.data w (by omega))
  have HHl := Lib.hid (hexL_len c.data)
  have HFo := Lib.hid forms_kept
  have HVc := Lib.hid (fun f => val_cell c f)
  have HVw := Lib.hid (fun f => val_wf hw f)
  have HWv := Lib.hid (fun f (h : f ≠ 100) => word_val (c := c) h)
  have HWd := Lib.hid (word_data c)
  have hlk0 := Lib.hid (fun V r (h : V.heap[r]? = some (.map formsE 6)) => run_form (V := V) (r := r) c.op h)
  generalize PrintPost c w = Q at *
  have c0 : (w.alloc (.cells (cmC c) 23)).cell? ⟨w.heap.size, 0, none⟩ = some (.string ⟨c.op.toArray⟩) := B0.out.cell 0
  obtain ⟨op, id, at_, n, data⟩ := c
  unfold cmV
  unfold cmC at K0 B0 c0
  dsimp only at K0 B0 c0 HHex HHl hs hlk0 HNF HNP HPY ⊢
  have HL0 := hL.kept K0.out
  go_enter Tryd.func7, Tryd.ntmps7
  go_wp2_with fail
  go_region_held3 (fun V => V.cell? ⟨w.heap.size, 0, none⟩ = some (.string ⟨op.toArray⟩)) (first | exact c0 | exact kk.cell c0 (fun h => by cases h) | go_keep) (first | (go_at_call 11; refine (HFo.out _).mono ?_; rintro e w5 ⟨r5, rfl, k5, hr5⟩; have kk : Kept [] (w.alloc (.cells #[.string ⟨op.toArray⟩, .int .i64 id, .int .i64 at_, .int .i64 n, .string ⟨data.toArray⟩] 23)) w5 := ((Kept.refl [] _).drew).trans k5; have hlk := hlk0.out _ _ hr5))
  have K5 := Lib.hid (K0.out.trans kk)
  have B5 := Lib.hid (B0.out.kept kk (fun h => by cases h))
  have HL5 := Lib.hid (hL.kept K5.out)
  clear kk c0 hlk hlk0 HFo k5 hr5 hL HL0 K0 B0
  cases hf : frm op with
  | none =>
    have hn := Lib.hid (HNF.out hf)
    clear hf
    rw [show (Option.none : Option Bs).isSome = false from rfl]
    go_wp2_with fail
    exact HNo.out _ hn.out K5.out
  | some f =>
    have hf3 := form_len hf
    have HLow := Lib.hid (form_low hf)
    have hop6 := form_op hf
    have HNP := Lib.hid (HNP.out f hf)
    have HPY := Lib.hid (HPY.out f hf)
    rw [show (some f : Option Bs).isSome = true from rfl, show (some f : Option Bs).getD [] = f from rfl]
    clear hf HNF
    have e0 := B5.out.cell 0
    simp only [List.getElem?_toArray, List.getElem?_cons_zero] at e0
    have hz15 : w.heap.size < w5.heap.size := B5.out.lt
    have H7 := Lib.hid (World.ownsRow.alloc (oneS w5 op) (.stringIter ⟨f.toArray⟩ 0))
    have K7 := Lib.hid (((Kept.refl [] w5).alloc (.cells #[.string ⟨op.toArray⟩] 9)).alloc (.stringIter ⟨f.toArray⟩ 0))
    have I7 := Lib.hid (World.iter_heap (w5.alloc (.cells #[.string ⟨op.toArray⟩] 9)) ⟨f.toArray⟩ 0)
    go_wp2_with fail
    clear e0
    go_loopw [6] (fun o V => ∃ (k : Nat) (L : List Bs) (A' : Option Addr) (c' : Nat), k ≤ f.length ∧ Hid (L.length = k + 1) ∧ (joinL L).length ≤ 6 + k * 3000 ∧ o = .slice A' L.length c' ∧ Hid (L = op :: (f.take k).map (wordL ⟨op, id, at_, n, data⟩)) ∧ Hid (SAt w5.heap.size V A' c' L) ∧ Hid (V.heap[w5.heap.size + 1]? = some (.stringIter ⟨f.toArray⟩ k)) ∧ Hid (Kept [] w5 V)) (fun _ V => f.length - V.iterPos (w5.heap.size + 1))
    case atStart =>
      refine ⟨0, [op], _, 1, Nat.zero_le _, rfl, by show op.length ≤ _; omega, rfl, rfl, H7, ?_, K7⟩
      have h := I7.out
      rw [show (w5.alloc (.cells #[.string ⟨op.toArray⟩] 9)).heap.size = w5.heap.size + 1 by simp] at h
      exact h
    case round =>
      obtain ⟨k, L, A', c', hk, hLl, hJl, rfl, HLe, HO, HI, HK⟩ := hrel
      have KR := Lib.hid (K5.out.trans HK.out)
      by_cases hlt : k < f.length
      · have hlts : k < (⟨f.toArray⟩ : ByteArray).size := hlt
        have ha := HLow.out f[k] (List.getElem_mem _)
        have hnx := fun ty => run_next_ascii_at (P := Tryd.prog) wr (w5.heap.size + 1) ⟨f.toArray⟩ k ty HI.out hlts ha
        have hcc : (⟨f.toArray⟩ : ByteArray)[k]'hlts = f[k] := rfl
        have KI := Lib.hid (iter_kept (k := w5.heap.size + 1) (s := ⟨f.toArray⟩) (p := k + 1) HK.out (by omega))
        have BI := Lib.hid (B5.out.kept KI.out (fun h => by cases h))
        have HOi : Hid (SAt w5.heap.size (wr.iterAt (w5.heap.size + 1) ⟨f.toArray⟩ (k + 1)) A' c' L) := own_iter HO.out HI.out
        have HI1 : Hid ((wr.iterAt (w5.heap.size + 1) ⟨f.toArray⟩ (k + 1)).heap[w5.heap.size + 1]? = some (.stringIter ⟨f.toArray⟩ (k + 1))) := iterAt_heap wr (w5.heap.size + 1) ⟨f.toArray⟩ k (k + 1) HI.out
        have HIP : Hid ((wr.iterPos (w5.heap.size + 1)) = k) := by
          unfold World.iterPos
          rw [Hid, HI.out]
        have e4 := BI.out.cell 4
        simp only [List.getElem?_toArray, List.getElem?_cons_zero, List.getElem?_cons_succ] at e4
        have HLn : Hid (L ++ [wordL ⟨op, id, at_, n, data⟩ f[k]] = op :: (f.take (k + 1)).map (wordL ⟨op, id, at_, n, data⟩)) := by
          rw [Hid, HLe.out, List.take_succ_eq_append_getElem hlt, List.map_append]
          rfl
        have hLne : Hid (L ≠ []) := fun h => by
          have hq := hLl.out
          rw [h] at hq
          cases hq
        generalize f[k] = x at *
        go_wp2_with fail
        refine (HHex.out _).mono ?_
        rintro e w6 ⟨rfl, k6⟩
        have K6 := Lib.hid (KI.out.trans k6)
        have O6 := Lib.hid (HOi.out.kept k6)
        have I6 := Lib.hid (k6.heap HI1.out (fun h => by cases h))
        have B6 := Lib.hid (BI.out.kept k6 (fun h => by cases h))
        clear k6 e4
        by_cases hx : x = 100
        · have hxb : (((x.toNat : Nat) : Int) != 100) = false := by rw [hx]; rfl
          have HW : Hid (wordL ⟨op, id, at_, n, data⟩ x = hexL data) := by rw [Hid, hx, HWd.out]
          have HLm : Hid (L ++ [hexL data] = op :: (f.take (k + 1)).map (wordL ⟨op, id, at_, n, data⟩)) := by rw [Hid, ← HW.out]; exact HLn.out
          have hwl : (hexL data).length ≤ 2001 := by have := HHl.out; omega
          have HJ : Hid ((joinL (L ++ [hexL data])).length ≤ 6 + (k + 1) * 3000) := by
            rw [Hid, join_snoc _ hLne.out, List.length_append, List.length_cons]
            omega
          have HRun := Lib.hid (app_S2 (hexL data) O6.out K6.out (by have := hLl.out; omega))
          clear hx
          go_wp2_with (at_builtin; refine wpList_app rfl (.tmp 40) (.tmp 42) _ rfl _ _ rfl rfl (HRun.out _) ?_; rintro v9 w9 ⟨A9, c9, rfl, o9, k9, kr⟩; clear HRun; have O9 := Lib.hid o9; have K9 := Lib.hid k9; have I9 : Hid (w9.heap[w5.heap.size + 1]? = some (.stringIter ⟨f.toArray⟩ (k + 1))) := kr.heap I6.out (row_not_iter O6.out I6.out); clear o9 k9 kr)
          refine ⟨⟨k + 1, L ++ [hexL data], A9, c9, by omega, (by rw [Hid, List.length_append, List.length_singleton, hLl.out]), HJ.out, by simp, HLm, O9, I9, K9⟩, ?_⟩
          have h5 : World.iterPos w9 (w5.heap.size + 1) = k + 1 := by
            unfold World.iterPos
            rw [I9.out]
          rw [h5, HIP.out]
          omega
        · have hxb : (((x.toNat : Nat) : Int) != 100) = true := by
            rw [bne_iff_ne]
            intro h
            exact hx (UInt8.toNat_inj.1 (by
              have e : (100 : UInt8).toNat = 100 := rfl
              omega))
          have HW := Lib.hid (HWv.out x hx)
          have hvw := HVw.out x
          have HNu := cmd_number w.heap.size x
          have hvc : w6.cell? ⟨w.heap.size, idxF x, none⟩ = some (.int .i64 (valF ⟨op, id, at_, n, data⟩ x)) := by rw [B6.out.cell]; exact HVc.out x
          have HIt := Lib.hid (fun w (h : Laid w) => lib_Itoa (valF ⟨op, id, at_, n, data⟩ x) hvw.1 hvw.2 w h)
          have hwl := itoa_len hvw
          generalize valF ⟨op, id, at_, n, data⟩ x = vv at *
          generalize idxF x = ix at *
          clear hx
          go_wp2_with fail
          refine (HNu _).mono ?_
          rintro e w7 ⟨rfl, rfl⟩
          go_wp2_with fail
          refine (HIt.out _ (HL5.out.kept K6.out)).mono ?_
          rintro e w8 ⟨rfl, k8⟩
          have K8 := Lib.hid (K6.out.trans k8)
          have O8 := Lib.hid (O6.out.kept k8)
          have I8 := Lib.hid (k8.heap I6.out (fun h => by cases h))
          clear k8 hvc K6 O6 I6
          have HLm : Hid (L ++ [itoa vv] = op :: (f.take (k + 1)).map (wordL ⟨op, id, at_, n, data⟩)) := by rw [Hid, ← HW.out]; exact HLn.out
          have HJ : Hid ((joinL (L ++ [itoa vv])).length ≤ 6 + (k + 1) * 3000) := by
            rw [Hid, join_snoc _ hLne.out, List.length_append, List.length_cons]
            omega
          have HRun := Lib.hid (app_S2 (itoa vv) O8.out K8.out (by have := hLl.out; omega))
          go_wp2_with (at_builtin; refine wpList_app rfl (.tmp 40) (.tmp 42) _ rfl _ _ rfl rfl (HRun.out _) ?_; rintro v9 w9 ⟨A9, c9, rfl, o9, k9, kr⟩; clear HRun; have O9 := Lib.hid o9; have K9 := Lib.hid k9; have I9 : Hid (w9.heap[w5.heap.size + 1]? = some (.stringIter ⟨f.toArray⟩ (k + 1))) := kr.heap I8.out (row_not_iter O8.out I8.out); clear o9 k9 kr)
          refine ⟨⟨k + 1, L ++ [itoa vv], A9, c9, by omega, (by rw [Hid, List.length_append, List.length_singleton, hLl.out]), HJ.out, by simp, HLm, O9, I9, K9⟩, ?_⟩
          have h5 : World.iterPos w9 (w5.heap.size + 1) = k + 1 := by
            unfold World.iterPos
            rw [I9.out]
          rw [h5, HIP.out]
          omega
      · have hnx := fun ty => run_next_end_at (P := Tryd.prog) wr (w5.heap.size + 1) ⟨f.toArray⟩ k ty HI.out hlt
        obtain rfl : k = f.length := by omega
        have HTx : Hid (joinL L = textL ⟨op, id, at_, n, data⟩ f) := by
          rw [Hid, HLe.out, List.take_length]
          rfl
        have hLne : L ≠ [] := fun h => by
          have hq := hLl.out
          rw [h] at hq
          cases hq
        have HJo := Lib.hid (lib_Join w5.heap.size L A' c' wr HO.out hLne (by omega) (by have := hLl.out; omega))
        have BR := Lib.hid (B5.out.kept HK.out (fun h => by cases h))
        rw [HTx.out] at HJo
        have htl : (textL ⟨op, id, at_, n, data⟩ f).length ≤ 1000000 := by rw [← HTx.out]; omega
        have HPa := Lib.hid (fun w (h : Laid w) => cmd_Parse (textL ⟨op, id, at_, n, data⟩ f) w h htl)
        unfold ParsePost at HPa
        clear htl HTx hLne
        generalize textL ⟨op, id, at_, n, data⟩ f = tx at *
        generalize parseL tx = px at *
        go_wp2_with fail
        refine HJo.out.mono ?_
        rintro e w6 ⟨rfl, k6⟩
        have K6 := Lib.hid (KR.out.trans k6)
        have B6 := Lib.hid (BR.out.kept k6 (fun h => by cases h))
        have HL6 := Lib.hid (HL5.out.kept (HK.out.trans k6))
        clear k6 HJo
        go_wp2_with fail
        refine (HPa.out _ HL6.out).mono ?_
        rintro e w7 ⟨rfl, k7⟩
        have K7' := Lib.hid (K6.out.trans k7)
        have B7 := Lib.hid (B6.out.kept k7 (fun h => by cases h))
        clear k7 HPa
        cases px with
        | none =>
          have hn := Lib.hid (HNP.out (fun h => by cases h))
          rw [show ((Option.none : Option Cm).getD cm0) = cm0 from rfl, show (if (Option.none : Option Cm).isSome = true then (0 : Int) else 32) = 32 from rfl]
          unfold cmV cm0
          dsimp only
          go_wp2_with fail
          exact HNo.out _ hn.out (K7'.out.alloc _)
        | some px =>
          rw [show ((some px : Option Cm).getD cm0) = px from rfl, show (if (some px : Option Cm).isSome = true then (0 : Int) else 32) = 0 from rfl]
          have K8 := Lib.hid (K7'.out.alloc (.cells (cmC px) 23))
          have B8 := Lib.hid (B7.out.alloc (.cells (cmC px) 23))
          have X8 := Lib.hid (Blk.new w7 23 (cmC px))
          have hz7 : w.heap.size < w7.heap.size := B7.out.lt
          obtain ⟨pop, pid, pat, pn, pdata⟩ := px
          unfold cmV
          unfold cmC at K8 B8 X8
          dsimp only at K8 B8 X8 ⊢
          have c0 := B8.out.cell 0
          have c1 := B8.out.cell 1
          have c2 := B8.out.cell 2
          have c3 := B8.out.cell 3
          have c4 := B8.out.cell 4
          simp only [List.getElem?_toArray, List.getElem?_cons_zero, List.getElem?_cons_succ] at c0 c1 c2 c3 c4
          have x0 := X8.out.cell 0
          have x1 := X8.out.cell 1
          have x2 := X8.out.cell 2
          have x3 := X8.out.cell 3
          have x4 := X8.out.cell 4
          simp only [List.getElem?_toArray, List.getElem?_cons_zero, List.getElem?_cons_succ] at x0 x1 x2 x3 x4
          by_cases hpc : (⟨pop, pid, pat, pn, pdata⟩ : Cm) = ⟨op, id, at_, n, data⟩
          · have hy := Lib.hid (HPY.out (by rw [hpc]))
            injection hpc with q0 q1 q2 q3 q4
            subst q0 q1 q2 q3 q4
            go_wp2_with fail
            exact HYes.out _ _ hy.out K8.out
          · have hn := Lib.hid (HNP.out (fun h => hpc (by injection h)))
            go_wp2_with fail
            all_goals first
              | exact HNo.out _ hn.out K8.out
              | (subst_vars; exact HNo.out _ hn.out K8.out)
              | (exfalso; exact hpc (by simp only [*]))
end Go.Proofs.YtjdambplggiphaaDoor
