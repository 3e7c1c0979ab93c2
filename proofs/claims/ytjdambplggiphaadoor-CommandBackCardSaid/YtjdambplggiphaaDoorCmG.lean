/- Commands: the document's Parse. -/
import Derived.Test.YtjdambplggiphaaDoorCmF
namespace Go.Proofs.YtjdambplggiphaaDoor
open Go.RowKit Go.Lib

def cm0 : Cm := ⟨[], 0, 0, 0, []⟩
def ParsePost (s : Bs) (w : World) (e : Ending) (w' : World) : Prop := e = .returned (.tuple #[cmV ((parseL s).getD cm0), .int .i64 (if (parseL s).isSome then 0 else 32)]) ∧ Kept [] w w'
theorem ParsePost.no {s : Bs} {w w' : World} (h : parseL s = none) (k : Kept [] w w') : ParsePost s w (.returned (.tuple #[cmV cm0, .int .i64 32])) w' := by
  unfold ParsePost
  rw [h]
  exact ⟨rfl, k⟩
theorem ParsePost.yes {s : Bs} {c : Cm} {w w' : World} (h : parseL s = some c) (k : Kept [] w w') : ParsePost s w (.returned (.tuple #[cmV c, .int .i64 0])) w' := by
  unfold ParsePost
  rw [h]
  exact ⟨rfl, k⟩
theorem results_parse (tmps : Array Value) (w : World) (b2 : Nat) (c : Cm) (z : Value) (hp : tmps[2]?.getD undef = .pointer (some ⟨b2, 0, none⟩)) (hq : tmps[3]?.getD undef = z) (h0 : Blk w b2 23 (cmC c)) :
    (results Tryd.f10 tmps).run Tryd.prog w = .ok (.tuple #[cmV c, z]) w := by
  have c0 := h0.cell 0
  have c1 := h0.cell 1
  have c2 := h0.cell 2
  have c3 := h0.cell 3
  have c4 := h0.cell 4
  unfold cmC at c0 c1 c2 c3 c4
  simp at c0 c1 c2 c3 c4
  simp [results, hp, hq, asAddr, c0, c1, c2, c3, c4, go_sem, cmV]
theorem parse_no_form {s op : Bs} {ws : List Bs} (h : spl s = op :: ws) (hf : frm op = none) : parseL s = none := by
  unfold parseL
  rw [h]
  show (frm op).bind _ = none
  rw [hf]
  rfl
theorem parse_no_len {s op f : Bs} {ws : List Bs} (h : spl s = op :: ws) (hf : frm op = some f) (hl : ws.length ≠ f.length) : parseL s = none := by
  unfold parseL
  rw [h]
  show (frm op).bind _ = none
  rw [hf]
  exact if_neg hl
theorem parse_takes {s op f : Bs} {ws : List Bs} (h : spl s = op :: ws) (hf : frm op = some f) (hl : ws.length = f.length) : parseL s = takesL ⟨op, 0, 0, 0, []⟩ f ws := by
  unfold parseL
  rw [h]
  show (frm op).bind _ = _
  rw [hf]
  exact if_pos hl
theorem takes_drop {c : Cm} {f : Bs} {ws : List Bs} {k : Nat} (hk : k < f.length) (hl : ws.length = f.length) : takesL c (f.drop k) (ws.drop k) = (takeL c f[k] (ws[k]'(by omega))).bind fun c' => takesL c' (f.drop (k + 1)) (ws.drop (k + 1)) := by
  rw [List.drop_eq_getElem_cons hk, List.drop_eq_getElem_cons (show k < ws.length by omega)]
  rfl
theorem form_len {op f : Bs} (h : frm op = some f) : f.length ≤ 3 := by
  rcases frm_cases h with ⟨_, rfl⟩ | ⟨_, rfl⟩ | ⟨_, rfl⟩ | ⟨_, rfl⟩ | ⟨_, rfl⟩ | ⟨_, rfl⟩ <;> decide
theorem hold6c {W W' : World} {a b c d f g : Addr} {q u v x y z : Value} (h : W.cell? a = some q ∧ W.cell? b = some u ∧ W.cell? c = some v ∧ W.cell? d = some x ∧ W.cell? f = some y ∧ W.cell? g = some z) (k : Kept [] W W') : W'.cell? a = some q ∧ W'.cell? b = some u ∧ W'.cell? c = some v ∧ W'.cell? d = some x ∧ W'.cell? f = some y ∧ W'.cell? g = some z :=
  ⟨k.cell h.1 (fun h => by cases h), k.cell h.2.1 (fun h => by cases h), k.cell h.2.2.1 (fun h => by cases h), k.cell h.2.2.2.1 (fun h => by cases h), k.cell h.2.2.2.2.1 (fun h => by cases h), k.cell h.2.2.2.2.2 (fun h => by cases h)⟩
def cz : Array Value := #[.string ⟨#[]⟩, .int .i64 0, .int .i64 0, .int .i64 0, .string ⟨#[]⟩]
set_option maxRecDepth 4000 in
set_option maxHeartbeats 4000000 in
theorem ref_Parse (s : Bs) (w : World) (hs : s.length ≤ 1000000) : Calls Tryd.prog 10 #[.string ⟨s.toArray⟩] w (ParsePost s w) := by
  have HNo := Lib.hid (fun w' (h : parseL s = none) (k : Kept [] w w') => ParsePost.no h k)
  have HYes := Lib.hid (fun w' c (h : parseL s = some c) (k : Kept [] w w') => ParsePost.yes h k)
  have HWd := Lib.hid (fun w => ref_Words s w hs)
  unfold WordsPost at HWd
  obtain ⟨op, ws, hsp⟩ := spl_ne s
  have hln : ws.length ≤ 1000000 := by
    have h1 := spl_len s
    rw [hsp, List.length_cons] at h1
    have h2 := List.count_le_length (a := (32 : UInt8)) (l := s)
    omega
  have HSz : Hid (∀ x ∈ ws, x.length ≤ 1000000) := fun x hx => by
    have := spl_size s x (by rw [hsp]; exact List.mem_cons_of_mem _ hx)
    omega
  have HNF := Lib.hid (parse_no_form hsp)
  have HNL := Lib.hid (fun f => parse_no_len (f := f) hsp)
  have HPT := Lib.hid (fun f => parse_takes (f := f) hsp)
  rw [hsp] at HWd
  have K0 := Lib.hid ((Kept.refl [] w).alloc (.cells cz 23))
  have B0 := Lib.hid (Blk.new w 23 cz)
  clear hsp
  generalize ParsePost s w = Q at *
  have hll : (op :: ws).length = ws.length + 1 := rfl
  unfold cz at K0 B0
  go_enter Tryd.func10, Tryd.ntmps10
  go_wp2_with fail
  refine (HWd.out _).mono ?_
  rintro e w1 ⟨A, cA, rfl, ho, k1⟩
  obtain ⟨b, rfl, hbz, d0, _⟩ := ho.at_ (k := 0) (by simp)
  have HO1 := Lib.hid ho
  have K1 := Lib.hid (K0.out.trans k1)
  have B1 := Lib.hid (B0.out.kept k1 (fun h => by cases h))
  have d0' : w1.cell? ⟨b, 0, none⟩ = some (.string ⟨op.toArray⟩) := d0
  clear k1 ho K0 B0 d0 HWd
  have hl0 : (0 : Int) < (ws.length : Int) + 1 := by omega
  rw [hll]
  go_wp2_with fail
  refine (ref_form op _).mono ?_
  rintro e w2 ⟨rfl, rfl⟩
  cases hf : frm op with
  | none =>
    have hn := Lib.hid (HNF.out hf)
    have c0 := B1.out.cell 0
    have c1 := B1.out.cell 1
    have c2 := B1.out.cell 2
    have c3 := B1.out.cell 3
    have c4 := B1.out.cell 4
    have g0 := B1.out.frozen 0
    have g1 := B1.out.frozen 1
    have g2 := B1.out.frozen 2
    have g3 := B1.out.frozen 3
    have g4 := B1.out.frozen 4
    clear hf
    go_wp2_with fail
    refine bodyPost_ret (results_parse _ _ w.heap.size cm0 _ rfl rfl (((((B1.out.set_ 0 _).set_ 1 _).set_ 2 _).set_ 3 _).set_ 4 _)) rfl ?_
    exact HNo.out _ hn.out (((((K1.out.setCell (.inr (Nat.le_refl _)) _).setCell (.inr (Nat.le_refl _)) _).setCell (.inr (Nat.le_refl _)) _).setCell (.inr (Nat.le_refl _)) _).setCell (.inr (Nat.le_refl _)) _)
  | some f =>
    have hf3 := form_len hf
    by_cases hlen : ws.length = f.length
    · have HT := Lib.hid (HPT.out f hf hlen)
      have HTD := Lib.hid (fun c k (hk : k < f.length) => takes_drop (c := c) hk hlen)
      have hli : ((ws.length : Nat) : Int) = (f.length : Int) := by omega
      have hw1 : IntKind.i64.wrap (1 + (f.length : Int)) = (f.length : Int) + 1 := by rw [show 1 + (f.length : Int) = (f.length : Int) + 1 by omega]; exact IntWalk.i64_in _ (by omega)
      clear hf hll
      rw [hlen]
      go_wp2_with fail
      have H7 := Lib.hid (Blk.new w1 23 (cmC ⟨op, 0, 0, 0, []⟩))
      have K7 := Lib.hid ((Kept.refl [] w1).alloc (.cells (cmC ⟨op, 0, 0, 0, []⟩) 23))
      have hz17 : w.heap.size < w1.heap.size := B1.out.lt
      have hbl : b < w1.heap.size := block_lt_of_cell d0'
      have hne1 : ¬ w.heap.size = w1.heap.size := by omega
      have hne2 : ¬ w1.heap.size = w.heap.size := by omega
      clear d0'
      go_loopw [8] (fun i V => ∃ (k : Nat) (cc : Cm), k ≤ f.length ∧ i = .int .i64 k ∧ Hid (takesL ⟨op, 0, 0, 0, []⟩ f ws = takesL cc (f.drop k) (ws.drop k)) ∧ Hid (Blk V w1.heap.size 23 (cmC cc)) ∧ Hid (Kept [] w1 V)) (fun i _ => f.length - (intOf i).toNat)
      case atStart => exact ⟨0, ⟨op, 0, 0, 0, []⟩, Nat.zero_le _, rfl, rfl, H7, K7⟩
      case round =>
        obtain ⟨k, cc, hk, rfl, HE, H8, HK⟩ := hrel
        have KR := Lib.hid (K1.out.trans HK.out)
        have BR := Lib.hid (B1.out.kept HK.out (fun h => by cases h))
        have hzr : w1.heap.size < wr.heap.size := H8.out.lt
        by_cases hlt : k < f.length
        · have hltw : k < ws.length := by omega
          obtain ⟨b', e', _, dk, _⟩ := (HO1.out.kept HK.out).at_ (k := k + 1) (by simp; omega)
          injection e' with e'
          injection e' with e'
          subst e'
          have dk' : wr.cell? ⟨b, k + 1, none⟩ = some (.string ⟨ws[k].toArray⟩) := dk
          have hb : (⟨f.toArray⟩ : ByteArray)[k]'hlt = f[k] := rfl
          have hki : (k : Int) < (f.length : Int) := by omega
          have hki1 : (k : Int) + 1 < (f.length : Int) + 1 := by omega
          have hk01 : (0 : Int) ≤ (k : Int) + 1 := by omega
          have hwk : IntKind.i64.wrap (1 + (k : Int)) = (k : Int) + 1 := by rw [show 1 + (k : Int) = (k : Int) + 1 by omega]; exact IntWalk.i64_in _ (by omega)
          have hwk2 : IntKind.i64.wrap ((k : Int) + 1) = (k : Int) + 1 := IntWalk.i64_in _ (by omega)
          have HTk := Lib.hid (HTD.out cc k hlt)
          have HTa : Hid (∀ w, Calls Tryd.prog 22 #[cmV cc, .int .u8 (f[k].toNat : Int), .string ⟨ws[k].toArray⟩] w fun e w' => Kept [] w w' ∧ ∃ (top : Bs) (tid tat tn : Int) (tdata : Bs), e = .returned (.tuple #[.agg #[.string ⟨top.toArray⟩, .int .i64 tid, .int .i64 tat, .int .i64 tn, .string ⟨tdata.toArray⟩], .bool (takeL cc f[k] ws[k]).isSome]) ∧ ∀ c2, takeL cc f[k] ws[k] = some c2 → (⟨top, tid, tat, tn, tdata⟩ : Cm) = c2) := fun w => (ref_take cc f[k] ws[k] w (HSz.out _ (List.getElem_mem _))).mono (by
            rintro e w' ⟨kk, ⟨x1, x2, x3, x4, x5⟩, h1, h2⟩
            exact ⟨kk, x1, x2, x3, x4, x5, h1, h2⟩)
          generalize f[k] = fc at *
          generalize ws[k] = wd at *
          have c0 := H8.out.cell 0
          have c1 := H8.out.cell 1
          have c2 := H8.out.cell 2
          have c3 := H8.out.cell 3
          have c4 := H8.out.cell 4
          obtain ⟨cop, cid, cat_, cn, cdata⟩ := cc
          unfold cmV at HTa
          dsimp only at HTa
          unfold cmC at c0 c1 c2 c3 c4
          dsimp only at c0 c1 c2 c3 c4
          simp only [List.getElem?_toArray, List.getElem?_cons_zero, List.getElem?_cons_succ] at c0 c1 c2 c3 c4
          clear dk
          have H6 := And.intro c0 (And.intro c1 (And.intro c2 (And.intro c3 (And.intro c4 dk'))))
          have n5 : ¬ w1.heap.size = wr.heap.size := by omega
          have n6 : ¬ wr.heap.size = w1.heap.size := by omega
          have n7 : ¬ b = wr.heap.size := by omega
          have n8 : ¬ wr.heap.size = b := by omega
          go_wp2_with fail
          go_region_held3 (fun V => V.cell? ⟨w1.heap.size, 0, none⟩ = some (.string ⟨cop.toArray⟩) ∧ V.cell? ⟨w1.heap.size, 1, none⟩ = some (.int .i64 cid) ∧ V.cell? ⟨w1.heap.size, 2, none⟩ = some (.int .i64 cat_) ∧ V.cell? ⟨w1.heap.size, 3, none⟩ = some (.int .i64 cn) ∧ V.cell? ⟨w1.heap.size, 4, none⟩ = some (.string ⟨cdata.toArray⟩) ∧ V.cell? ⟨b, k + 1, none⟩ = some (.string ⟨wd.toArray⟩)) (first | with_reducible exact hold6c H6 ((Kept.refl [] wr).drew) | with_reducible exact hold6c H6 kt | with_reducible exact hold6c H6 (kt.alloc _) | with_reducible exact hold6c H6 (((((kt.setCell (.inr (Nat.le_refl _)) _).setCell (.inr (Nat.le_refl _)) _).setCell (.inr (Nat.le_refl _)) _).setCell (.inr (Nat.le_refl _)) _).setCell (.inr (Nat.le_refl _)) _) | go_keep) (first | (go_at_call 22; refine (HTa.out _).mono ?_; rintro e w9 ⟨k9, top, tid, tat, tn, tdata, rfl, ht⟩; have kt : Kept [] wr w9 := (by first | exact ((Kept.refl [] wr).drew).trans k9 | exact (((Kept.refl [] wr).alloc _).drew).trans k9); have HTt := Lib.hid ht; have n1 : ¬ w1.heap.size = w9.heap.size := (by have := kt.size; omega); have n2 : ¬ w9.heap.size = w1.heap.size := (fun h => n1 h.symm); have n3 : ¬ b = w9.heap.size := (by have := kt.size; omega); have n4 : ¬ w9.heap.size = b := (fun h => n3 h.symm); (first | (have zb := (show Blk ((wr.alloc (.cells cz 23)).drew) wr.heap.size 23 cz from Blk.new wr _ _).kept k9 (fun h => by cases h); have z0 := zb.cell 0; have z1 := zb.cell 1; have z2 := zb.cell 2; have z3 := zb.cell 3; have z4 := zb.cell 4; have y0 := zb.frozen 0; have y1 := zb.frozen 1; have y2 := zb.frozen 2; have y3 := zb.frozen 3; have y4 := zb.frozen 4; simp [cz] at z0 z1 z2 z3 z4; have ZB := Lib.hid zb; clear zb) | skip); clear k9 ht))
          · have KV := kt.alloc (.cells #[.string ⟨top.toArray⟩, .int .i64 tid, .int .i64 tat, .int .i64 tn, .string ⟨tdata.toArray⟩] 23)
            have BV := Blk.new w9 23 #[.string ⟨top.toArray⟩, .int .i64 tid, .int .i64 tat, .int .i64 tn, .string ⟨tdata.toArray⟩]
            have hgz := kt.size
            generalize w9.heap.size = g at *
            generalize w9.alloc (.cells #[.string ⟨top.toArray⟩, .int .i64 tid, .int .i64 tat, .int .i64 tn, .string ⟨tdata.toArray⟩] 23) = V at *
            have hgb : ¬ g = w1.heap.size := by omega
            have hgb2 : ¬ w1.heap.size = g := by omega
            have v0 := BV.cell 0
            have v1 := BV.cell 1
            have v2 := BV.cell 2
            have v3 := BV.cell 3
            have v4 := BV.cell 4
            simp only [List.getElem?_toArray, List.getElem?_cons_zero, List.getElem?_cons_succ] at v0 v1 v2 v3 v4
            have H8' := Lib.hid (H8.out.kept KV (fun h => by cases h))
            have BV' := Lib.hid BV
            have KV' := Lib.hid (HK.out.trans KV)
            have KW' := Lib.hid (KR.out.trans KV)
            have BR' := Lib.hid (BR.out.kept KV (fun h => by cases h))
            clear KV BV H6 c0 c1 c2 c3 c4 dk' kt
            cases htk : takeL ⟨cop, cid, cat_, cn, cdata⟩ fc wd with
            | none =>
              have hn := Lib.hid (HNo.out)
              have hnn : Hid (parseL s = none) := by rw [Hid, HT.out, HE.out, HTk.out, htk]; rfl
              have x0 := BR'.out.cell 0
              have x1 := BR'.out.cell 1
              have x2 := BR'.out.cell 2
              have x3 := BR'.out.cell 3
              have x4 := BR'.out.cell 4
              have y0 := BR'.out.frozen 0
              have y1 := BR'.out.frozen 1
              have y2 := BR'.out.frozen 2
              have y3 := BR'.out.frozen 3
              have y4 := BR'.out.frozen 4
              rw [Option.isSome_none]
              clear htk
              go_wp2_with fail
              refine bodyPost_ret (results_parse _ _ w.heap.size cm0 _ rfl rfl (((((BR'.out.set_ 0 _).set_ 1 _).set_ 2 _).set_ 3 _).set_ 4 _)) rfl ?_
              exact HNo.out _ hnn.out (((((KW'.out.setCell (.inr (Nat.le_refl _)) _).setCell (.inr (Nat.le_refl _)) _).setCell (.inr (Nat.le_refl _)) _).setCell (.inr (Nat.le_refl _)) _).setCell (.inr (Nat.le_refl _)) _)
            | some ct =>
              have hct := HTt.out ct htk
              subst hct
              have HE2 : Hid (takesL ⟨op, 0, 0, 0, []⟩ f ws = takesL ⟨top, tid, tat, tn, tdata⟩ (f.drop (k + 1)) (ws.drop (k + 1))) := by rw [Hid, HE.out, HTk.out, htk]; rfl
              have x0 := H8'.out.cell 0
              have x1 := H8'.out.cell 1
              have x2 := H8'.out.cell 2
              have x3 := H8'.out.cell 3
              have x4 := H8'.out.cell 4
              have y0 := H8'.out.frozen 0
              have y1 := H8'.out.frozen 1
              have y2 := H8'.out.frozen 2
              have y3 := H8'.out.frozen 3
              have y4 := H8'.out.frozen 4
              unfold cmC at x0 x1 x2 x3 x4
              simp only [List.getElem?_toArray, List.getElem?_cons_zero, List.getElem?_cons_succ] at x0 x1 x2 x3 x4
              rw [Option.isSome_some]
              clear htk
              go_wp2_with fail
              go_roundw
              case rel => exact ⟨k + 1, ⟨top, tid, tat, tn, tdata⟩, by omega, by go_num, HE2, Lib.hid (((((H8'.out.set_ 0 _).set_ 1 _).set_ 2 _).set_ 3 _).set_ 4 _), Lib.hid (((((KV'.out.setCell (.inr (Nat.le_refl _)) _).setCell (.inr (Nat.le_refl _)) _).setCell (.inr (Nat.le_refl _)) _).setCell (.inr (Nat.le_refl _)) _).setCell (.inr (Nat.le_refl _)) _)⟩
              case measure => simp [intOf]; omega
          · have KV := (((((kt.setCell (p := ⟨wr.heap.size, 0, none⟩) (.inr (Nat.le_refl _)) (.string ⟨top.toArray⟩)).setCell (p := ⟨wr.heap.size, 1, none⟩) (.inr (Nat.le_refl _)) (.int .i64 tid)).setCell (p := ⟨wr.heap.size, 2, none⟩) (.inr (Nat.le_refl _)) (.int .i64 tat)).setCell (p := ⟨wr.heap.size, 3, none⟩) (.inr (Nat.le_refl _)) (.int .i64 tn)).setCell (p := ⟨wr.heap.size, 4, none⟩) (.inr (Nat.le_refl _)) (.string ⟨tdata.toArray⟩))
            have BV : Blk (((((w9.setCell ⟨wr.heap.size, 0, none⟩ (.string ⟨top.toArray⟩)).setCell ⟨wr.heap.size, 1, none⟩ (.int .i64 tid)).setCell ⟨wr.heap.size, 2, none⟩ (.int .i64 tat)).setCell ⟨wr.heap.size, 3, none⟩ (.int .i64 tn)).setCell ⟨wr.heap.size, 4, none⟩ (.string ⟨tdata.toArray⟩)) wr.heap.size 23 #[.string ⟨top.toArray⟩, .int .i64 tid, .int .i64 tat, .int .i64 tn, .string ⟨tdata.toArray⟩] := ((((ZB.out.set_ 0 _).set_ 1 _).set_ 2 _).set_ 3 _).set_ 4 _
            have hgz := Nat.le_refl wr.heap.size
            clear z0 z1 z2 z3 z4 ZB
            generalize ((((w9.setCell ⟨wr.heap.size, 0, none⟩ (.string ⟨top.toArray⟩)).setCell ⟨wr.heap.size, 1, none⟩ (.int .i64 tid)).setCell ⟨wr.heap.size, 2, none⟩ (.int .i64 tat)).setCell ⟨wr.heap.size, 3, none⟩ (.int .i64 tn)).setCell ⟨wr.heap.size, 4, none⟩ (.string ⟨tdata.toArray⟩) = V at *
            have hgb : ¬ wr.heap.size = w1.heap.size := by omega
            have hgb2 : ¬ w1.heap.size = wr.heap.size := by omega
            have v0 := BV.cell 0
            have v1 := BV.cell 1
            have v2 := BV.cell 2
            have v3 := BV.cell 3
            have v4 := BV.cell 4
            simp only [List.getElem?_toArray, List.getElem?_cons_zero, List.getElem?_cons_succ] at v0 v1 v2 v3 v4
            have H8' := Lib.hid (H8.out.kept KV (fun h => by cases h))
            have BV' := Lib.hid BV
            have KV' := Lib.hid (HK.out.trans KV)
            have KW' := Lib.hid (KR.out.trans KV)
            have BR' := Lib.hid (BR.out.kept KV (fun h => by cases h))
            clear KV BV H6 c0 c1 c2 c3 c4 dk' kt
            cases htk : takeL ⟨cop, cid, cat_, cn, cdata⟩ fc wd with
            | none =>
              have hn := Lib.hid (HNo.out)
              have hnn : Hid (parseL s = none) := by rw [Hid, HT.out, HE.out, HTk.out, htk]; rfl
              have x0 := BR'.out.cell 0
              have x1 := BR'.out.cell 1
              have x2 := BR'.out.cell 2
              have x3 := BR'.out.cell 3
              have x4 := BR'.out.cell 4
              have y0 := BR'.out.frozen 0
              have y1 := BR'.out.frozen 1
              have y2 := BR'.out.frozen 2
              have y3 := BR'.out.frozen 3
              have y4 := BR'.out.frozen 4
              rw [Option.isSome_none]
              clear htk
              go_wp2_with fail
              refine bodyPost_ret (results_parse _ _ w.heap.size cm0 _ rfl rfl (((((BR'.out.set_ 0 _).set_ 1 _).set_ 2 _).set_ 3 _).set_ 4 _)) rfl ?_
              exact HNo.out _ hnn.out (((((KW'.out.setCell (.inr (Nat.le_refl _)) _).setCell (.inr (Nat.le_refl _)) _).setCell (.inr (Nat.le_refl _)) _).setCell (.inr (Nat.le_refl _)) _).setCell (.inr (Nat.le_refl _)) _)
            | some ct =>
              have hct := HTt.out ct htk
              subst hct
              have HE2 : Hid (takesL ⟨op, 0, 0, 0, []⟩ f ws = takesL ⟨top, tid, tat, tn, tdata⟩ (f.drop (k + 1)) (ws.drop (k + 1))) := by rw [Hid, HE.out, HTk.out, htk]; rfl
              have x0 := H8'.out.cell 0
              have x1 := H8'.out.cell 1
              have x2 := H8'.out.cell 2
              have x3 := H8'.out.cell 3
              have x4 := H8'.out.cell 4
              have y0 := H8'.out.frozen 0
              have y1 := H8'.out.frozen 1
              have y2 := H8'.out.frozen 2
              have y3 := H8'.out.frozen 3
              have y4 := H8'.out.frozen 4
              unfold cmC at x0 x1 x2 x3 x4
              simp only [List.getElem?_toArray, List.getElem?_cons_zero, List.getElem?_cons_succ] at x0 x1 x2 x3 x4
              rw [Option.isSome_some]
              clear htk
              go_wp2_with fail
              go_roundw
              case rel => exact ⟨k + 1, ⟨top, tid, tat, tn, tdata⟩, by omega, by go_num, HE2, Lib.hid (((((H8'.out.set_ 0 _).set_ 1 _).set_ 2 _).set_ 3 _).set_ 4 _), Lib.hid (((((KV'.out.setCell (.inr (Nat.le_refl _)) _).setCell (.inr (Nat.le_refl _)) _).setCell (.inr (Nat.le_refl _)) _).setCell (.inr (Nat.le_refl _)) _).setCell (.inr (Nat.le_refl _)) _)⟩
              case measure => simp [intOf]; omega
          · have KV := (((((kt.setCell (p := ⟨wr.heap.size, 0, none⟩) (.inr (Nat.le_refl _)) (.string ⟨top.toArray⟩)).setCell (p := ⟨wr.heap.size, 1, none⟩) (.inr (Nat.le_refl _)) (.int .i64 tid)).setCell (p := ⟨wr.heap.size, 2, none⟩) (.inr (Nat.le_refl _)) (.int .i64 tat)).setCell (p := ⟨wr.heap.size, 3, none⟩) (.inr (Nat.le_refl _)) (.int .i64 tn)).setCell (p := ⟨wr.heap.size, 4, none⟩) (.inr (Nat.le_refl _)) (.string ⟨tdata.toArray⟩))
            have BV : Blk (((((w9.setCell ⟨wr.heap.size, 0, none⟩ (.string ⟨top.toArray⟩)).setCell ⟨wr.heap.size, 1, none⟩ (.int .i64 tid)).setCell ⟨wr.heap.size, 2, none⟩ (.int .i64 tat)).setCell ⟨wr.heap.size, 3, none⟩ (.int .i64 tn)).setCell ⟨wr.heap.size, 4, none⟩ (.string ⟨tdata.toArray⟩)) wr.heap.size 23 #[.string ⟨top.toArray⟩, .int .i64 tid, .int .i64 tat, .int .i64 tn, .string ⟨tdata.toArray⟩] := ((((ZB.out.set_ 0 _).set_ 1 _).set_ 2 _).set_ 3 _).set_ 4 _
            have hgz := Nat.le_refl wr.heap.size
            clear z0 z1 z2 z3 z4 ZB
            generalize ((((w9.setCell ⟨wr.heap.size, 0, none⟩ (.string ⟨top.toArray⟩)).setCell ⟨wr.heap.size, 1, none⟩ (.int .i64 tid)).setCell ⟨wr.heap.size, 2, none⟩ (.int .i64 tat)).setCell ⟨wr.heap.size, 3, none⟩ (.int .i64 tn)).setCell ⟨wr.heap.size, 4, none⟩ (.string ⟨tdata.toArray⟩) = V at *
            have hgb : ¬ wr.heap.size = w1.heap.size := by omega
            have hgb2 : ¬ w1.heap.size = wr.heap.size := by omega
            have v0 := BV.cell 0
            have v1 := BV.cell 1
            have v2 := BV.cell 2
            have v3 := BV.cell 3
            have v4 := BV.cell 4
            simp only [List.getElem?_toArray, List.getElem?_cons_zero, List.getElem?_cons_succ] at v0 v1 v2 v3 v4
            have H8' := Lib.hid (H8.out.kept KV (fun h => by cases h))
            have BV' := Lib.hid BV
            have KV' := Lib.hid (HK.out.trans KV)
            have KW' := Lib.hid (KR.out.trans KV)
            have BR' := Lib.hid (BR.out.kept KV (fun h => by cases h))
            clear KV BV H6 c0 c1 c2 c3 c4 dk' kt
            cases htk : takeL ⟨cop, cid, cat_, cn, cdata⟩ fc wd with
            | none =>
              have hn := Lib.hid (HNo.out)
              have hnn : Hid (parseL s = none) := by rw [Hid, HT.out, HE.out, HTk.out, htk]; rfl
              have x0 := BR'.out.cell 0
              have x1 := BR'.out.cell 1
              have x2 := BR'.out.cell 2
              have x3 := BR'.out.cell 3
              have x4 := BR'.out.cell 4
              have y0 := BR'.out.frozen 0
              have y1 := BR'.out.frozen 1
              have y2 := BR'.out.frozen 2
              have y3 := BR'.out.frozen 3
              have y4 := BR'.out.frozen 4
              rw [Option.isSome_none]
              clear htk
              go_wp2_with fail
              refine bodyPost_ret (results_parse _ _ w.heap.size cm0 _ rfl rfl (((((BR'.out.set_ 0 _).set_ 1 _).set_ 2 _).set_ 3 _).set_ 4 _)) rfl ?_
              exact HNo.out _ hnn.out (((((KW'.out.setCell (.inr (Nat.le_refl _)) _).setCell (.inr (Nat.le_refl _)) _).setCell (.inr (Nat.le_refl _)) _).setCell (.inr (Nat.le_refl _)) _).setCell (.inr (Nat.le_refl _)) _)
            | some ct =>
              have hct := HTt.out ct htk
              subst hct
              have HE2 : Hid (takesL ⟨op, 0, 0, 0, []⟩ f ws = takesL ⟨top, tid, tat, tn, tdata⟩ (f.drop (k + 1)) (ws.drop (k + 1))) := by rw [Hid, HE.out, HTk.out, htk]; rfl
              have x0 := H8'.out.cell 0
              have x1 := H8'.out.cell 1
              have x2 := H8'.out.cell 2
              have x3 := H8'.out.cell 3
              have x4 := H8'.out.cell 4
              have y0 := H8'.out.frozen 0
              have y1 := H8'.out.frozen 1
              have y2 := H8'.out.frozen 2
              have y3 := H8'.out.frozen 3
              have y4 := H8'.out.frozen 4
              unfold cmC at x0 x1 x2 x3 x4
              simp only [List.getElem?_toArray, List.getElem?_cons_zero, List.getElem?_cons_succ] at x0 x1 x2 x3 x4
              rw [Option.isSome_some]
              clear htk
              go_wp2_with fail
              go_roundw
              case rel => exact ⟨k + 1, ⟨top, tid, tat, tn, tdata⟩, by omega, by go_num, HE2, Lib.hid (((((H8'.out.set_ 0 _).set_ 1 _).set_ 2 _).set_ 3 _).set_ 4 _), Lib.hid (((((KV'.out.setCell (.inr (Nat.le_refl _)) _).setCell (.inr (Nat.le_refl _)) _).setCell (.inr (Nat.le_refl _)) _).setCell (.inr (Nat.le_refl _)) _).setCell (.inr (Nat.le_refl _)) _)⟩
              case measure => simp [intOf]; omega
        · obtain rfl : k = f.length := by omega
          have hl2 : ws.drop f.length = [] := by rw [← hlen, List.drop_length]
          have hy : Hid (parseL s = some cc) := by
            rw [Hid, HT.out, HE.out, List.drop_length, hl2]
            rfl
          obtain ⟨cop, cid, cat_, cn, cdata⟩ := cc
          have c0 := H8.out.cell 0
          have c1 := H8.out.cell 1
          have c2 := H8.out.cell 2
          have c3 := H8.out.cell 3
          have c4 := H8.out.cell 4
          unfold cmC at c0 c1 c2 c3 c4
          simp only [List.getElem?_toArray, List.getElem?_cons_zero, List.getElem?_cons_succ] at c0 c1 c2 c3 c4
          have x0 := BR.out.cell 0
          have x1 := BR.out.cell 1
          have x2 := BR.out.cell 2
          have x3 := BR.out.cell 3
          have x4 := BR.out.cell 4
          have y0 := BR.out.frozen 0
          have y1 := BR.out.frozen 1
          have y2 := BR.out.frozen 2
          have y3 := BR.out.frozen 3
          have y4 := BR.out.frozen 4
          clear hl2
          go_wp2_with fail
          refine bodyPost_ret (results_parse _ _ w.heap.size ⟨cop, cid, cat_, cn, cdata⟩ _ rfl rfl (((((BR.out.set_ 0 _).set_ 1 _).set_ 2 _).set_ 3 _).set_ 4 _)) rfl ?_
          exact HYes.out _ _ hy.out (((((KR.out.setCell (.inr (Nat.le_refl _)) _).setCell (.inr (Nat.le_refl _)) _).setCell (.inr (Nat.le_refl _)) _).setCell (.inr (Nat.le_refl _)) _).setCell (.inr (Nat.le_refl _)) _)
    · have hn := Lib.hid (HNL.out f hf hlen)
      have c0 := B1.out.cell 0
      have c1 := B1.out.cell 1
      have c2 := B1.out.cell 2
      have c3 := B1.out.cell 3
      have c4 := B1.out.cell 4
      have g0 := B1.out.frozen 0
      have g1 := B1.out.frozen 1
      have g2 := B1.out.frozen 2
      have g3 := B1.out.frozen 3
      have g4 := B1.out.frozen 4
      have hw1 : IntKind.i64.wrap (1 + (f.length : Int)) = (f.length : Int) + 1 := by rw [show 1 + (f.length : Int) = (f.length : Int) + 1 by omega]; exact IntWalk.i64_in _ (by omega)
      have hli : ¬ ((ws.length : Nat) : Int) = (f.length : Int) := by omega
      clear hf hll
      go_wp2_with fail
      refine bodyPost_ret (results_parse _ _ w.heap.size cm0 _ rfl rfl (((((B1.out.set_ 0 _).set_ 1 _).set_ 2 _).set_ 3 _).set_ 4 _)) rfl ?_
      exact HNo.out _ hn.out (((((K1.out.setCell (.inr (Nat.le_refl _)) _).setCell (.inr (Nat.le_refl _)) _).setCell (.inr (Nat.le_refl _)) _).setCell (.inr (Nat.le_refl _)) _).setCell (.inr (Nat.le_refl _)) _)
end Go.Proofs.YtjdambplggiphaaDoor
