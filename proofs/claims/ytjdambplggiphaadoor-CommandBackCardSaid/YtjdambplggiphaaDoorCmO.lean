/- Commands: the program's Parse. -/
import Derived.Test.YtjdambplggiphaaDoorCmN
import Derived.Deep.RegionHeld3
namespace Go.Proofs.YtjdambplggiphaaDoor
open Go.RowKit Go.Lib

theorem results_cparse (tmps : Array Value) (w : World) (b2 : Nat) (c : Cm) (z : Value) (hp : tmps[2]?.getD undef = .pointer (some ⟨b2, 0, none⟩)) (hq : tmps[3]?.getD undef = z) (h0 : Blk w b2 23 (cmC c)) :
    (results Tryd.f9 tmps).run Tryd.prog w = .ok (.tuple #[cmV c, z]) w := by
  have c0 := h0.cell 0
  have c1 := h0.cell 1
  have c2 := h0.cell 2
  have c3 := h0.cell 3
  have c4 := h0.cell 4
  unfold cmC at c0 c1 c2 c3 c4
  simp at c0 c1 c2 c3 c4
  simp [results, hp, hq, asAddr, c0, c1, c2, c3, c4, go_sem, cmV]
theorem forms_kept (w : World) : Calls Tryd.prog 11 #[] w fun e w' => ∃ r, e = .returned (.map (some r)) ∧ Kept [] w w' ∧ w'.heap[r]? = some (.map formsE 6) := by
  refine (cmd_forms w).mono ?_
  rintro e w' ⟨rfl, rfl⟩
  exact ⟨_, rfl, (Kept.refl _ _).alloc _, heap_alloc_new w _⟩
theorem form_low {op f : Bs} (h : frm op = some f) : ∀ x ∈ f, x.toNat < 128 := by
  rcases frm_cases h with ⟨_, rfl⟩ | ⟨_, rfl⟩ | ⟨_, rfl⟩ | ⟨_, rfl⟩ | ⟨_, rfl⟩ | ⟨_, rfl⟩ <;> decide
set_option maxRecDepth 8000 in
set_option maxHeartbeats 4000000 in
theorem cmd_Parse (s : Bs) (w : World) (hL : Laid w) (hs : s.length ≤ 1000000) : Calls Tryd.prog 9 #[.string ⟨s.toArray⟩] w (ParsePost s w) := by
  have HNo := Lib.hid (fun w' (h : parseL s = none) (k : Kept [] w w') => ParsePost.no h k)
  have HYes := Lib.hid (fun w' c (h : parseL s = some c) (k : Kept [] w w') => ParsePost.yes h k)
  have HSp := Lib.hid (fun w (h : Laid w) => lib_Split s hs w h)
  obtain ⟨op, ws, hsp⟩ := spl_ne s
  have hln : ws.length ≤ 1000000 := by
    have h1 := spl_len s
    rw [hsp, List.length_cons] at h1
    have h2 := List.count_le_length (a := (32 : UInt8)) (l := s)
    omega
  have HSz : Hid (∀ x ∈ ws, x.length ≤ 1000000) := fun x hx => by
    have := spl_size s x (by rw [hsp]; exact List.mem_cons_of_mem _ hx)
    omega
  have HNF := Lib.hid (parse_no_form hsp)
  have HNL := Lib.hid (fun f => parse_no_len (f := f) hsp)
  have HPT := Lib.hid (fun f => parse_takes (f := f) hsp)
  rw [hsp] at HSp
  have K0 := Lib.hid ((Kept.refl [] w).alloc (.cells cz 23))
  have B0 := Lib.hid (Blk.new w 23 cz)
  clear hsp
  generalize ParsePost s w = Q at *
  have hll : (op :: ws).length = ws.length + 1 := rfl
  have HL1 := hL.kept K0.out
  unfold cz at K0 B0 HL1
  have HFo := Lib.hid forms_kept
  go_enter Tryd.func9, Tryd.ntmps9
  go_wp2_with fail
  refine (HSp.out _ HL1).mono ?_
  rintro e w1 ⟨A, cA, rfl, ho, k1⟩
  obtain ⟨b, rfl, hbz, d0, _⟩ := ho.at_ (k := 0) (by simp)
  have HO1 := Lib.hid ho
  have K1 := Lib.hid (K0.out.trans k1)
  have B1 := Lib.hid (B0.out.kept k1 (fun h => by cases h))
  have d0' : w1.cell? ⟨b, 0, none⟩ = some (.string ⟨op.toArray⟩) := d0
  clear k1 ho K0 B0 d0 HSp HL1
  have hl0 : (0 : Int) < (ws.length : Int) + 1 := by omega
  rw [hll]
  go_wp2_with fail
  go_region_held3 (fun V => V.cell? ⟨b, 0, none⟩ = some (.string ⟨op.toArray⟩)) (first | exact d0' | exact kk.cell d0' (fun h => by cases h) | go_keep) (first | (go_at_call 11; refine (HFo.out _).mono ?_; rintro e w5 ⟨r5, rfl, k5, hr5⟩; have kk : Kept [] w1 w5 := ((Kept.refl [] w1).drew).trans k5; have hlk := run_form op hr5))
  have K5 := Lib.hid (K1.out.trans kk)
  have B5 := Lib.hid (B1.out.kept kk (fun h => by cases h))
  have O5 := Lib.hid (HO1.out.kept kk)
  have d5 := kk.cell d0' (fun h => by cases h)
  have HL5 := Lib.hid (hL.kept K5.out)
  clear kk d0' hlk HFo k5 hr5 hL K1 B1
  cases hf : frm op with
  | none =>
    have hn := Lib.hid (HNF.out hf)
    have c0 := B5.out.cell 0
    have c1 := B5.out.cell 1
    have c2 := B5.out.cell 2
    have c3 := B5.out.cell 3
    have c4 := B5.out.cell 4
    simp only [List.getElem?_toArray, List.getElem?_cons_zero, List.getElem?_cons_succ] at c0 c1 c2 c3 c4
    have g0 := B5.out.frozen 0
    have g1 := B5.out.frozen 1
    have g2 := B5.out.frozen 2
    have g3 := B5.out.frozen 3
    have g4 := B5.out.frozen 4
    clear hf
    rw [show (Option.none : Option Bs).isSome = false from rfl]
    go_wp2_with fail
    refine bodyPost_ret (results_cparse _ _ w.heap.size cm0 _ rfl rfl (((((B5.out.set_ 0 _).set_ 1 _).set_ 2 _).set_ 3 _).set_ 4 _)) rfl ?_
    exact HNo.out _ hn.out (((((K5.out.setCell (.inr (Nat.le_refl _)) _).setCell (.inr (Nat.le_refl _)) _).setCell (.inr (Nat.le_refl _)) _).setCell (.inr (Nat.le_refl _)) _).setCell (.inr (Nat.le_refl _)) _)
  | some f =>
    have hf3 := form_len hf
    have HLow := Lib.hid (form_low hf)
    rw [show (some f : Option Bs).isSome = true from rfl, show (some f : Option Bs).getD [] = f from rfl]
    by_cases hlen : ws.length = f.length
    · have HT := Lib.hid (HPT.out f hf hlen)
      have HTD := Lib.hid (fun c k (hk : k < f.length) => takes_drop (c := c) hk hlen)
      have hli : ((ws.length : Nat) : Int) = (f.length : Int) := by omega
      have hw1 : IntKind.i64.wrap (1 + (f.length : Int)) = (f.length : Int) + 1 := by rw [show 1 + (f.length : Int) = (f.length : Int) + 1 by omega]; exact IntWalk.i64_in _ (by omega)
      clear hf hll
      rw [hlen]
      have H7 := Lib.hid ((Blk.new w5 23 (cmC ⟨op, 0, 0, 0, []⟩)).alloc (.stringIter ⟨f.toArray⟩ 0))
      have K7 := Lib.hid (((Kept.refl [] w5).alloc (.cells (cmC ⟨op, 0, 0, 0, []⟩) 23)).alloc (.stringIter ⟨f.toArray⟩ 0))
      have I7 := Lib.hid (World.iter_heap (w5.alloc (.cells (cmC ⟨op, 0, 0, 0, []⟩) 23)) ⟨f.toArray⟩ 0)
      have hz15 : w.heap.size < w5.heap.size := B5.out.lt
      have hbl : b < w5.heap.size := block_lt_of_cell d5
      go_wp2_with fail
      clear d5
      go_loopw [8] (fun _ V => ∃ (k : Nat) (cc : Cm), k ≤ f.length ∧ Hid (takesL ⟨op, 0, 0, 0, []⟩ f ws = takesL cc (f.drop k) (ws.drop k)) ∧ Hid (Blk V w5.heap.size 23 (cmC cc)) ∧ Hid (V.heap[w5.heap.size + 1]? = some (.stringIter ⟨f.toArray⟩ k)) ∧ Hid (Kept [] w5 V)) (fun _ V => f.length - V.iterPos (w5.heap.size + 1))
      case atStart =>
        refine ⟨0, ⟨op, 0, 0, 0, []⟩, Nat.zero_le _, rfl, H7, ?_, K7⟩
        have h := I7.out
        rw [show (w5.alloc (.cells (cmC ⟨op, 0, 0, 0, []⟩) 23)).heap.size = w5.heap.size + 1 by simp] at h
        exact h
      case round =>
        obtain ⟨k, cc, hk, HE, H8, HI, HK⟩ := hrel
        have KR := Lib.hid (K5.out.trans HK.out)
        have BR := Lib.hid (B5.out.kept HK.out (fun h => by cases h))
        by_cases hlt : k < f.length
        · have hltw : k < ws.length := by omega
          have hlts : k < (⟨f.toArray⟩ : ByteArray).size := hlt
          have ha := HLow.out f[k] (List.getElem_mem _)
          have hnx := fun ty => run_next_ascii_at (P := Tryd.prog) wr (w5.heap.size + 1) ⟨f.toArray⟩ k ty HI.out hlts ha
          have hcc : (⟨f.toArray⟩ : ByteArray)[k]'hlts = f[k] := rfl
          have KI := Lib.hid (iter_kept (k := w5.heap.size + 1) (s := ⟨f.toArray⟩) (p := k + 1) HK.out (by omega))
          have H8i : Hid (Blk (wr.iterAt (w5.heap.size + 1) ⟨f.toArray⟩ (k + 1)) w5.heap.size 23 (cmC cc)) := (iterAt_other wr (w5.heap.size + 1) w5.heap.size ⟨f.toArray⟩ (k + 1) (by omega)).trans H8.out
          have HI1 : Hid ((wr.iterAt (w5.heap.size + 1) ⟨f.toArray⟩ (k + 1)).heap[w5.heap.size + 1]? = some (.stringIter ⟨f.toArray⟩ (k + 1))) := iterAt_heap wr (w5.heap.size + 1) ⟨f.toArray⟩ k (k + 1) HI.out
          have HIP : Hid ((wr.iterPos (w5.heap.size + 1)) = k) := by
            unfold World.iterPos
            rw [Hid, HI.out]
          obtain ⟨b', e', _, dk, _⟩ := (O5.out.kept KI.out).at_ (k := k + 1) (by simp; omega)
          injection e' with e'
          injection e' with e'
          subst e'
          have dk' : (wr.iterAt (w5.heap.size + 1) ⟨f.toArray⟩ (k + 1)).cell? ⟨b, k + 1, none⟩ = some (.string ⟨ws[k].toArray⟩) := dk
          have hki : (k : Int) < (f.length : Int) := by omega
          have hki1 : (k : Int) + 1 < (f.length : Int) + 1 := by omega
          have hk01 : (0 : Int) ≤ (k : Int) + 1 := by omega
          have hwk : IntKind.i64.wrap (1 + (k : Int)) = (k : Int) + 1 := by rw [show 1 + (k : Int) = (k : Int) + 1 by omega]; exact IntWalk.i64_in _ (by omega)
          have HTk := Lib.hid (HTD.out cc k hlt)
          have HTa := Lib.hid (cmd_take w5 HL5.out w5.heap.size (Nat.le_refl _) cc f[k] ws[k] (wr.iterAt (w5.heap.size + 1) ⟨f.toArray⟩ (k + 1)) KI.out H8i.out (HSz.out _ (List.getElem_mem _)))
          unfold CTakePost at HTa
          clear dk
          go_wp2_with fail
          refine HTa.out.mono ?_
          rintro e w9 ⟨k9, ct, rfl, hb9, ht9⟩
          have K9 : Hid (Kept [] w5 w9) := KI.out.trans' k9 (fun x hx => .inr (by simp at hx; omega))
          have HI9 : Hid (w9.heap[w5.heap.size + 1]? = some (.stringIter ⟨f.toArray⟩ (k + 1))) := k9.heap HI1.out (fun h => by simp at h)
          have HB9 := Lib.hid hb9
          have HT9 := Lib.hid ht9
          have KW := Lib.hid (K5.out.trans K9.out)
          have BW := Lib.hid (B5.out.kept K9.out (fun h => by cases h))
          clear k9 hb9 ht9 HTa
          cases htk : takeL cc f[k] ws[k] with
          | none =>
            have hnn : Hid (parseL s = none) := by rw [Hid, HT.out, HE.out, HTk.out, htk]; rfl
            have x0 := BW.out.cell 0
            have x1 := BW.out.cell 1
            have x2 := BW.out.cell 2
            have x3 := BW.out.cell 3
            have x4 := BW.out.cell 4
            simp only [List.getElem?_toArray, List.getElem?_cons_zero, List.getElem?_cons_succ] at x0 x1 x2 x3 x4
            have y0 := BW.out.frozen 0
            have y1 := BW.out.frozen 1
            have y2 := BW.out.frozen 2
            have y3 := BW.out.frozen 3
            have y4 := BW.out.frozen 4
            rw [show (Option.none : Option Cm).isSome = false from rfl]
            clear htk
            go_wp2_with fail
            refine bodyPost_ret (results_cparse _ _ w.heap.size cm0 _ rfl rfl (((((BW.out.set_ 0 _).set_ 1 _).set_ 2 _).set_ 3 _).set_ 4 _)) rfl ?_
            exact HNo.out _ hnn.out (((((KW.out.setCell (.inr (Nat.le_refl _)) _).setCell (.inr (Nat.le_refl _)) _).setCell (.inr (Nat.le_refl _)) _).setCell (.inr (Nat.le_refl _)) _).setCell (.inr (Nat.le_refl _)) _)
          | some c2 =>
            have hct := HT9.out c2 htk
            subst hct
            have HE2 : Hid (takesL ⟨op, 0, 0, 0, []⟩ f ws = takesL ct (f.drop (k + 1)) (ws.drop (k + 1))) := by rw [Hid, HE.out, HTk.out, htk]; rfl
            rw [show (some ct : Option Cm).isSome = true from rfl]
            clear htk
            go_wp2_with fail
            refine ⟨⟨k + 1, ct, by omega, HE2, HB9, HI9, K9⟩, ?_⟩
            have h5 : World.iterPos w9 (w5.heap.size + 1) = k + 1 := by
              unfold World.iterPos
              rw [HI9.out]
            rw [h5, HIP.out]
            omega
        · have hnx := fun ty => run_next_end_at (P := Tryd.prog) wr (w5.heap.size + 1) ⟨f.toArray⟩ k ty HI.out hlt
          obtain rfl : k = f.length := by omega
          have hl2 : ws.drop f.length = [] := by rw [← hlen, List.drop_length]
          have hy : Hid (parseL s = some cc) := by
            rw [Hid, HT.out, HE.out, List.drop_length, hl2]
            rfl
          obtain ⟨cop, cid, cat_, cn, cdata⟩ := cc
          have c0 := H8.out.cell 0
          have c1 := H8.out.cell 1
          have c2 := H8.out.cell 2
          have c3 := H8.out.cell 3
          have c4 := H8.out.cell 4
          unfold cmC at c0 c1 c2 c3 c4
          simp only [List.getElem?_toArray, List.getElem?_cons_zero, List.getElem?_cons_succ] at c0 c1 c2 c3 c4
          have x0 := BR.out.cell 0
          have x1 := BR.out.cell 1
          have x2 := BR.out.cell 2
          have x3 := BR.out.cell 3
          have x4 := BR.out.cell 4
          simp only [List.getElem?_toArray, List.getElem?_cons_zero, List.getElem?_cons_succ] at x0 x1 x2 x3 x4
          have y0 := BR.out.frozen 0
          have y1 := BR.out.frozen 1
          have y2 := BR.out.frozen 2
          have y3 := BR.out.frozen 3
          have y4 := BR.out.frozen 4
          clear hl2
          go_wp2_with fail
          refine bodyPost_ret (results_cparse _ _ w.heap.size ⟨cop, cid, cat_, cn, cdata⟩ _ rfl rfl (((((BR.out.set_ 0 _).set_ 1 _).set_ 2 _).set_ 3 _).set_ 4 _)) rfl ?_
          exact HYes.out _ _ hy.out (((((KR.out.setCell (.inr (Nat.le_refl _)) _).setCell (.inr (Nat.le_refl _)) _).setCell (.inr (Nat.le_refl _)) _).setCell (.inr (Nat.le_refl _)) _).setCell (.inr (Nat.le_refl _)) _)
    · have hn := Lib.hid (HNL.out f hf hlen)
      have c0 := B5.out.cell 0
      have c1 := B5.out.cell 1
      have c2 := B5.out.cell 2
      have c3 := B5.out.cell 3
      have c4 := B5.out.cell 4
      simp only [List.getElem?_toArray, List.getElem?_cons_zero, List.getElem?_cons_succ] at c0 c1 c2 c3 c4
      have g0 := B5.out.frozen 0
      have g1 := B5.out.frozen 1
      have g2 := B5.out.frozen 2
      have g3 := B5.out.frozen 3
      have g4 := B5.out.frozen 4
      have hw1 : IntKind.i64.wrap (1 + (f.length : Int)) = (f.length : Int) + 1 := by rw [show 1 + (f.length : Int) = (f.length : Int) + 1 by omega]; exact IntWalk.i64_in _ (by omega)
      have hli : ¬ ((ws.length : Nat) : Int) = (f.length : Int) := by omega
      clear hf hll
      go_wp2_with fail
      refine bodyPost_ret (results_cparse _ _ w.heap.size cm0 _ rfl rfl (((((B5.out.set_ 0 _).set_ 1 _).set_ 2 _).set_ 3 _).set_ 4 _)) rfl ?_
      exact HNo.out _ hn.out (((((K5.out.setCell (.inr (Nat.le_refl _)) _).setCell (.inr (Nat.le_refl _)) _).setCell (.inr (Nat.le_refl _)) _).setCell (.inr (Nat.le_refl _)) _).setCell (.inr (Nat.le_refl _)) _)
end Go.Proofs.YtjdambplggiphaaDoor
