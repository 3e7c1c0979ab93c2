/- Dumps: the law DumpBack. -/
import Derived.Test.YtooplogodcadgaaDoorDvE
namespace Go.Proofs.YtooplogodcadgaaDoor
open Go.RowKit Go.Lib

theorem gens_of {r : Rp} {l : List Bs} {ps : List Pr} (h : linesD r = some l) (hp : ps.map (·.1) = r.lines) : ∀ p ∈ ps, in32 p.1.gen = true := fun p hpm => by
  obtain ⟨_, h2, _⟩ := lines_parts h
  exact (okS_parts (h2 p.1 (hp ▸ List.mem_map.2 ⟨p, hpm, rfl⟩))).1 _ (by simp [numsS])
theorem resP_none {l : List Bs} (h : parseD l = none) : resP l = ⟨0, 0, 0, []⟩ ∧ errP l = 32 := by
  unfold resP errP
  rw [h]
  exact ⟨rfl, rfl⟩
theorem resP_some {l : List Bs} {r : Rp} (h : parseD l = some r) : resP l = r ∧ errP l = 0 := by
  unfold resP errP
  rw [h]
  exact ⟨rfl, rfl⟩
theorem small_texts {r : Rp} {L : List Bs} (h : linesD r = some L) (hn : r.lines.length ≤ 60) (he : ∀ x ∈ r.lines, x.ents.length ≤ 60) : L.length ≤ 100000 ∧ ∀ x ∈ L, x.length ≤ 100000 := by
  obtain ⟨h1, h2, e⟩ := lines_parts h
  have hl := flat_le he
  refine ⟨by rw [e, List.length_cons]; omega, fun x hx => ?_⟩
  rw [e] at hx
  rcases List.mem_cons.1 hx with rfl | hx
  · have h3 := hash_len (f := tD) (ns := [r.sec, r.org, r.chk]) (List.all_eq_true.1 h1)
    rw [line_disk] at h3
    have h4 : tD.length ≤ 100 := by decide
    show (headL r).length ≤ _
    unfold headL
    omega
  · obtain ⟨y, hy, hxy⟩ := List.mem_flatMap.1 hx
    obtain ⟨g1, g2, g3⟩ := okS_parts (h2 y hy)
    rcases List.mem_cons.1 hxy with rfl | hxy
    · have h3 := hash_len (f := tS (decide (y.state = 2)) y.inv) (ns := numsS y) g1
      unfold numsS at h3
      rw [line_slot] at h3
      have h4 : (tS (decide (y.state = 2)) y.inv).length ≤ 100 := by
        cases decide (y.state = 2) <;> cases y.inv <;> decide
      show (slotLine y).length ≤ _
      unfold slotLine numsS
      omega
    · obtain ⟨en, hen, rfl⟩ := List.mem_map.1 hxy
      have h5 := g3 en hen
      rw [← okE_two] at h5
      have h3 := hash_len (f := tE) (ns := [en.o, en.i]) (List.all_eq_true.1 h5)
      rw [line_ent] at h3
      have h4 : tE.length ≤ 100 := by decide
      show (entLine en).length ≤ _
      unfold entLine
      omega
/-- eight cells of two boxes -/
def S8 (g1 g2 : Nat) (a b c V1 V2 : Value) (W : World) : Prop := W.cell? ⟨g1, 0, none⟩ = some a ∧ W.cell? ⟨g1, 1, none⟩ = some b ∧ W.cell? ⟨g1, 2, none⟩ = some c ∧ W.cell? ⟨g1, 3, none⟩ = some V1 ∧ W.cell? ⟨g2, 0, none⟩ = some a ∧ W.cell? ⟨g2, 1, none⟩ = some b ∧ W.cell? ⟨g2, 2, none⟩ = some c ∧ W.cell? ⟨g2, 3, none⟩ = some V2
theorem S8.kept {g1 g2 : Nat} {a b c V1 V2 : Value} {w w' : World} (h : S8 g1 g2 a b c V1 V2 w) (k : Kept [] w w') : S8 g1 g2 a b c V1 V2 w' := by
  obtain ⟨h0, h1, h2, h3, h4, h5, h6, h7⟩ := h
  have hn : ∀ x : Nat, x ∉ ([] : List Nat) := fun _ h => by cases h
  exact ⟨k.cell h0 (hn _), k.cell h1 (hn _), k.cell h2 (hn _), k.cell h3 (hn _), k.cell h4 (hn _), k.cell h5 (hn _), k.cell h6 (hn _), k.cell h7 (hn _)⟩
theorem TRd.tail {w : World} {g : Nat} {s : Bs} {t : List Bs} (h : TRd w (some ⟨g, 0, none⟩) (s :: t)) : TRd w (some ⟨g, 1, none⟩) t := by
  refine ⟨by simp, fun _ => ?_⟩
  obtain ⟨b, o, e, hb, hc⟩ := h.2 (by simp)
  injection e with e
  injection e with e1 e2
  subst e1
  subst e2
  refine ⟨g, 1, rfl, hb, fun j u hu => ?_⟩
  have := hc (j + 1) u (by simpa using hu)
  rwa [show 0 + (j + 1) = 1 + j by omega] at this
set_option maxRecDepth 8000 in
set_option maxHeartbeats 8000000 in
theorem law_DumpBack (a b c : Int) (A : Option Addr) (cA : Nat) (ps : List Pr) (A2 : Option Addr) (c2 : Nat) (l : List Bs) (w : World) (hL : Laid w) (hr : LRd w A ps) (hg : ∀ p ∈ ps, in32 p.1.gen = true) (hn : ps.length ≤ maxLen) (hT : TRd w A2 l) (hc : l.length ≤ c2) (hm : l.length ≤ maxLen) (hs : ∀ x ∈ l, x.length ≤ maxLen) :
    Calls Tryd.prog 5 #[repV a b c (.slice A ps.length cA), .slice A2 l.length c2] w fun e w' => e = .returned (.bool true) ∧ Kept [] w w' := by
  have HA := Lib.hid hr
  have HG := Lib.hid hg
  have HT := Lib.hid hT
  have HLd := Lib.hid hL
  have R0 := Lib.hid (Blk.new w 26 #[.int .i64 a, .int .i64 b, .int .i64 c, .slice A ps.length cA])
  have k0 := (Kept.refl [] w).alloc (.cells #[.int .i64 a, .int .i64 b, .int .i64 c, .slice A ps.length cA] 26)
  have HFi := Lib.hid (law_fits a b c A cA ps _ (hr.kept k0) hn)
  unfold FitsPost repV at HFi
  have HTx : Hid (∀ V, Kept [] w V → Calls Tryd.prog 12 #[.slice A2 l.length c2] V (TextsPost l V)) := fun V k => law_texts A2 c2 l V (hT.kept k) hm hs
  unfold TextsPost at HTx
  replace k0 := Lib.hid k0
  have HAl : Hid (∀ V, Kept [] w V → Calls Tryd.prog 7 #[] V fun e w' => e = .returned (.bool true) ∧ Kept [] V w') := fun V k => dump_alive V (hL.kept k)
  clear hL hr hg hT hs
  unfold repV
  go_enter Tryd.func5, Tryd.ntmps5
  go_wp2_with fail
  refine HFi.out.mono ?_
  rintro e w1 ⟨v1, rfl, hv1, k1⟩
  have K1 := Lib.hid (k0.out.trans k1)
  have R1 := Lib.hid (R0.out.kept k1 (fun h => by cases h))
  clear k1 HFi
  go_wp2_with fail
  refine (HTx.out _ K1.out).mono ?_
  rintro e w1' ⟨v2, rfl, hv2, rfl⟩
  by_cases hvv : v1 = true ∧ v2 = true
  case neg =>
    have hvv2 : v1 = false ∨ v1 = true ∧ v2 = false := by
      cases v1 <;> cases v2 <;> simp at hvv ⊢
    clear hv1 hv2 hvv
    rcases hvv2 with rfl | ⟨rfl, rfl⟩
    all_goals
      go_wp2_with fail
      refine (HAl.out _ K1.out).mono ?_
      rintro e w2 ⟨rfl, k2⟩
      have K2 := Lib.hid (K1.out.trans k2)
      clear k2
      go_wp2_with fail
      go_ret
      exact ⟨rfl, K2.out⟩
  obtain ⟨rfl, rfl⟩ := hvv
  obtain ⟨h60, hen⟩ := hv1 rfl
  obtain ⟨l60, l200⟩ := hv2 rfl
  have HPL := Lib.hid (dump_Lines a b c A cA ps w1 (HLd.out.kept K1.out) (HA.out.kept K1.out) HG.out (by omega) (fun p hp => by have := hen p hp; omega))
  unfold LinesPost at HPL
  have HPT : Hid (∀ V, Kept [] w V → Calls Tryd.prog 13 #[.slice A2 l.length c2] V (PPost 54 32 l V)) := fun V k => dump_Parse A2 c2 l V (HLd.out.kept k) (HT.out.kept k) hc (by omega) (fun x hx => by have := l200 x hx; omega)
  obtain ⟨hsm1, hsm2⟩ := resP_small l
  replace hsm1 := Lib.hid hsm1
  replace hsm2 := Lib.hid hsm2
  obtain ⟨r0, r1, r2, r3⟩ := blk4 R1.out
  replace l60 := Lib.hid l60
  replace l200 := Lib.hid l200
  replace hen := Lib.hid hen
  clear hv1 hv2 HTx
  go_wp2_with fail
  refine HPL.out.mono ?_
  rintro e w2 ⟨k2, ⟨hno, rfl⟩ | ⟨L, A3, c3, hL3, rfl, hln, o3⟩⟩
  · have K2 := Lib.hid (K1.out.trans k2)
    clear hno k2 HPL r0 r1 r2 r3
    go_wp2_with fail
    refine (HPT.out _ K2.out).mono ?_
    rintro e wa ha
    obtain ⟨ka, AV, cV, ms, rfl, hms, hV⟩ := ppost_is ha
    have Ka := Lib.hid (K2.out.trans ka)
    have HV := Lib.hid hV
    obtain ⟨m1, m2⟩ := map_small hms hsm1.out hsm2.out
    clear ha ka hV
    cases hpd : parseD l with
    | none =>
      obtain ⟨e1, e2⟩ := resP_none hpd
      rw [e1] at hms
      have hm0 : ms = [] := List.map_eq_nil_iff.1 hms
      subst hm0
      rw [e1, e2]
      clear e1 e2 hms hpd m1 m2
      have Ta := Lib.hid (Blk.new wa 26 #[.int .i64 0, .int .i64 0, .int .i64 0, .slice AV ([] : List Pr).length cV])
      have Kb := Lib.hid (Ka.out.alloc (.cells #[.int .i64 0, .int .i64 0, .int .i64 0, .slice AV ([] : List Pr).length cV] 26))
      rw [List.length_nil] at Ta Kb
      unfold repV
      rw [List.length_nil]
      dsimp only
      go_wp2_with fail
      refine (HAl.out _ Kb.out).mono ?_
      rintro e wb ⟨rfl, kb⟩
      have Kc := Lib.hid (Kb.out.trans kb)
      have t3 := (Ta.out.kept kb (fun h => by cases h)).cell 3
      simp only [List.getElem?_toArray, List.getElem?_cons_zero, List.getElem?_cons_succ] at t3
      clear kb
      go_wp2_with fail
      go_ret
      exact ⟨rfl, Kc.out⟩
    | some rr =>
      obtain ⟨e1, e2⟩ := resP_some hpd
      rw [e1] at hms
      rw [e1, e2]
      have hlp := Lib.hid (lines_parse hpd)
      have hgs := gens_of hlp.out hms
      clear e1 e2 hpd
      have hl1 := l60.out
      have HLm : Hid (∀ V, Kept [] wa V → Calls Tryd.prog 8 #[repV rr.sec rr.org rr.chk (.slice AV ms.length cV)] V (LinesPost ⟨rr.sec, rr.org, rr.chk, ms.map (·.1)⟩ V)) := fun V k => dump_Lines rr.sec rr.org rr.chk AV cV ms V (HLd.out.kept (Ka.out.trans k)) (HV.out.kept k) hgs (by omega) (fun p hp => by have := m2 p hp; omega)
      rw [hms] at HLm
      unfold LinesPost repV at HLm
      clear hms hgs m1 m2
      have Kb := Lib.hid ((Kept.refl [] wa).alloc (.cells #[.int .i64 rr.sec, .int .i64 rr.org, .int .i64 rr.chk, .slice AV ms.length cV] 26))
      unfold repV
      go_wp2_with fail
      refine (HLm.out _ Kb.out).mono ?_
      rintro e wb ⟨kb, ⟨hno2, _⟩ | ⟨Lb, Ab, cb, hLb, rfl, _, ob⟩⟩
      · rw [hlp.out] at hno2
        cases hno2
      · rw [hlp.out] at hLb
        obtain rfl := Option.some.inj hLb
        have Kc := Lib.hid ((Ka.out.trans Kb.out).trans kb)
        have HLi := Lib.hid (law_lines Ab A2 cb c2 l wb (Rd.of_own ob) (HT.out.kept Kc.out) (by omega))
        clear hLb ob kb
        go_wp2_with fail
        refine HLi.out.mono ?_
        rintro e wc ⟨rfl, kc⟩
        have Kd := Lib.hid (Kc.out.trans kc)
        clear kc
        go_wp2_with fail
        refine (HAl.out _ Kd.out).mono ?_
        rintro e wd ⟨rfl, kd⟩
        have Ke := Lib.hid (Kd.out.trans kd)
        clear kd
        go_wp2_with fail
        go_ret
        exact ⟨rfl, Ke.out⟩
  · obtain ⟨s0, t0, rfl⟩ : ∃ s t, L = s :: t := by
      cases L with
      | nil => exact absurd rfl (lines_ne hL3)
      | cons s t => exact ⟨s, t, rfl⟩
    have hen2 := hen.out
    obtain ⟨sm1, sm2⟩ := small_texts hL3 (by rw [List.length_map]; omega) (fun x hx => by obtain ⟨p, hp, rfl⟩ := List.mem_map.1 hx; exact hen2 p hp)
    have K2 := Lib.hid (K1.out.trans k2)
    have R2 := R1.out.kept k2 (fun h => by cases h)
    have HA2 := Lib.hid (HA.out.kept K2.out)
    obtain ⟨g, c', e1, hc3⟩ := own_some o3 (by simp)
    injection e1 with e1 _ e2
    subst e1
    subst e2
    have T0 : TRd w2 (some ⟨g, 0, none⟩) (s0 :: t0) := Rd.of_own o3
    have T1 := T0.tail
    obtain ⟨p1, p2⟩ := resP_some (parse_lines hL3)
    obtain ⟨q1, q2⟩ := resP_none (parse_tail hL3)
    have HL2 := HLd.out.kept K2.out
    rw [List.length_cons] at hc3 sm1
    have HP1 : Hid (∀ V, Kept [] w2 V → Calls Tryd.prog 13 #[.slice (some ⟨g, 0, none⟩) (t0.length + 1) c3] V (PPost 54 32 (s0 :: t0) V)) := fun V k => dump_Parse _ c3 (s0 :: t0) V (HL2.kept k) (T0.kept k) hc3 sm1 sm2
    have HP2 : Hid (∀ V, Kept [] w2 V → Calls Tryd.prog 13 #[.slice (some ⟨g, 1, none⟩) t0.length (c3 - 1)] V (PPost 54 32 t0 V)) := fun V k => dump_Parse _ (c3 - 1) t0 V (HL2.kept k) (T1.kept k) (by omega) (by omega) (fun x hx => sm2 x (List.mem_cons_of_mem _ hx))
    have HP3 : Hid (∀ V B cB, Kept [] w2 V → c3 = 1 → Calls Tryd.prog 13 #[.slice B t0.length cB] V (PPost 54 32 t0 V)) := fun V B cB k h1 => by
      obtain rfl : t0 = [] := List.length_eq_zero_iff.1 (by omega)
      exact dump_Parse B cB [] V (HL2.kept k) (Rd.nil _ _ _ _) (Nat.zero_le _) (Nat.zero_le _) (fun _ h => by cases h)
    replace p1 := Lib.hid p1
    replace q1 := Lib.hid q1
    replace p2 := Lib.hid p2
    replace q2 := Lib.hid q2
    have hl0 : ((t0.length : Int) + 1 == 0) = false := by rw [beq_eq_false_iff_ne]; omega
    have hl1 : (0 : Int) < (t0.length : Int) + 1 := by omega
    have hl2 : (1 : Int) ≤ (t0.length : Int) + 1 := by omega
    rw [List.length_cons]
    clear hL3 o3 T0 T1 HL2 k2 hc3 sm1 sm2 hln hen2 HPL r0 r1 r2 r3
    go_wp2_with fail
    refine (HP1.out _ (Kept.refl _ _)).mono ?_
    rintro e w3 h3
    obtain ⟨k3, AV, cV, ms, rfl, hms, hV⟩ := ppost_is h3
    rw [p1.out] at hms ⊢
    rw [p2.out]
    dsimp only at hms ⊢
    have hml : ms.length = ps.length := by simpa using congrArg List.length hms
    have K3 := Lib.hid (K2.out.trans k3)
    have T4 := Blk.new w3 26 #[.int .i64 a, .int .i64 b, .int .i64 c, .slice AV ms.length cV]
    have kA0 := (Kept.refl [] w3).alloc (.cells #[.int .i64 a, .int .i64 b, .int .i64 c, .slice AV ms.length cV] 26)
    have R3 := (R2.kept k3 (fun h => by cases h)).alloc (.cells #[.int .i64 a, .int .i64 b, .int .i64 c, .slice AV ms.length cV] 26)
    obtain ⟨u0, u1, u2, u3⟩ := blk4 T4
    obtain ⟨u4, u5, u6, u7⟩ := blk4 R3
    have s0 := Lib.hid (show S8 w3.heap.size w.heap.size (.int .i64 a) (.int .i64 b) (.int .i64 c) (.slice AV ms.length cV) (.slice A ps.length cA) ((w3.alloc (.cells #[.int .i64 a, .int .i64 b, .int .i64 c, .slice AV ms.length cV] 26)).drew) from ⟨u0, u1, u2, u3, u4, u5, u6, u7⟩)
    have kS := Lib.hid kA0.drew
    have HV3 := Lib.hid hV
    have HA3 := Lib.hid (HA2.out.kept k3)
    have HO1 : Hid (∀ V, Kept [] w3 V → Calls Tryd.prog 10 #[.agg #[.int .i64 a, .int .i64 b, .int .i64 c, .slice AV ms.length cV]] V (OfPost a b c ms V)) := fun V k => law_of a b c AV cV ms V (HV3.out.kept k) (by omega)
    have HO2 : Hid (∀ V, Kept [] w3 V → Calls Tryd.prog 10 #[.agg #[.int .i64 a, .int .i64 b, .int .i64 c, .slice A ps.length cA]] V (OfPost a b c ps V)) := fun V k => law_of a b c A cA ps V (HA3.out.kept k) (by omega)
    have HSa : Hid (∀ (B : Option Addr) (cB : Nat) (D : Option Addr) (cD : Nat) (V : World), LRd V B ms → LRd V D ps → Calls Tryd.prog 15 #[.agg #[.int .i64 a, .int .i64 b, .int .i64 c, .slice B ms.length cB], .agg #[.int .i64 a, .int .i64 b, .int .i64 c, .slice D ps.length cD]] V fun e w' => e = .returned (.bool true) ∧ Kept [] V w') := fun B cB D cD V h h2 => law_same a b c B D cB cD ms ps V h h2 hms (by omega) (fun p hp => by
      have hp2 : p.1 ∈ ps.map (·.1) := hms ▸ List.mem_map.2 ⟨p, hp, rfl⟩
      obtain ⟨q, hq, e⟩ := List.mem_map.1 hp2
      have := hen.out q hq
      rw [← e]
      omega)
    unfold OfPost repV at HO1 HO2
    have K23 := Lib.hid k3
    replace hml := Lib.hid hml
    replace hms := Lib.hid hms
    clear h3 k3 T4 kA0 R3 hV R2
    unfold repV
    go_wp2_with fail
    go_region_held3 (fun W => W.cell? ⟨w3.heap.size, 0, none⟩ = some (.int .i64 a) ∧ W.cell? ⟨w3.heap.size, 1, none⟩ = some (.int .i64 b) ∧ W.cell? ⟨w3.heap.size, 2, none⟩ = some (.int .i64 c) ∧ W.cell? ⟨w3.heap.size, 3, none⟩ = some (.slice AV ms.length cV) ∧ W.cell? ⟨w.heap.size, 0, none⟩ = some (.int .i64 a) ∧ W.cell? ⟨w.heap.size, 1, none⟩ = some (.int .i64 b) ∧ W.cell? ⟨w.heap.size, 2, none⟩ = some (.int .i64 c) ∧ W.cell? ⟨w.heap.size, 3, none⟩ = some (.slice A ps.length cA)) (first | exact s0.out | exact sA.out | exact sB.out | exact s6.out | go_keep) (first | (go_at_call 10; with_reducible refine (HO1.out _ (by first | exact kS.out | exact kBs.out)).mono ?_; rintro e wA ⟨BA, dA, rfl, hLA, kA⟩; have sA := Lib.hid (by first | exact S8.kept sB.out kA | exact S8.kept s0.out kA : S8 w3.heap.size w.heap.size (.int .i64 a) (.int .i64 b) (.int .i64 c) (.slice AV ms.length cV) (.slice A ps.length cA) wA); have kAs := Lib.hid (by first | exact kBs.out.trans kA | exact kS.out.trans kA : Kept [] w3 wA); have hA5 := Lib.hid (show Kept [] wA wA ∧ LRd wA BA ms from ⟨Kept.refl _ _, hLA⟩); try (have hB6 := Lib.hid (show Kept [] wB wA from kA)); clear hLA kA) | (go_at_call 10; with_reducible refine (HO2.out _ (by first | exact kS.out | exact kAs.out)).mono ?_; rintro e wB ⟨BB, dB, rfl, hLB, kB⟩; have sB := Lib.hid (by first | exact S8.kept sA.out kB | exact S8.kept s0.out kB : S8 w3.heap.size w.heap.size (.int .i64 a) (.int .i64 b) (.int .i64 c) (.slice AV ms.length cV) (.slice A ps.length cA) wB); have kBs := Lib.hid (by first | exact kAs.out.trans kB | exact kS.out.trans kB : Kept [] w3 wB); have hB5 := Lib.hid (show Kept [] wB wB ∧ LRd wB BB ps from ⟨Kept.refl _ _, hLB⟩); try (have hA6 := Lib.hid (show Kept [] wA wB from kB)); clear hLB kB) | (go_at_call 15; first | (refine (HSa.out BA dA BB dB wB (by exact hA5.out.2.kept hA6.out) hB5.out.2).mono ?_; rintro e w6 ⟨rfl, k6⟩; have k6s := Lib.hid (kBs.out.trans k6); have s6 := Lib.hid (S8.kept sB.out k6); clear k6) | (refine (HSa.out BA dA BB dB wA hA5.out.2 (by exact hB5.out.2.kept hB6.out)).mono ?_; rintro e w6 ⟨rfl, k6⟩; have k6s := Lib.hid (kAs.out.trans k6); have s6 := Lib.hid (S8.kept sA.out k6); clear k6)))
    have K6 := Lib.hid (K3.out.trans k6s.out)
    have K26 := Lib.hid (K23.out.trans k6s.out)
    go_wp2_with fail
    all_goals
      first | refine (HP3.out _ _ _ K26.out ‹c3 = 1›).mono ?_ | refine (HP2.out _ K26.out).mono ?_
      rintro e wx hx
      obtain ⟨kx, AX, cX, xs, rfl, hxs, hX⟩ := ppost_is hx
      rw [q1.out] at hxs
      have hx0 : xs = [] := List.map_eq_nil_iff.1 hxs
      subst hx0
      rw [q1.out, q2.out]
      have Tx := Blk.new wx 26 #[.int .i64 0, .int .i64 0, .int .i64 0, .slice AX ([] : List Pr).length cX]
      have Kx := Lib.hid ((K6.out.trans kx).alloc (.cells #[.int .i64 0, .int .i64 0, .int .i64 0, .slice AX ([] : List Pr).length cX] 26))
      rw [List.length_nil] at Tx Kx
      unfold repV
      rw [List.length_nil]
      dsimp only
      have t3 := Tx.cell 3
      simp only [List.getElem?_toArray, List.getElem?_cons_zero, List.getElem?_cons_succ] at t3
      clear hx kx hX hxs Tx HP1 HP2 HP3 HO1 HO2 HSa sA sB s6 s0 hA5 hB5 hl0 hl1 hl2
      go_wp2_with fail
      refine (HPT.out _ Kx.out).mono ?_
      rintro e wa ha
      obtain ⟨ka, AV, cV, ms, rfl, hms, hV⟩ := ppost_is ha
      have Ka := Lib.hid (Kx.out.trans ka)
      have HV := Lib.hid hV
      obtain ⟨m1, m2⟩ := map_small hms hsm1.out hsm2.out
      clear ha ka hV
      cases hpd : parseD l with
      | none =>
        obtain ⟨e1, e2⟩ := resP_none hpd
        rw [e1] at hms
        have hm0 : ms = [] := List.map_eq_nil_iff.1 hms
        subst hm0
        rw [e1, e2]
        clear e1 e2 hms hpd m1 m2
        have Ta := Lib.hid (Blk.new wa 26 #[.int .i64 0, .int .i64 0, .int .i64 0, .slice AV ([] : List Pr).length cV])
        have Kb := Lib.hid (Ka.out.alloc (.cells #[.int .i64 0, .int .i64 0, .int .i64 0, .slice AV ([] : List Pr).length cV] 26))
        rw [List.length_nil] at Ta Kb
        unfold repV
        rw [List.length_nil]
        dsimp only
        go_wp2_with fail
        refine (HAl.out _ Kb.out).mono ?_
        rintro e wb ⟨rfl, kb⟩
        have Kc := Lib.hid (Kb.out.trans kb)
        have t3 := (Ta.out.kept kb (fun h => by cases h)).cell 3
        simp only [List.getElem?_toArray, List.getElem?_cons_zero, List.getElem?_cons_succ] at t3
        clear kb
        go_wp2_with fail
        go_ret
        exact ⟨rfl, Kc.out⟩
      | some rr =>
        obtain ⟨e1, e2⟩ := resP_some hpd
        rw [e1] at hms
        rw [e1, e2]
        have hlp := Lib.hid (lines_parse hpd)
        have hgs := gens_of hlp.out hms
        clear e1 e2 hpd
        have hl1 := l60.out
        have HLm : Hid (∀ V, Kept [] wa V → Calls Tryd.prog 8 #[repV rr.sec rr.org rr.chk (.slice AV ms.length cV)] V (LinesPost ⟨rr.sec, rr.org, rr.chk, ms.map (·.1)⟩ V)) := fun V k => dump_Lines rr.sec rr.org rr.chk AV cV ms V (HLd.out.kept (Ka.out.trans k)) (HV.out.kept k) hgs (by omega) (fun p hp => by have := m2 p hp; omega)
        rw [hms] at HLm
        unfold LinesPost repV at HLm
        clear hms hgs m1 m2
        have Kb := Lib.hid ((Kept.refl [] wa).alloc (.cells #[.int .i64 rr.sec, .int .i64 rr.org, .int .i64 rr.chk, .slice AV ms.length cV] 26))
        unfold repV
        go_wp2_with fail
        refine (HLm.out _ Kb.out).mono ?_
        rintro e wb ⟨kb, ⟨hno2, _⟩ | ⟨Lb, Ab, cb, hLb, rfl, _, ob⟩⟩
        · rw [hlp.out] at hno2
          cases hno2
        · rw [hlp.out] at hLb
          obtain rfl := Option.some.inj hLb
          have Kc := Lib.hid ((Ka.out.trans Kb.out).trans kb)
          have HLi := Lib.hid (law_lines Ab A2 cb c2 l wb (Rd.of_own ob) (HT.out.kept Kc.out) (by omega))
          clear hLb ob kb
          go_wp2_with fail
          refine HLi.out.mono ?_
          rintro e wc ⟨rfl, kc⟩
          have Kd := Lib.hid (Kc.out.trans kc)
          clear kc
          go_wp2_with fail
          refine (HAl.out _ Kd.out).mono ?_
          rintro e wd ⟨rfl, kd⟩
          have Ke := Lib.hid (Kd.out.trans kd)
          clear kd
          go_wp2_with fail
          go_ret
          exact ⟨rfl, Ke.out⟩
end Go.Proofs.YtooplogodcadgaaDoor
