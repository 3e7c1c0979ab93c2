/- Dumps: the document's Lines. -/
import Derived.Test.YtooplogodcadgaaDoorDuW
namespace Go.Proofs.YtooplogodcadgaaDoor
open Go.RowKit Go.Lib

set_option maxRecDepth 8000 in
set_option maxHeartbeats 8000000 in
theorem ref_Lines (a b c : Int) (A : Option Addr) (cA : Nat) (ps : List Pr) (w : World) (hr : LRd w A ps) (hg : ∀ p ∈ ps, in32 p.1.gen = true) (hn : ps.length ≤ 1000) (he : ∀ p ∈ ps, p.1.ents.length ≤ 1000) : Calls Tryd.prog 9 #[.agg #[.int .i64 a, .int .i64 b, .int .i64 c, .slice A ps.length cA]] w (LinesPost ⟨a, b, c, ps.map (·.1)⟩ w) := by
  have HNo : Hid (∀ w', linesD ⟨a, b, c, ps.map (·.1)⟩ = none → Kept [] w w' → LinesPost ⟨a, b, c, ps.map (·.1)⟩ w (.returned (.tuple #[.slice none 0 0, .int .i64 1])) w') := fun w' h k => ⟨k, .inl ⟨h, rfl⟩⟩
  have HYes : Hid (∀ w' (L : List Bs) (A : Option Addr) (cL : Nat), linesD ⟨a, b, c, ps.map (·.1)⟩ = some L → L.length ≤ 1100000 → SAt w.heap.size w' A cL L → Kept [] w w' → LinesPost ⟨a, b, c, ps.map (·.1)⟩ w (.returned (.tuple #[.slice A L.length cL, .int .i64 0])) w') := fun w' L A c h h2 o k => ⟨k, .inr ⟨L, A, c, h, rfl, h2, o⟩⟩
  generalize LinesPost ⟨a, b, c, ps.map (·.1)⟩ w = Q at *
  have HR := Lib.hid hr
  have HG := Lib.hid hg
  have HE := Lib.hid he
  have HLi : Hid (∀ (f : Bs) (V : World) (b c : Nat) (l : List Int), IAt V b l → f.length ≤ 1000 → f.count 35 = l.length → (∀ y ∈ l, in32 y = true) → Calls Tryd.prog 20 #[.string ⟨f.toArray⟩, .slice (some ⟨b, 0, none⟩) l.length c] V (LinePost f l V)) := fun f V b c l h1 h2 h3 h4 => ref_line f b c l V h1 h2 h3 h4
  unfold LinePost at HLi
  have HIn : Hid (∀ (zs : List Int) (V : World) (b c : Nat), IAt V b zs → zs.length ≤ 1000 → Calls Tryd.prog 19 #[.slice (some ⟨b, 0, none⟩) zs.length c] V (InPost zs V)) := fun zs V b c h1 h2 => ref_in b c zs V h1 h2
  unfold InPost at HIn
  have HFo := Lib.hid ref_forms
  have K0 := Lib.hid ((Kept.refl [] w).alloc (.cells #[.int .i64 a, .int .i64 b, .int .i64 c, .slice A ps.length cA] 36))
  have B0 := Lib.hid (Blk.new w 36 #[.int .i64 a, .int .i64 b, .int .i64 c, .slice A ps.length cA])
  clear hr hg he
  go_enter Tryd.func9, Tryd.ntmps9
  go_wp2_with fail
  refine (HIn.out [a, b, c] _ _ _ (IAt.new' (l := [a, b, c]) (by simp)) (by simp)).mono ?_
  rintro e w1 ⟨rfl, rfl⟩
  cases h3 : [a, b, c].all in32 with
  | false =>
    have hv := Lib.hid (lines_noH (r := ⟨a, b, c, ps.map (·.1)⟩) h3)
    clear h3
    go_wp2_with fail
    exact HNo.out _ hv.out (K0.out.alloc _)
  | true =>
    have H3 := Lib.hid h3
    have HLD := Lib.hid (fun V b' c' h => HLi.out tD V b' c' [a, b, c] h (by decide) rfl (List.all_eq_true.1 h3))
    rw [line_disk] at HLD
    clear h3
    obtain ⟨hd, hhd⟩ : ∃ hd, joinL (fillW wD [a, b, c]) = hd := ⟨_, rfl⟩
    rw [hhd] at HLD
    replace hhd := Lib.hid hhd
    go_wp2_with fail
    refine (HLD.out _ _ _ (IAt.new' (l := [a, b, c]) (by simp))).mono ?_
    rintro e w2 ⟨rfl, k2⟩
    have K2 := Lib.hid ((K0.out.alloc _).trans k2)
    have B2 := Lib.hid ((B0.out.alloc (.cells #[.int .i64 a, .int .i64 b, .int .i64 c] 3)).kept k2 (fun h => by cases h))
    have O2 := Lib.hid (own_down (oneS w2 hd) K2.out.size)
    clear k2
    go_wp2_with fail
    go_loopw [6, 7] (fun t i V => ∃ (k : Nat) (L : List Bs) (A' : Option Addr) (c' : Nat), k ≤ ps.length ∧ i = .int .i64 k ∧ t = .slice A' L.length c' ∧ Hid (L.length ≤ 1 + k * 1001) ∧ Hid (L = hd :: (ps.take k).flatMap (fun p => slotLines p.1)) ∧ Hid (∀ p ∈ ps.take k, okS p.1 = true) ∧ Hid (SAt w.heap.size V A' c' L) ∧ Hid (Blk V w.heap.size 36 #[.int .i64 a, .int .i64 b, .int .i64 c, .slice A ps.length cA]) ∧ Hid (Kept [] w V)) (fun _ i _ => ps.length - (RowKit.intOf i).toNat)
    case atStart => exact ⟨0, [hd], some ⟨w2.heap.size, 0, none⟩, 1, Nat.zero_le _, rfl, rfl, Nat.le_refl _, rfl, (fun _ h => by cases h), O2.out, B2.out.alloc _, K2.out.alloc _⟩
    case round =>
      obtain ⟨k, L, A', c', hk, rfl, rfl, HN, HT, HO, HS, HB, HK⟩ := hrel
      have b3 := HB.out.cell 3
      simp only [List.getElem?_toArray, List.getElem?_cons_zero, List.getElem?_cons_succ] at b3
      by_cases hlt : k < ps.length
      · obtain ⟨b', o, rfl, d0, d1, d2, d3, d4, d5, d6, d7⟩ := HR.out.at_ hlt
        have hki : (k : Int) < (ps.length : Int) := by omega
        have hwk : IntKind.i64.wrap ((k : Int) + 1) = (k : Int) + 1 := IntWalk.i64_in _ (by omega)
        have hmem := List.getElem_mem hlt
        have hen := HE.out _ hmem
        have hgn := Lib.hid (HG.out _ hmem)
        have HNs : Hid (okS ps[k].1 = false → linesD ⟨a, b, c, ps.map (·.1)⟩ = none) := lines_noS (List.mem_map.2 ⟨_, hmem, rfl⟩)
        have HTk : Hid (ps.take (k + 1) = ps.take k ++ [ps[k]]) := List.take_succ_eq_append_getElem hlt
        obtain ⟨AE, cE, hEv, hEr⟩ := HR.out.2 _ hmem
        rw [hEv] at d7
        have hER : ERd w (.slice AE ps[k].1.ents.length cE) ps[k].1.ents := ⟨AE, cE, rfl, hEr⟩
        have e0 := HK.out.cell d0 (fun h => by cases h)
        have e1 := HK.out.cell d1 (fun h => by cases h)
        have e2 := HK.out.cell d2 (fun h => by cases h)
        have e3 := HK.out.cell d3 (fun h => by cases h)
        have e4 := HK.out.cell d4 (fun h => by cases h)
        have e5 := HK.out.cell d5 (fun h => by cases h)
        have e6 := HK.out.cell d6 (fun h => by cases h)
        have e7 := HK.out.cell d7 (fun h => by cases h)
        clear d0 d1 d2 d3 d4 d5 d6 d7 hEr hEv hmem
        generalize ps[k] = p at *
        obtain ⟨⟨id, st, len, gen, room, state, inv, ents⟩, E⟩ := p
        dsimp only at e0 e1 e2 e3 e4 e5 e6 e7 hER hgn HNs hen
        replace hER := Lib.hid hER
        have hg2 := in32_iff.1 hgn.out
        have hwg : IntKind.i64.wrap gen = gen := IntWalk.i64_in _ (by omega)
        have kA := ((Kept.refl [] wr).alloc (.cells #[.int .i64 id, .int .i64 state, .int .i64 st, .int .i64 len, .int .u32 gen, .int .i64 room, .bool inv, .slice AE ents.length cE] 64)).alloc (.cells #[.int .i64 id, .int .i64 st, .int .i64 len, .int .i64 gen, .int .i64 room] 3)
        have KA := Lib.hid (HK.out.trans kA)
        have TA := Lib.hid ((Blk.new wr 64 #[.int .i64 id, .int .i64 state, .int .i64 st, .int .i64 len, .int .u32 gen, .int .i64 room, .bool inv, .slice AE ents.length cE]).alloc (.cells #[.int .i64 id, .int .i64 st, .int .i64 len, .int .i64 gen, .int .i64 room] 3))
        have IA : Hid (IAt ((wr.alloc (.cells #[.int .i64 id, .int .i64 state, .int .i64 st, .int .i64 len, .int .u32 gen, .int .i64 room, .bool inv, .slice AE ents.length cE] 64)).alloc (.cells #[.int .i64 id, .int .i64 st, .int .i64 len, .int .i64 gen, .int .i64 room] 3)) (wr.heap.size + 1) [id, st, len, gen, room]) := IAt.new' (l := [id, st, len, gen, room]) (by simp)
        have SA := Lib.hid (HS.out.kept kA)
        have BA := Lib.hid (HB.out.kept kA (fun h => by cases h))
        clear kA
        go_wp2_with fail
        refine (HIn.out [id, st, len, gen, room] _ _ _ IA.out (by simp)).mono ?_
        rintro e w3 ⟨rfl, rfl⟩
        clear e0 e1 e2 e3 e4 e5 e6 e7
        cases h5 : [id, st, len, gen, room].all in32 with
        | false =>
          have hv := Lib.hid (HNs.out (okS_no5 h5))
          clear h5
          go_wp2_with fail
          exact HNo.out _ hv.out KA.out
        | true =>
          have H5 := Lib.hid h5
          clear h5
          by_cases hs2 : state = 2
          · subst hs2
            have hst2 : ((2 : Int) == 2) = true := by decide
            have hrr : ∀ y ∈ [id, st, len, gen, room], in32 y = true := List.all_eq_true.1 H5.out
            have HLs := Lib.hid (fun V b c h => HLi.out (tS true inv) V b c [id, st, len, gen, room] h (by cases inv <;> decide) (by cases inv <;> rfl) hrr)
            have hsl : hashL (tS true inv) [id, st, len, gen, room] = slotLine ⟨id, st, len, gen, room, 2, inv, ents⟩ := line_slot true inv id st len gen room
            rw [hsl] at HLs
            obtain ⟨sl, hsl2⟩ : ∃ sl, slotLine ⟨id, st, len, gen, room, 2, inv, ents⟩ = sl := ⟨_, rfl⟩
            rw [hsl2] at HLs
            replace hsl2 := Lib.hid hsl2
            clear hsl hrr
            have x1 := TA.out.cell 1
            have x6 := TA.out.cell 6
            simp only [List.getElem?_toArray, List.getElem?_cons_zero, List.getElem?_cons_succ] at x1 x6
            go_wp2_with fail
            refine (HFo.out true inv _).mono ?_
            rintro e w4 ⟨rfl, rfl⟩
            go_wp2_with fail
            refine (HLs.out _ _ _ IA.out).mono ?_
            rintro e w5 ⟨rfl, k5⟩
            have S5 := SA.out.kept k5
            have K5 := KA.out.trans k5
            have T5 := Lib.hid (TA.out.kept k5 (fun h => by cases h))
            have B5 := Lib.hid (BA.out.kept k5 (fun h => by cases h))
            have HRun := Lib.hid (app_S1 sl S5 K5 (by have := HN.out; omega))
            have K5 := Lib.hid K5
            clear x1 x6 k5 S5
            go_wp2_with (at_builtin; refine wpList_app rfl (.tmp 76) (.tmp 86) _ rfl _ _ rfl rfl (HRun.out _) ?_; rintro v6 w6 ⟨A6, c6, rfl, o6, k6, hkb⟩; clear HRun)
            have T6 := Lib.hid (hkb _ _ _ T5.out (by decide))
            have B6 := Lib.hid (hkb _ _ _ B5.out (by decide))
            have K6 := Lib.hid k6
            have O6 := Lib.hid o6
            have hLn : (L ++ [sl]).length = L.length + 1 := by simp
            replace hLn := Lib.hid hLn
            clear k6 o6 hkb T5 B5 K5 TA IA SA BA KA HB HS HK b3
            generalize wr.heap.size = sx at *
            go_wp2_with fail
            go_loopw [6, 11] (fun t i V => ∃ (j : Nat) (M : List Bs) (A' : Option Addr) (c' : Nat), j ≤ ents.length ∧ i = .int .i64 j ∧ t = .slice A' M.length c' ∧ Hid (M.length = L.length + 1 + j) ∧ Hid (M = (L ++ [sl]) ++ (ents.take j).map entLine) ∧ Hid (∀ e ∈ ents.take j, okE e = true) ∧ Hid (SAt w.heap.size V A' c' M) ∧ Hid (Blk V sx 64 #[.int .i64 id, .int .i64 2, .int .i64 st, .int .i64 len, .int .u32 gen, .int .i64 room, .bool inv, .slice AE ents.length cE]) ∧ Hid (Blk V w.heap.size 36 #[.int .i64 a, .int .i64 b, .int .i64 c, .slice (some ⟨b', o, none⟩) ps.length cA]) ∧ Hid (Kept [] w V)) (fun _ i _ => ents.length - (RowKit.intOf i).toNat)
            case atStart => exact ⟨0, L ++ [sl], A6, c6, Nat.zero_le _, rfl, by simp, hLn.out, by simp [Hid], (fun _ h => by cases h), O6.out, T6.out, B6.out, K6.out⟩
            case round =>
              obtain ⟨j, M, AM, cM, hj, rfl, rfl, HNj, HTj, HOj, HSj, HTb, HBj, HKj⟩ := hrel
              have x7 := HTb.out.cell 7
              simp only [List.getElem?_toArray, List.getElem?_cons_zero, List.getElem?_cons_succ] at x7
              by_cases hltj : j < ents.length
              · obtain ⟨be, oe, rfl, f0, f1⟩ := hER.out.at_ hltj
                have y0 := HKj.out.cell f0 (fun h => by cases h)
                have y1 := HKj.out.cell f1 (fun h => by cases h)
                have hji : (j : Int) < (ents.length : Int) := by omega
                have hwj : IntKind.i64.wrap ((j : Int) + 1) = (j : Int) + 1 := IntWalk.i64_in _ (by omega)
                have HME : Hid (okE ents[j] = false → linesD ⟨a, b, c, ps.map (·.1)⟩ = none) := fun h => HNs.out (okS_ent (List.getElem_mem hltj) h)
                have HTk2 : Hid (ents.take (j + 1) = ents.take j ++ [ents[j]]) := List.take_succ_eq_append_getElem hltj
                clear f0 f1
                generalize ents[j] = en at *
                obtain ⟨eo, ei⟩ := en
                dsimp only at y0 y1
                have hoe := okE_two ⟨eo, ei⟩
                dsimp only at hoe
                go_wp2_with fail
                go_region_held3 (fun W => W.cell? ⟨sx, 7, none⟩ = some (.slice (some ⟨be, oe, none⟩) ents.length cE) ∧ W.cell? ⟨be, oe + j * 2, none⟩ = some (.int .i64 eo) ∧ W.cell? ⟨be, oe + j * 2 + 1, none⟩ = some (.int .i64 ei)) (go_keep) (fail)
                have IJ := Lib.hid (IAt.drew (IAt.new' (V := wr) (b := wr.heap.size) (l := [eo, ei]) rfl))
                clear y0 y1
                go_wp2_with fail
                refine (HIn.out [eo, ei] _ _ _ IJ.out (by simp)).mono ?_
                rintro e w7 ⟨rfl, rfl⟩
                rw [hoe]
                cases hok : okE ⟨eo, ei⟩ with
                | false =>
                  have hv := Lib.hid (HME.out hok)
                  clear hok hoe HTk2
                  go_wp2_with fail
                  exact HNo.out _ hv.out (HKj.out.alloc _).drew
                | true =>
                  rw [hok] at hoe
                  have hrr : ∀ y ∈ [eo, ei], in32 y = true := List.all_eq_true.1 hoe
                  have HLE := Lib.hid (fun V b c h => HLi.out tE V b c [eo, ei] h (by decide) rfl hrr)
                  have hle : hashL tE [eo, ei] = entLine ⟨eo, ei⟩ := line_ent eo ei
                  rw [hle] at HLE
                  have HT2 : Hid (M ++ [entLine ⟨eo, ei⟩] = (L ++ [sl]) ++ (ents.take (j + 1)).map entLine) := by
                    rw [Hid, HTk2.out, HTj.out, List.map_append, List.append_assoc]
                    rfl
                  have HO2 : Hid (∀ e ∈ ents.take (j + 1), okE e = true) := fun e he => by
                    rw [HTk2.out] at he
                    rcases List.mem_append.1 he with he | he
                    · exact HOj.out e he
                    · obtain rfl := List.mem_singleton.1 he
                      exact hok
                  clear hok HTk2 hrr hle hoe
                  obtain ⟨le, hle⟩ : ∃ le, entLine ⟨eo, ei⟩ = le := ⟨_, rfl⟩
                  rw [hle] at HLE HT2
                  clear hle
                  go_wp2_with fail
                  refine (HLE.out _ _ _ IJ.out).mono ?_
                  rintro e w8 ⟨rfl, k8⟩
                  have kA := ((Kept.refl [] wr).alloc (.cells #[.int .i64 eo, .int .i64 ei] 3)).drew
                  have S8 := HSj.out.kept (kA.trans k8)
                  have K8 := HKj.out.trans (kA.trans k8)
                  have T8 := Lib.hid (HTb.out.kept (kA.trans k8) (fun h => by cases h))
                  have B8 := Lib.hid (HBj.out.kept (kA.trans k8) (fun h => by cases h))
                  have HRun := Lib.hid (app_S1 le S8 K8 (by have := HNj.out; have := HN.out; omega))
                  clear kA k8 S8 K8
                  go_wp2_with (at_builtin; refine wpList_app rfl (.tmp 112) (.tmp 115) _ rfl _ _ rfl rfl (HRun.out _) ?_; rintro v9 w9 ⟨A9, c9, rfl, o9, k9, hkb⟩; clear HRun)
                  go_roundw
                  case rel => exact ⟨j + 1, M ++ [le], A9, c9, by omega, by go_num, by simp, by (have := HNj.out; rw [Hid, List.length_append, List.length_singleton]; omega), HT2, HO2, Lib.hid o9, hkb _ _ _ T8.out (by decide), hkb _ _ _ B8.out (by decide), Lib.hid k9⟩
                  case measure => simp [RowKit.intOf]; omega
              · obtain rfl : j = ents.length := by omega
                have HT2 : Hid (M = hd :: (ps.take (k + 1)).flatMap (fun p => slotLines p.1)) := by
                  rw [Hid, HTk.out, HTj.out, HT.out, List.take_length, List.flatMap_append, ← hsl2.out]
                  simp [slotLines]
                have HO2 : Hid (∀ p ∈ ps.take (k + 1), okS p.1 = true) := fun p hp => by
                  rw [HTk.out] at hp
                  rcases List.mem_append.1 hp with hp | hp
                  · exact HO.out p hp
                  · obtain rfl := List.mem_singleton.1 hp
                    have h1 := HOj.out
                    rw [List.take_length] at h1
                    have h5 := H5.out
                    simp only [List.all_cons, List.all_nil, Bool.and_true, Bool.and_eq_true] at h5
                    exact okS_yes (by simp [h5.1, h5.2.1, h5.2.2.1, h5.2.2.2.2]) h5.2.2.2.1 (by simp) h1
                go_wp2_with fail
                go_roundw
                case rel => exact ⟨k + 1, M, AM, cM, by omega, by go_num, rfl, by (have h1 := HN.out; have h2 := HNj.out; rw [Hid]; omega), HT2, HO2, HSj, HBj, HKj⟩
                case measure => simp [RowKit.intOf]; omega
          · by_cases hs1 : state = 1
            · subst hs1
              have hst2 : ((1 : Int) == 2) = false := by decide
              have hrr : ∀ y ∈ [id, st, len, gen, room], in32 y = true := List.all_eq_true.1 H5.out
              have HLs := Lib.hid (fun V b c h => HLi.out (tS false inv) V b c [id, st, len, gen, room] h (by cases inv <;> decide) (by cases inv <;> rfl) hrr)
              have hsl : hashL (tS false inv) [id, st, len, gen, room] = slotLine ⟨id, st, len, gen, room, 1, inv, ents⟩ := line_slot false inv id st len gen room
              rw [hsl] at HLs
              obtain ⟨sl, hsl2⟩ : ∃ sl, slotLine ⟨id, st, len, gen, room, 1, inv, ents⟩ = sl := ⟨_, rfl⟩
              rw [hsl2] at HLs
              replace hsl2 := Lib.hid hsl2
              clear hsl hrr
              have x1 := TA.out.cell 1
              have x6 := TA.out.cell 6
              simp only [List.getElem?_toArray, List.getElem?_cons_zero, List.getElem?_cons_succ] at x1 x6
              go_wp2_with fail
              refine (HFo.out false inv _).mono ?_
              rintro e w4 ⟨rfl, rfl⟩
              go_wp2_with fail
              refine (HLs.out _ _ _ IA.out).mono ?_
              rintro e w5 ⟨rfl, k5⟩
              have S5 := SA.out.kept k5
              have K5 := KA.out.trans k5
              have T5 := Lib.hid (TA.out.kept k5 (fun h => by cases h))
              have B5 := Lib.hid (BA.out.kept k5 (fun h => by cases h))
              have HRun := Lib.hid (app_S1 sl S5 K5 (by have := HN.out; omega))
              have K5 := Lib.hid K5
              clear x1 x6 k5 S5
              go_wp2_with (at_builtin; refine wpList_app rfl (.tmp 76) (.tmp 86) _ rfl _ _ rfl rfl (HRun.out _) ?_; rintro v6 w6 ⟨A6, c6, rfl, o6, k6, hkb⟩; clear HRun)
              have T6 := Lib.hid (hkb _ _ _ T5.out (by decide))
              have B6 := Lib.hid (hkb _ _ _ B5.out (by decide))
              have K6 := Lib.hid k6
              have O6 := Lib.hid o6
              have hLn : (L ++ [sl]).length = L.length + 1 := by simp
              replace hLn := Lib.hid hLn
              clear k6 o6 hkb T5 B5 K5 TA IA SA BA KA HB HS HK b3
              generalize wr.heap.size = sx at *
              go_wp2_with fail
              go_loopw [6, 11] (fun t i V => ∃ (j : Nat) (M : List Bs) (A' : Option Addr) (c' : Nat), j ≤ ents.length ∧ i = .int .i64 j ∧ t = .slice A' M.length c' ∧ Hid (M.length = L.length + 1 + j) ∧ Hid (M = (L ++ [sl]) ++ (ents.take j).map entLine) ∧ Hid (∀ e ∈ ents.take j, okE e = true) ∧ Hid (SAt w.heap.size V A' c' M) ∧ Hid (Blk V sx 64 #[.int .i64 id, .int .i64 1, .int .i64 st, .int .i64 len, .int .u32 gen, .int .i64 room, .bool inv, .slice AE ents.length cE]) ∧ Hid (Blk V w.heap.size 36 #[.int .i64 a, .int .i64 b, .int .i64 c, .slice (some ⟨b', o, none⟩) ps.length cA]) ∧ Hid (Kept [] w V)) (fun _ i _ => ents.length - (RowKit.intOf i).toNat)
              case atStart => exact ⟨0, L ++ [sl], A6, c6, Nat.zero_le _, rfl, by simp, hLn.out, by simp [Hid], (fun _ h => by cases h), O6.out, T6.out, B6.out, K6.out⟩
              case round =>
                obtain ⟨j, M, AM, cM, hj, rfl, rfl, HNj, HTj, HOj, HSj, HTb, HBj, HKj⟩ := hrel
                have x7 := HTb.out.cell 7
                simp only [List.getElem?_toArray, List.getElem?_cons_zero, List.getElem?_cons_succ] at x7
                by_cases hltj : j < ents.length
                · obtain ⟨be, oe, rfl, f0, f1⟩ := hER.out.at_ hltj
                  have y0 := HKj.out.cell f0 (fun h => by cases h)
                  have y1 := HKj.out.cell f1 (fun h => by cases h)
                  have hji : (j : Int) < (ents.length : Int) := by omega
                  have hwj : IntKind.i64.wrap ((j : Int) + 1) = (j : Int) + 1 := IntWalk.i64_in _ (by omega)
                  have HME : Hid (okE ents[j] = false → linesD ⟨a, b, c, ps.map (·.1)⟩ = none) := fun h => HNs.out (okS_ent (List.getElem_mem hltj) h)
                  have HTk2 : Hid (ents.take (j + 1) = ents.take j ++ [ents[j]]) := List.take_succ_eq_append_getElem hltj
                  clear f0 f1
                  generalize ents[j] = en at *
                  obtain ⟨eo, ei⟩ := en
                  dsimp only at y0 y1
                  have hoe := okE_two ⟨eo, ei⟩
                  dsimp only at hoe
                  go_wp2_with fail
                  go_region_held3 (fun W => W.cell? ⟨sx, 7, none⟩ = some (.slice (some ⟨be, oe, none⟩) ents.length cE) ∧ W.cell? ⟨be, oe + j * 2, none⟩ = some (.int .i64 eo) ∧ W.cell? ⟨be, oe + j * 2 + 1, none⟩ = some (.int .i64 ei)) (go_keep) (fail)
                  have IJ := Lib.hid (IAt.drew (IAt.new' (V := wr) (b := wr.heap.size) (l := [eo, ei]) rfl))
                  clear y0 y1
                  go_wp2_with fail
                  refine (HIn.out [eo, ei] _ _ _ IJ.out (by simp)).mono ?_
                  rintro e w7 ⟨rfl, rfl⟩
                  rw [hoe]
                  cases hok : okE ⟨eo, ei⟩ with
                  | false =>
                    have hv := Lib.hid (HME.out hok)
                    clear hok hoe HTk2
                    go_wp2_with fail
                    exact HNo.out _ hv.out (HKj.out.alloc _).drew
                  | true =>
                    rw [hok] at hoe
                    have hrr : ∀ y ∈ [eo, ei], in32 y = true := List.all_eq_true.1 hoe
                    have HLE := Lib.hid (fun V b c h => HLi.out tE V b c [eo, ei] h (by decide) rfl hrr)
                    have hle : hashL tE [eo, ei] = entLine ⟨eo, ei⟩ := line_ent eo ei
                    rw [hle] at HLE
                    have HT2 : Hid (M ++ [entLine ⟨eo, ei⟩] = (L ++ [sl]) ++ (ents.take (j + 1)).map entLine) := by
                      rw [Hid, HTk2.out, HTj.out, List.map_append, List.append_assoc]
                      rfl
                    have HO2 : Hid (∀ e ∈ ents.take (j + 1), okE e = true) := fun e he => by
                      rw [HTk2.out] at he
                      rcases List.mem_append.1 he with he | he
                      · exact HOj.out e he
                      · obtain rfl := List.mem_singleton.1 he
                        exact hok
                    clear hok HTk2 hrr hle hoe
                    obtain ⟨le, hle⟩ : ∃ le, entLine ⟨eo, ei⟩ = le := ⟨_, rfl⟩
                    rw [hle] at HLE HT2
                    clear hle
                    go_wp2_with fail
                    refine (HLE.out _ _ _ IJ.out).mono ?_
                    rintro e w8 ⟨rfl, k8⟩
                    have kA := ((Kept.refl [] wr).alloc (.cells #[.int .i64 eo, .int .i64 ei] 3)).drew
                    have S8 := HSj.out.kept (kA.trans k8)
                    have K8 := HKj.out.trans (kA.trans k8)
                    have T8 := Lib.hid (HTb.out.kept (kA.trans k8) (fun h => by cases h))
                    have B8 := Lib.hid (HBj.out.kept (kA.trans k8) (fun h => by cases h))
                    have HRun := Lib.hid (app_S1 le S8 K8 (by have := HNj.out; have := HN.out; omega))
                    clear kA k8 S8 K8
                    go_wp2_with (at_builtin; refine wpList_app rfl (.tmp 112) (.tmp 115) _ rfl _ _ rfl rfl (HRun.out _) ?_; rintro v9 w9 ⟨A9, c9, rfl, o9, k9, hkb⟩; clear HRun)
                    go_roundw
                    case rel => exact ⟨j + 1, M ++ [le], A9, c9, by omega, by go_num, by simp, by (have := HNj.out; rw [Hid, List.length_append, List.length_singleton]; omega), HT2, HO2, Lib.hid o9, hkb _ _ _ T8.out (by decide), hkb _ _ _ B8.out (by decide), Lib.hid k9⟩
                    case measure => simp [RowKit.intOf]; omega
                · obtain rfl : j = ents.length := by omega
                  have HT2 : Hid (M = hd :: (ps.take (k + 1)).flatMap (fun p => slotLines p.1)) := by
                    rw [Hid, HTk.out, HTj.out, HT.out, List.take_length, List.flatMap_append, ← hsl2.out]
                    simp [slotLines]
                  have HO2 : Hid (∀ p ∈ ps.take (k + 1), okS p.1 = true) := fun p hp => by
                    rw [HTk.out] at hp
                    rcases List.mem_append.1 hp with hp | hp
                    · exact HO.out p hp
                    · obtain rfl := List.mem_singleton.1 hp
                      have h1 := HOj.out
                      rw [List.take_length] at h1
                      have h5 := H5.out
                      simp only [List.all_cons, List.all_nil, Bool.and_true, Bool.and_eq_true] at h5
                      exact okS_yes (by simp [h5.1, h5.2.1, h5.2.2.1, h5.2.2.2.2]) h5.2.2.2.1 (by simp) h1
                  go_wp2_with fail
                  go_roundw
                  case rel => exact ⟨k + 1, M, AM, cM, by omega, by go_num, rfl, by (have h1 := HN.out; have h2 := HNj.out; rw [Hid]; omega), HT2, HO2, HSj, HBj, HKj⟩
                  case measure => simp [RowKit.intOf]; omega
            · have hv := Lib.hid (HNs.out (okS_state hs1 hs2))
              have hb1 : (state == 1) = false := by simpa using hs1
              have hb2 : (state == 2) = false := by simpa using hs2
              have hb3 : (state != 1) = true := by simpa using hs1
              have hb4 : (state != 2) = true := by simpa using hs2
              have x1 := TA.out.cell 1
              simp only [List.getElem?_toArray, List.getElem?_cons_zero, List.getElem?_cons_succ] at x1
              go_wp2_with fail
              exact HNo.out _ hv.out KA.out
      · obtain rfl : k = ps.length := by omega
        have hv : Hid (linesD ⟨a, b, c, ps.map (·.1)⟩ = some L) := by
          have h1 := HO.out
          have h2 := HT.out
          rw [List.take_length] at h1 h2
          rw [Hid, lines_yes (r := ⟨a, b, c, ps.map (·.1)⟩) H3.out (fun x hx => by
            obtain ⟨p, hp, rfl⟩ := List.mem_map.1 hx
            exact h1 p hp), h2, ← hhd.out]
          show some (_ :: (ps.map (·.1)).flatMap slotLines) = _
          rw [List.flatMap_map]
          rfl
        go_wp2_with fail
        exact HYes.out _ L A' c' hv.out (by have := HN.out; omega) HS.out HK.out
end Go.Proofs.YtooplogodcadgaaDoor
