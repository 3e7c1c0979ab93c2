/- Dumps: the program's Lines. -/
import Derived.Test.YtooplogodcadgaaDoorDuV
namespace Go.Proofs.YtooplogodcadgaaDoor
open Go.RowKit Go.Lib

set_option maxRecDepth 8000 in
/-- rows of texts, one behind the other -/
theorem app_Ss {W w : World} {A' A2 : Option Addr} {c' c2 m : Nat} {l l2 : List Bs} (HO : SAt W.heap.size w A' c' l) (H2 : SAt m w A2 c2 l2) (HK : Kept [] W w) (hn : l.length + l2.length ≤ 4000000) (ty : TypeId) :
    ∃ v' w', (Builtin.append_ #[29, 29] ty #[.slice A' l.length c', .slice A2 l2.length c2]).run Tryd.prog w = .ok v' w' ∧ ∃ (A3 : Option Addr) (c3 : Nat), v' = .slice A3 (l ++ l2).length c3 ∧ SAt W.heap.size w' A3 c3 (l ++ l2) ∧ Kept [] W w' := by
  obtain ⟨i0, p0, p1, p2, p3⟩ := info_parts infoS
  have hlo : ∀ j, (Value.slice A' l.length c').ownBlock = some j → W.heap.size ≤ j := fun j hj => (World.ownsRow.lt HO j hj).1
  have hr2 := Rd.of_own H2
  have hA0 : A2 = none → c2 = 0 := fun h => by
    rcases H2.2 with ⟨h1, _⟩ | ⟨g, cap, cur, h1, _⟩
    · injection h1
    · injection h1 with h1
      rw [h] at h1
      cases h1
  obtain ⟨v', w', hr, h2, h3, h4⟩ := run_app (P := Tryd.prog) w 29 ty 9 i0 _ 1 16 Tryd.underlying29 p0 p1 p2 p3 rfl (by decide) _ _ _ (own_down HO (Nat.zero_le _)) A2 l2.length c2 (l2.map sV) (by simp) hA0 (fun hp => by
    obtain ⟨b, o, e, _, hc⟩ := hr2.2 hp
    exact ⟨b, o, e, hc⟩) (fun u hu => by
    obtain ⟨x, _, rfl⟩ := List.mem_map.1 hu
    rfl) (by simp only [maxLen]; omega) (by omega)
  have hz := HK.size
  rw [← List.map_append, ← List.length_append] at h2
  have h5 : w'.ownsRow W.heap.size 9 1 v' (l ++ l2).length ((l ++ l2).map sV) := own_up h2 (fun j hj => by
    rcases h4 with h | h
    · exact hlo j (h ▸ hj)
    · rw [h] at hj
      injection hj with hj
      subst hj
      exact hz)
  obtain ⟨A3, c3, rfl, _⟩ := own_slice h5
  exact ⟨_, w', hr, A3, c3, rfl, h5, HK.grown h3 (fun j e => .inr (hlo j e))⟩
/-- one text more, and which block was written -/
theorem app_S1 {W w : World} {A' : Option Addr} {c' : Nat} {l : List Bs} (x : Bs) (HO : SAt W.heap.size w A' c' l) (HK : Kept [] W w) (hn : l.length ≤ 4000000) (ty : TypeId) :
    ∃ v' w', (Builtin.append_ #[29, 29] ty #[.slice A' l.length c', .slice (some ⟨w.heap.size, 0, none⟩) 1 1]).run Tryd.prog (w.alloc (.cells #[.string ⟨x.toArray⟩] 9)) = .ok v' w' ∧ ∃ (A2 : Option Addr) (c2 : Nat), v' = .slice A2 (l ++ [x]).length c2 ∧ SAt W.heap.size w' A2 c2 (l ++ [x]) ∧ Kept [] W w' ∧ ∀ (g t : Nat) (cs : Array Value), Blk w g t cs → 9 ≠ t → Blk w' g t cs := by
  obtain ⟨i0, p0, p1, p2, p3⟩ := info_parts infoS
  have hlo : ∀ j, (Value.slice A' l.length c').ownBlock = some j → W.heap.size ≤ j := fun j hj => (World.ownsRow.lt HO j hj).1
  obtain ⟨v', w', hr, h2, h3, h4⟩ := run_app (P := Tryd.prog) (w.alloc (.cells #[.string ⟨x.toArray⟩] 9)) 29 ty 9 i0 _ 1 16 Tryd.underlying29 p0 p1 p2 p3 rfl (by decide) _ _ _ (own_down (World.ownsRow.alloc HO _) (Nat.zero_le _)) (some ⟨w.heap.size, 0, none⟩) 1 1 [sV x] rfl (fun h => by cases h) (fun _ => ⟨_, 0, rfl, fun j u hu => by
    have := World.news_of_block (Blk.new w 9 #[sV x]) j u hu
    rwa [Addr.add_lit] at this⟩) (by simp [sV, Value.oneCell']) (by simp only [maxLen]; omega) (by omega)
  have h5 : w'.ownsRow W.heap.size 9 1 v' (l.length + 1) ((l ++ [x]).map sV) := by
    rw [List.map_append]
    refine own_up h2 (fun j hj => ?_)
    rcases h4 with h | h
    · exact hlo j (h ▸ hj)
    · rw [h] at hj
      injection hj with hj
      subst hj
      have := HK.size
      simp
      omega
  have e1 : l.length + 1 = (l ++ [x]).length := by simp
  rw [e1] at h5
  have k1 : Kept (Value.slice A' l.length c').ownBlock.toList w w' := ((Kept.refl _ w).alloc _).grown h3 (fun y hy => .inl (by rw [Option.mem_toList]; exact hy))
  obtain ⟨A2, c2, rfl, _⟩ := own_slice h5
  exact ⟨_, w', hr, A2, c2, rfl, h5, (HK.alloc _).grown h3 (fun j e => .inr (hlo j e)), fun g t cs hb hne => hb.kept k1 (fun hm => own_ne HO hb hne g (by simpa using hm) rfl)⟩
theorem IAt.drew {w : World} {b : Nat} {l : List Int} (h : IAt w b l) : IAt w.drew b l := h
theorem okS_no5 {x : Sl} (h : [x.id, x.st, x.len, x.gen, x.room].all in32 = false) : okS x = false := by
  rw [Bool.eq_false_iff]
  intro ho
  obtain ⟨h1, _, _⟩ := okS_parts ho
  rw [Bool.eq_false_iff] at h
  exact h (List.all_eq_true.2 h1)
theorem lines_noH {r : Rp} (h : okH r = false) : linesD r = none := by
  unfold linesD
  rw [if_neg (by rw [h]; simp)]
theorem lines_noS {r : Rp} {x : Sl} (hx : x ∈ r.lines) (h : okS x = false) : linesD r = none := by
  unfold linesD
  refine if_neg (fun h2 => ?_)
  rw [List.all_eq_true.1 h2.2 x hx] at h
  cases h
theorem lines_yes {r : Rp} (h : okH r = true) (h2 : ∀ x ∈ r.lines, okS x = true) : linesD r = some (headL r :: r.lines.flatMap slotLines) := by
  unfold linesD
  rw [if_pos ⟨h, List.all_eq_true.2 h2⟩]
def LinesPost (r : Rp) (w : World) (e : Ending) (w' : World) : Prop := Kept [] w w' ∧ ((linesD r = none ∧ e = .returned (.tuple #[.slice none 0 0, .int .i64 1])) ∨ ∃ (L : List Bs) (A : Option Addr) (c : Nat), linesD r = some L ∧ e = .returned (.tuple #[.slice A L.length c, .int .i64 0]) ∧ L.length ≤ 1100000 ∧ SAt w.heap.size w' A c L)
set_option maxRecDepth 8000 in
set_option maxHeartbeats 8000000 in
theorem dump_Lines (a b c : Int) (A : Option Addr) (cA : Nat) (ps : List Pr) (w : World) (hL : Laid w) (hr : LRd w A ps) (hg : ∀ p ∈ ps, in32 p.1.gen = true) (hn : ps.length ≤ 1000) (he : ∀ p ∈ ps, p.1.ents.length ≤ 1000) : Calls Tryd.prog 8 #[.agg #[.int .i64 a, .int .i64 b, .int .i64 c, .slice A ps.length cA]] w (LinesPost ⟨a, b, c, ps.map (·.1)⟩ w) := by
  have HNo : Hid (∀ w', linesD ⟨a, b, c, ps.map (·.1)⟩ = none → Kept [] w w' → LinesPost ⟨a, b, c, ps.map (·.1)⟩ w (.returned (.tuple #[.slice none 0 0, .int .i64 1])) w') := fun w' h k => ⟨k, .inl ⟨h, rfl⟩⟩
  have HYes : Hid (∀ w' (L : List Bs) (A : Option Addr) (cL : Nat), linesD ⟨a, b, c, ps.map (·.1)⟩ = some L → L.length ≤ 1100000 → SAt w.heap.size w' A cL L → Kept [] w w' → LinesPost ⟨a, b, c, ps.map (·.1)⟩ w (.returned (.tuple #[.slice A L.length cL, .int .i64 0])) w') := fun w' L A c h h2 o k => ⟨k, .inr ⟨L, A, c, h, rfl, h2, o⟩⟩
  generalize LinesPost ⟨a, b, c, ps.map (·.1)⟩ w = Q at *
  have HR := Lib.hid hr
  have HG := Lib.hid hg
  have HE := Lib.hid he
  have HLi : Hid (∀ (f : Bs) (V : World) (b c : Nat) (l : List Int), Kept [] w V → IAt V b l → f.length ≤ 1000 → f.count 35 = l.length → (∀ y ∈ l, in32 y = true) → Calls Tryd.prog 17 #[.string ⟨f.toArray⟩, .slice (some ⟨b, 0, none⟩) l.length c] V (LinePost f l V)) := fun f V b c l k h1 h2 h3 h4 => dump_line f b c l V (hL.kept k) h1 h2 h3 h4
  unfold LinePost at HLi
  have HSl : Hid (∀ (x : Sl) (AE : Option Addr) (cE : Nat) (V : World), Kept [] w V → ERd V (.slice AE x.ents.length cE) x.ents → in32 x.gen = true → x.ents.length ≤ 100000 → Calls Tryd.prog 18 #[.agg (lineC x (.slice AE x.ents.length cE))] V (PSlotPost x V)) := fun x AE cE V k h1 h2 h3 => dump_slot x AE cE V (hL.kept k) h1 h2 h3
  unfold lineC at HSl
  have HIn : Hid (∀ (zs : List Int) (V : World) (b c : Nat), IAt V b zs → zs.length ≤ 1000 → Calls Tryd.prog 16 #[.slice (some ⟨b, 0, none⟩) zs.length c] V (InPost zs V)) := fun zs V b c h1 h2 => dump_in V b c zs h1 (by omega)
  unfold InPost at HIn
  have K0 := Lib.hid (((Kept.refl [] w).alloc (.cells #[.int .i64 a, .int .i64 b, .int .i64 c, .slice A ps.length cA] 26)).alloc (.cells #[.int .i64 a, .int .i64 b, .int .i64 c] 23))
  have B0 := Lib.hid ((Blk.new w 26 #[.int .i64 a, .int .i64 b, .int .i64 c, .slice A ps.length cA]).alloc (.cells #[.int .i64 a, .int .i64 b, .int .i64 c] 23))
  clear hL hr hg he
  go_enter Tryd.func8, Tryd.ntmps8
  go_wp2_with fail
  refine (HIn.out [a, b, c] _ _ _ (IAt.new' (l := [a, b, c]) (by simp)) (by simp)).mono ?_
  rintro e w1 ⟨rfl, rfl⟩
  cases h3 : [a, b, c].all in32 with
  | false =>
    have hv := Lib.hid (lines_noH (r := ⟨a, b, c, ps.map (·.1)⟩) h3)
    clear h3
    go_wp2_with fail
    exact HNo.out _ hv.out (K0.out.alloc _)
  | true =>
    have H3 := Lib.hid h3
    have HLD := Lib.hid (fun V b' c' k h => HLi.out tD V b' c' [a, b, c] k h (by decide) rfl (List.all_eq_true.1 h3))
    rw [line_disk] at HLD
    clear h3
    obtain ⟨hd, hhd⟩ : ∃ hd, joinL (fillW wD [a, b, c]) = hd := ⟨_, rfl⟩
    rw [hhd] at HLD
    replace hhd := Lib.hid hhd
    go_wp2_with fail
    refine (HLD.out _ _ _ ((K0.out.alloc _).alloc _) (IAt.new' (l := [a, b, c]) (by simp))).mono ?_
    rintro e w2 ⟨rfl, k2⟩
    have K2 := Lib.hid (((K0.out.alloc _).alloc _).trans k2)
    have B2 := Lib.hid (((B0.out.alloc (.cells #[.int .i64 a, .int .i64 b, .int .i64 c] 3)).alloc (.cells #[.int .i64 a, .int .i64 b, .int .i64 c] 3)).kept k2 (fun h => by cases h))
    have b3 := B2.out.cell 3
    simp only [List.getElem?_toArray, List.getElem?_cons_zero, List.getElem?_cons_succ] at b3
    have b3a := ((Kept.refl [] w2).alloc (.cells #[.string ⟨hd.toArray⟩] 9)).cell b3 (fun h => by cases h)
    have O2 := Lib.hid (own_down (oneS w2 hd) K2.out.size)
    clear k2
    go_wp2_with fail
    go_loopw [5, 33] (fun t i V => ∃ (k : Nat) (L : List Bs) (A' : Option Addr) (c' : Nat), k ≤ ps.length ∧ i = .int .i64 k ∧ t = .slice A' L.length c' ∧ Hid (L.length ≤ 1 + k * 1001) ∧ Hid (L = hd :: (ps.take k).flatMap (fun p => slotLines p.1)) ∧ Hid (∀ p ∈ ps.take k, okS p.1 = true) ∧ Hid (SAt w.heap.size V A' c' L) ∧ Hid (Kept [] w V)) (fun _ i _ => ps.length - (RowKit.intOf i).toNat)
    case atStart => exact ⟨0, [hd], some ⟨w2.heap.size, 0, none⟩, 1, Nat.zero_le _, rfl, rfl, Nat.le_refl _, rfl, (fun _ h => by cases h), O2.out, K2.out.alloc _⟩
    case round =>
      obtain ⟨k, L, A', c', hk, rfl, rfl, HN, HT, HO, HS, HK⟩ := hrel
      by_cases hlt : k < ps.length
      · obtain ⟨b', o, rfl, d0, d1, d2, d3, d4, d5, d6, d7⟩ := HR.out.at_ hlt
        have hki : (k : Int) < (ps.length : Int) := by omega
        have hwk : IntKind.i64.wrap ((k : Int) + 1) = (k : Int) + 1 := IntWalk.i64_in _ (by omega)
        have hmem := List.getElem_mem hlt
        have hen := HE.out _ hmem
        have hgn := Lib.hid (HG.out _ hmem)
        have HNs : Hid (okS ps[k].1 = false → linesD ⟨a, b, c, ps.map (·.1)⟩ = none) := lines_noS (List.mem_map.2 ⟨_, hmem, rfl⟩)
        have HTk : Hid (ps.take (k + 1) = ps.take k ++ [ps[k]]) := List.take_succ_eq_append_getElem hlt
        obtain ⟨AE, cE, hEv, hEr⟩ := HR.out.2 _ hmem
        rw [hEv] at d7
        have hER : ERd w (.slice AE ps[k].1.ents.length cE) ps[k].1.ents := ⟨AE, cE, rfl, hEr⟩
        have e0 := HK.out.cell d0 (fun h => by cases h)
        have e1 := HK.out.cell d1 (fun h => by cases h)
        have e2 := HK.out.cell d2 (fun h => by cases h)
        have e3 := HK.out.cell d3 (fun h => by cases h)
        have e4 := HK.out.cell d4 (fun h => by cases h)
        have e5 := HK.out.cell d5 (fun h => by cases h)
        have e6 := HK.out.cell d6 (fun h => by cases h)
        have e7 := HK.out.cell d7 (fun h => by cases h)
        clear d0 d1 d2 d3 d4 d5 d6 d7 hEr hEv hmem
        generalize ps[k] = p at *
        obtain ⟨x, E⟩ := p
        dsimp only at e0 e1 e2 e3 e4 e5 e6 e7 hER hgn HNs hen
        replace hER := Lib.hid hER
        go_wp2_with fail
        refine (HSl.out x AE cE _ (HK.out.alloc _) (hER.out.kept (HK.out.alloc _)) hgn.out (by omega)).mono ?_
        rintro e w5 ⟨k5, ⟨hno, rfl⟩ | ⟨hyes, L5, A5, c5, hL5, rfl, o5⟩⟩
        · have hv := Lib.hid (HNs.out hno)
          have K5 := Lib.hid ((HK.out.alloc _).trans k5)
          clear hno k5
          go_wp2_with fail
          exact HNo.out _ hv.out K5.out
        · have kA := (Kept.refl [] wr).alloc (.cells #[.int .i64 x.id, .int .i64 x.state, .int .i64 x.st, .int .i64 x.len, .int .u32 x.gen, .int .i64 x.room, .bool x.inv, .slice AE x.ents.length cE] 54)
          have S5 := HS.out.kept (kA.trans k5)
          have K5 := HK.out.trans (kA.trans k5)
          have hl5 : L5.length = x.ents.length + 1 := by
            rw [hL5]
            simp [slotLines]
          have HRun := Lib.hid (app_Ss S5 o5 K5 (by have := HN.out; omega))
          have HT2 : Hid (L ++ L5 = hd :: (ps.take (k + 1)).flatMap (fun p => slotLines p.1)) := by
            rw [Hid, HTk.out, HT.out, hL5, List.flatMap_append]
            simp
          have HO2 : Hid (∀ p ∈ ps.take (k + 1), okS p.1 = true) := fun p hp => by
            rw [HTk.out] at hp
            rcases List.mem_append.1 hp with hp | hp
            · exact HO.out p hp
            · obtain rfl := List.mem_singleton.1 hp
              exact hyes
          replace hl5 := Lib.hid hl5
          clear kA k5 S5 K5 o5 hL5 hyes HTk e0 e1 e2 e3 e4 e5 e6 e7
          go_wp2_with (at_builtin; refine wpList_app rfl (.tmp 44) (.tmp 45) _ rfl _ _ rfl rfl (HRun.out _) ?_; rintro v6 w6 ⟨A6, c6, rfl, o6, k6⟩; clear HRun)
          go_roundw
          case rel => exact ⟨k + 1, L ++ L5, A6, c6, by omega, by go_num, by simp, by (have h1 := HN.out; have h2 := hl5.out; rw [Hid, List.length_append]; omega), HT2, HO2, Lib.hid o6, Lib.hid k6⟩
          case measure => simp [RowKit.intOf]; omega
      · obtain rfl : k = ps.length := by omega
        have hv : Hid (linesD ⟨a, b, c, ps.map (·.1)⟩ = some L) := by
          have h1 := HO.out
          have h2 := HT.out
          rw [List.take_length] at h1 h2
          rw [Hid, lines_yes (r := ⟨a, b, c, ps.map (·.1)⟩) H3.out (fun x hx => by
            obtain ⟨p, hp, rfl⟩ := List.mem_map.1 hx
            exact h1 p hp), h2, ← hhd.out]
          show some (_ :: (ps.map (·.1)).flatMap slotLines) = _
          rw [List.flatMap_map]
          rfl
        go_wp2_with fail
        exact HYes.out _ L A' c' hv.out (by have := HN.out; omega) HS.out HK.out
end Go.Proofs.YtooplogodcadgaaDoor
