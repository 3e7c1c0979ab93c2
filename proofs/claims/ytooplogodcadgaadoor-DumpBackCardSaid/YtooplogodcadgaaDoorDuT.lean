/- Dumps: the program's parse: a report of lines. -/
import Derived.Test.YtooplogodcadgaaDoorDuP
import Derived.Test.YtooplogodcadgaaDoorDuS
namespace Go.Proofs.YtooplogodcadgaaDoor
open Go.RowKit Go.Lib

theorem WAt.lt {w : World} {R : Nat} {ws : List Bs} (h : WAt w R ws) : R < w.heap.size := by
  obtain ⟨A, c, hB, _⟩ := h
  exact hB.lt
theorem WAt.box {n₀ c : Nat} {w : World} {A : Option Addr} {ws : List Bs} (h : SAt n₀ w A c ws) : WAt (w.alloc (.cells #[.slice A ws.length c] 82)) w.heap.size ws := by
  refine ⟨A, c, Blk.new w _ _, fun hne => ?_⟩
  obtain ⟨g, c', e, hc⟩ := own_some h (List.length_pos_iff.2 hne)
  injection e with e _ e2
  subst e
  subst e2
  refine ⟨g, 0, rfl, (World.ownsRow.lt h g rfl).2, hc, fun j hj => ?_⟩
  rw [Nat.zero_add]
  exact ((Kept.refl [] w).alloc _).cell (own_cell1 h j _ (by rw [List.getElem?_map, List.getElem?_eq_getElem hj]; rfl)) (fun h => by cases h)
/-- a store into a report leaves the words -/
theorem WAt.report {w : World} {R B t n c' : Nat} {ws : List Bs} {a b c : Int} {A' : Option Addr} (h : WAt w R ws) (hB : Blk w B t #[.int .i64 a, .int .i64 b, .int .i64 c, .slice A' n c']) (hne : B ≠ R) (j : Nat) (u : Value) : WAt (w.setCell ⟨B, j, none⟩ u) R ws := by
  obtain ⟨A, c, hb, hw⟩ := h
  refine ⟨A, c, hb.far (p := ⟨B, j, none⟩) (fun h => hne h.symm) u, fun hn => ?_⟩
  obtain ⟨g, o, e, h1, h2, h3⟩ := hw hn
  have hg : g ≠ B := by
    rintro rfl
    have hpos := List.length_pos_iff.2 hn
    have hc := h3 0 hpos
    rw [Nat.add_zero, hB.cell] at hc
    match o, hc with
    | 0, hc => cases hc
    | 1, hc => cases hc
    | 2, hc => cases hc
    | 3, hc => cases hc
    | o + 4, hc => cases hc
  exact ⟨g, o, e, h1, h2, fun k hk => ((Kept.refl [B] w).setCell (p := ⟨B, j, none⟩) (.inl (List.mem_singleton.2 rfl)) u).cell (h3 k hk) (fun h => hg (List.mem_singleton.1 h))⟩
theorem LOw.keptB {T n₀ t R : Nat} {w w' : World} {V : Value} {ps : List Pr} {cs : Array Value} (h : LOw T n₀ w V ps) (k : Kept [R] w w') (hb : Blk w R t cs) (h1 : T ≠ t) (h2 : 56 ≠ t) : LOw T n₀ w' V ps :=
  ⟨k.owns h.row (fun x hx hm => own_ne h.row hb h1 x hx (List.mem_singleton.1 hm)), fun p hp => k.owns (h.ents p hp) (fun x hx hm => own_ne (h.ents p hp) hb h2 x hx (List.mem_singleton.1 hm)), h.apart⟩
theorem LOw.words {T n₀ R : Nat} {w w' : World} {V : Value} {ps : List Pr} {ws : List Bs} (h : LOw T n₀ w V ps) (k : Kept [R] w w') (a : WAt w R ws) (h1 : T ≠ 82) (h2 : 56 ≠ 82) : LOw T n₀ w' V ps := by
  obtain ⟨A, c, hB, _⟩ := a
  exact h.keptB k hB h1 h2
def PushR (T : TypeId) (n₀ : Nat) (W w : World) (V : Value) (ps : List Pr) (x : Sl) (v' : Value) (w' : World) : Prop := LOw T n₀ w' v' (ps ++ [(x, nilE)]) ∧ Kept [] W w' ∧ Kept V.ownBlock.toList w w'
theorem results_pparse (tmps : Array Value) (w : World) (b2 : Nat) (a b c : Int) (V : Value) (hp : tmps[2]?.getD undef = .pointer (some ⟨b2, 0, none⟩)) (h0 : Blk w b2 26 #[.int .i64 a, .int .i64 b, .int .i64 c, V]) :
    (results Tryd.f23 tmps).run Tryd.prog w = .ok (repV a b c V) w := by
  obtain ⟨c0, c1, c2, c3⟩ := blk4 h0
  simp [results, hp, asAddr, c0, c1, c2, c3, go_sem, repV]
def PPPost (l : List Bs) (w : World) (e : Ending) (w' : World) : Prop := Kept [] w w' ∧ ((parseD l = none ∧ e = .panicked [badV]) ∨ ∃ r V ps, parseD l = some r ∧ e = .returned (repV r.sec r.org r.chk V) ∧ ps.map (·.1) = r.lines ∧ ps.length ≤ l.length ∧ LOw 54 w.heap.size w' V ps)
set_option maxRecDepth 8000 in
set_option maxHeartbeats 8000000 in
theorem dump_parse (A : Option Addr) (c : Nat) (l : List Bs) (w : World) (hL : Laid w) (hl : TRd w A l) (hc : l.length ≤ c) (hn : l.length ≤ 100000) (hs : ∀ x ∈ l, x.length ≤ 100000) : Calls Tryd.prog 23 #[.slice A l.length c] w (PPPost l w) := by
  have HNo : Hid (∀ w', parseD l = none → Kept [] w w' → PPPost l w (.panicked [badV]) w') := fun w' h k => ⟨k, .inl ⟨h, rfl⟩⟩
  have HYes : Hid (∀ w' r V ps, parseD l = some r → ps.map (·.1) = r.lines → ps.length ≤ l.length → LOw 54 w.heap.size w' V ps → Kept [] w w' → PPPost l w (.returned (repV r.sec r.org r.chk V)) w') := fun w' r V ps h h2 h4 h3 k => ⟨k, .inr ⟨r, V, ps, h, rfl, h2, h4, h3⟩⟩
  generalize PPPost l w = Q at *
  have HL := Lib.hid hl
  have HS := Lib.hid hs
  have HLd := Lib.hid hL
  have HSp : Hid (∀ (s : Bs) (V : World), s.length ≤ 100000 → Kept [] w V → Calls Tryd.prog 32 #[.string ⟨s.toArray⟩, .string ⟨#[32]⟩] V fun e w' => ∃ (A : Option Addr) (c : Nat), e = .returned (.slice A (spl s).length c) ∧ SAt V.heap.size w' A c (spl s) ∧ Kept [] V w') := fun s V h k => lib_Split s (by omega) V (hL.kept k)
  have HNum : Hid (∀ R ws k V, Kept [] w V → w.heap.size ≤ R → WAt V R (ws.drop k) → ws.length ≤ 1000000 → (∀ x ∈ ws, x.length ≤ 1000000) → Calls Tryd.prog 34 #[.pointer (some ⟨R, 0, none⟩)] V (NumK R ws k V)) := fun R ws k V kk hR a h1 h2 => number_k R k ws V (fun V' k' => hL.kept (kk.trans' k' (fun x hx => .inr (by rw [List.mem_singleton.1 hx]; exact hR)))) a h1 h2
  have HIs : Hid (∀ R ws k V b c l, WAt V R (ws.drop k) → ws.length ≤ 1000000 → TAt V b l → l.length ≤ 1000 → b ≠ R → Calls Tryd.prog 33 #[.pointer (some ⟨R, 0, none⟩), .slice (some ⟨b, 0, none⟩) l.length c] V (IsK R ws l k V)) := fun R ws k V b c l a h1 t hl hb => is_k R k b c ws l V a h1 t hl hb
  have HY0 := Lib.hid ((Blk.new w 26 #[.int .i64 0, .int .i64 0, .int .i64 0, .slice none 0 0]).alloc (.cells #[.int .i64 0, .int .i64 0, .int .i64 0, .slice none 0 0] 26))
  have HX0 : Hid (Blk ((w.alloc (.cells #[.int .i64 0, .int .i64 0, .int .i64 0, .slice none 0 0] 26)).alloc (.cells #[.int .i64 0, .int .i64 0, .int .i64 0, .slice none 0 0] 26)) (w.heap.size + 1) 26 #[.int .i64 0, .int .i64 0, .int .i64 0, .slice none 0 0]) := by
    have h := (Blk.new (w.alloc (.cells #[.int .i64 0, .int .i64 0, .int .i64 0, .slice none 0 0] 26)) 26 #[.int .i64 0, .int .i64 0, .int .i64 0, .slice none 0 0])
    rwa [show (w.alloc (.cells #[.int .i64 0, .int .i64 0, .int .i64 0, .slice none 0 0] 26)).heap.size = w.heap.size + 1 by simp] at h
  have HK0 := Lib.hid (((Kept.refl [] w).alloc (.cells #[.int .i64 0, .int .i64 0, .int .i64 0, .slice none 0 0] 26)).alloc (.cells #[.int .i64 0, .int .i64 0, .int .i64 0, .slice none 0 0] 26))
  obtain ⟨i0, p0, p1, p2, p3⟩ := info_parts infoP
  clear hL hl hs
  by_cases h0 : l.length = 0
  · have hv : Hid (parseD l = none) := by
      obtain rfl := List.length_eq_zero_iff.1 h0
      rfl
    rw [h0]
    go_enter Tryd.func23, Tryd.ntmps23
    go_wp2_with fail
    first | exact HNo.out _ hv.out HK0.out | exact ⟨rfl, HNo.out _ hv.out HK0.out⟩
  · have hpos : 0 < l.length := by omega
    have HP := Lib.hid (parseD_at hpos)
    have hli : ((l.length : Int) == 0) = false := by rw [beq_eq_false_iff_ne]; omega
    have hli2 : (0 : Int) < (l.length : Int) := by omega
    have hli3 : (1 : Int) ≤ (l.length : Int) := by omega
    have hli4 : (1 : Nat) ≤ l.length := by omega
    obtain ⟨b, o, rfl, d0⟩ := HL.out.at_ hpos
    have e0 := HK0.out.cell d0 (fun h => by cases h)
    rw [Nat.add_zero] at e0
    have hs0 := HS.out _ (List.getElem_mem hpos)
    generalize l[0] = s0 at *
    clear d0 h0
    go_enter Tryd.func23, Tryd.ntmps23
    go_wp2_with fail
    refine (HSp.out s0 _ hs0 HK0.out).mono ?_
    rintro e w1 ⟨AS, c1, rfl, o1, k1⟩
    obtain ⟨ws, hws⟩ : ∃ ws, spl s0 = ws := ⟨_, rfl⟩
    have hwn : ws.length ≤ 1000000 := by
      rw [← hws, spl_len]
      have := List.count_le_length (a := (32 : UInt8)) (l := s0)
      omega
    have hwx : ∀ x ∈ ws, x.length ≤ 1000000 := fun x hx => by
      have := spl_size s0 x (hws ▸ hx)
      omega
    rw [hws] at o1 HP
    have HPN : Hid (pHead ws = none → parseD l = none) := fun h => by
      rw [← head_words, Option.map_eq_none_iff] at h
      rw [HP.out, h]
      rfl
    have K1 := Lib.hid ((HK0.out.trans k1).alloc (.cells #[.slice AS ws.length c1] 82))
    have A1 := Lib.hid (WAt.box o1)
    have X1 := Lib.hid ((HX0.out.kept k1 (fun h => by cases h)).alloc (.cells #[.slice AS ws.length c1] 82))
    have Y1 := Lib.hid ((HY0.out.kept k1 (fun h => by cases h)).alloc (.cells #[.slice AS ws.length c1] 82))
    have hxl := (HX0.out.kept k1 (fun h => by cases h)).lt
    have hRR : w.heap.size + 1 ≠ w1.heap.size := by omega
    have hRY : w.heap.size ≠ w1.heap.size := by omega
    have hRl : ∀ x ∈ [w1.heap.size], x ∈ ([] : List Nat) ∨ w.heap.size ≤ x := fun x hx => .inr (by rw [List.mem_singleton.1 hx]; omega)
    rw [hws]
    have hwn := Lib.hid hwn
    have hwx := Lib.hid hwx
    clear o1 k1 e0 hs0 HX0 HY0 hws
    go_wp2_with fail
    have KK := K1.out.alloc (.cells #[.string ⟨#[100, 105, 115, 107]⟩] 9)
    have AA := A1.out.kept ((Kept.refl [] _).alloc (.cells #[.string ⟨#[100, 105, 115, 107]⟩] 9))
    have XX := X1.out.alloc (.cells #[.string ⟨#[100, 105, 115, 107]⟩] 9)
    have YY := Y1.out.alloc (.cells #[.string ⟨#[100, 105, 115, 107]⟩] 9)
    have TT : TAt ((w1.alloc (.cells #[.slice AS ws.length c1] 82)).alloc (.cells #[.string ⟨#[100, 105, 115, 107]⟩] 9)) (w1.heap.size + 1) [[100, 105, 115, 107]] := TAt.new' (l := [[100, 105, 115, 107]]) (by simp)
    refine (HIs.out w1.heap.size ws 0 _ (w1.heap.size + 1) 1 [[100, 105, 115, 107]] AA hwn.out TT (by decide) (by omega)).mono ?_
    rintro e w2 ⟨k2, a2, ⟨hno, rfl⟩ | ⟨hin, rfl⟩⟩
    · have K2 := Lib.hid (KK.trans' k2 hRl)
      have hv : Hid (parseD l = none) := HPN.out (by
        rw [pHead, if_neg (fun h => hno (List.mem_singleton.2 h))])
      clear hno k2 KK AA XX YY TT a2
      go_wp2_with fail
      first | exact HNo.out _ hv.out K2.out | exact ⟨rfl, HNo.out _ hv.out K2.out⟩
    · have K2 := Lib.hid (KK.trans' k2 hRl)
      have A2 := Lib.hid a2
      have hr2 := a2.lt
      have X2 := Lib.hid (XX.kept k2 (fun h => hRR (List.mem_singleton.1 h)))
      have Y2 := Lib.hid (YY.kept k2 (fun h => hRY (List.mem_singleton.1 h)))
      have hz2 := K2.out.size
      clear k2 a2 KK AA XX YY TT
      clear A1 X1 Y1
      have F2 := Lib.hid (List.mem_singleton.1 hin)
      clear hin
      go_wp2_with fail
      have KK := K2.out
      have AA := A2.out
      have XX := X2.out
      have YY := Y2.out
      refine (HNum.out w1.heap.size ws 1 _ KK (by omega) AA hwn.out hwx.out).mono ?_
      rintro e w3 ⟨k3, ⟨hno, rfl⟩ | ⟨n1, ha, hi3, rfl, a3⟩⟩
      · have K3 := Lib.hid (KK.trans' k3 hRl)
        have hv : Hid (parseD l = none) := HPN.out (by
          rw [pHead, if_pos F2.out, hno]
          rfl)
        clear hno k3 KK AA XX YY
        go_wp2_with fail
        first | exact HNo.out _ hv.out K3.out | exact ⟨rfl, HNo.out _ hv.out K3.out⟩
      · have K3 := Lib.hid (KK.trans' k3 hRl)
        have A3 := Lib.hid a3
        have hr3 := a3.lt
        have X3 := Lib.hid (XX.kept k3 (fun h => hRR (List.mem_singleton.1 h)))
        have Y3 := Lib.hid (YY.kept k3 (fun h => hRY (List.mem_singleton.1 h)))
        have hz3 := K3.out.size
        clear k3 a3 KK AA XX YY
        clear A2 X2 Y2
        have F3 := Lib.hid ha
        clear ha
        have q3 := X3.out.cell 0
        have f3 := X3.out.frozen 0
        go_wp2_with fail
        clear q3 f3
        have KK := K3.out.setCell (p := ⟨w.heap.size + 1, 0, none⟩) (.inr (show w.heap.size ≤ w.heap.size + 1 by omega)) (.int .i64 n1)
        have AA := A3.out.report X3.out hRR 0 (.int .i64 n1)
        have XX : Blk (w3.setCell ⟨w.heap.size + 1, 0, none⟩ (.int .i64 n1)) (w.heap.size + 1) 26 #[.int .i64 n1, .int .i64 0, .int .i64 0, .slice none 0 0] := X3.out.set_ 0 _
        have YY := Y3.out.far (p := ⟨w.heap.size + 1, 0, none⟩) (show w.heap.size ≠ w.heap.size + 1 by omega) (.int .i64 n1)
        replace KK := KK.alloc (.cells #[.string ⟨#[111, 114, 105, 103, 105, 110]⟩] 9)
        replace AA := AA.kept ((Kept.refl [] _).alloc (.cells #[.string ⟨#[111, 114, 105, 103, 105, 110]⟩] 9))
        replace XX := XX.alloc (.cells #[.string ⟨#[111, 114, 105, 103, 105, 110]⟩] 9)
        replace YY := YY.alloc (.cells #[.string ⟨#[111, 114, 105, 103, 105, 110]⟩] 9)
        have TT : TAt ((w3.setCell ⟨w.heap.size + 1, 0, none⟩ (.int .i64 n1)).alloc (.cells #[.string ⟨#[111, 114, 105, 103, 105, 110]⟩] 9)) w3.heap.size [[111, 114, 105, 103, 105, 110]] := TAt.new' (l := [[111, 114, 105, 103, 105, 110]]) (by simp)
        refine (HIs.out w1.heap.size ws 2 _ w3.heap.size 1 [[111, 114, 105, 103, 105, 110]] AA hwn.out TT (by decide) (by omega)).mono ?_
        rintro e w4 ⟨k4, a4, ⟨hno, rfl⟩ | ⟨hin, rfl⟩⟩
        · have K4 := Lib.hid (KK.trans' k4 hRl)
          have hv : Hid (parseD l = none) := HPN.out (by
            rw [pHead, if_pos F2.out, F3.out, Option.bind_some, if_neg (fun h => hno (List.mem_singleton.2 h))])
          clear hno k4 KK AA XX YY TT a4
          go_wp2_with fail
          first | exact HNo.out _ hv.out K4.out | exact ⟨rfl, HNo.out _ hv.out K4.out⟩
        · have K4 := Lib.hid (KK.trans' k4 hRl)
          have A4 := Lib.hid a4
          have hr4 := a4.lt
          have X4 := Lib.hid (XX.kept k4 (fun h => hRR (List.mem_singleton.1 h)))
          have Y4 := Lib.hid (YY.kept k4 (fun h => hRY (List.mem_singleton.1 h)))
          have hz4 := K4.out.size
          clear k4 a4 KK AA XX YY TT
          clear A3 X3 Y3
          have F4 := Lib.hid (List.mem_singleton.1 hin)
          clear hin
          go_wp2_with fail
          have KK := K4.out
          have AA := A4.out
          have XX := X4.out
          have YY := Y4.out
          refine (HNum.out w1.heap.size ws 3 _ KK (by omega) AA hwn.out hwx.out).mono ?_
          rintro e w5 ⟨k5, ⟨hno, rfl⟩ | ⟨n2, ha, hi5, rfl, a5⟩⟩
          · have K5 := Lib.hid (KK.trans' k5 hRl)
            have hv : Hid (parseD l = none) := HPN.out (by
              rw [pHead, if_pos F2.out, F3.out, Option.bind_some, if_pos F4.out, hno]
              rfl)
            clear hno k5 KK AA XX YY
            go_wp2_with fail
            first | exact HNo.out _ hv.out K5.out | exact ⟨rfl, HNo.out _ hv.out K5.out⟩
          · have K5 := Lib.hid (KK.trans' k5 hRl)
            have A5 := Lib.hid a5
            have hr5 := a5.lt
            have X5 := Lib.hid (XX.kept k5 (fun h => hRR (List.mem_singleton.1 h)))
            have Y5 := Lib.hid (YY.kept k5 (fun h => hRY (List.mem_singleton.1 h)))
            have hz5 := K5.out.size
            clear k5 a5 KK AA XX YY
            clear A4 X4 Y4
            have F5 := Lib.hid ha
            clear ha
            have q5 := X5.out.cell 1
            have f5 := X5.out.frozen 1
            go_wp2_with fail
            clear q5 f5
            have KK := K5.out.setCell (p := ⟨w.heap.size + 1, 1, none⟩) (.inr (show w.heap.size ≤ w.heap.size + 1 by omega)) (.int .i64 n2)
            have AA := A5.out.report X5.out hRR 1 (.int .i64 n2)
            have XX : Blk (w5.setCell ⟨w.heap.size + 1, 1, none⟩ (.int .i64 n2)) (w.heap.size + 1) 26 #[.int .i64 n1, .int .i64 n2, .int .i64 0, .slice none 0 0] := X5.out.set_ 1 _
            have YY := Y5.out.far (p := ⟨w.heap.size + 1, 1, none⟩) (show w.heap.size ≠ w.heap.size + 1 by omega) (.int .i64 n2)
            replace KK := KK.alloc (.cells #[.string ⟨#[99, 104, 117, 110, 107]⟩] 9)
            replace AA := AA.kept ((Kept.refl [] _).alloc (.cells #[.string ⟨#[99, 104, 117, 110, 107]⟩] 9))
            replace XX := XX.alloc (.cells #[.string ⟨#[99, 104, 117, 110, 107]⟩] 9)
            replace YY := YY.alloc (.cells #[.string ⟨#[99, 104, 117, 110, 107]⟩] 9)
            have TT : TAt ((w5.setCell ⟨w.heap.size + 1, 1, none⟩ (.int .i64 n2)).alloc (.cells #[.string ⟨#[99, 104, 117, 110, 107]⟩] 9)) w5.heap.size [[99, 104, 117, 110, 107]] := TAt.new' (l := [[99, 104, 117, 110, 107]]) (by simp)
            refine (HIs.out w1.heap.size ws 4 _ w5.heap.size 1 [[99, 104, 117, 110, 107]] AA hwn.out TT (by decide) (by omega)).mono ?_
            rintro e w6 ⟨k6, a6, ⟨hno, rfl⟩ | ⟨hin, rfl⟩⟩
            · have K6 := Lib.hid (KK.trans' k6 hRl)
              have hv : Hid (parseD l = none) := HPN.out (by
                rw [pHead, if_pos F2.out, F3.out, Option.bind_some, if_pos F4.out, F5.out, Option.bind_some, if_neg (fun h => hno (List.mem_singleton.2 h))])
              clear hno k6 KK AA XX YY TT a6
              go_wp2_with fail
              first | exact HNo.out _ hv.out K6.out | exact ⟨rfl, HNo.out _ hv.out K6.out⟩
            · have K6 := Lib.hid (KK.trans' k6 hRl)
              have A6 := Lib.hid a6
              have hr6 := a6.lt
              have X6 := Lib.hid (XX.kept k6 (fun h => hRR (List.mem_singleton.1 h)))
              have Y6 := Lib.hid (YY.kept k6 (fun h => hRY (List.mem_singleton.1 h)))
              have hz6 := K6.out.size
              clear k6 a6 KK AA XX YY TT
              clear A5 X5 Y5
              have F6 := Lib.hid (List.mem_singleton.1 hin)
              clear hin
              go_wp2_with fail
              have KK := K6.out
              have AA := A6.out
              have XX := X6.out
              have YY := Y6.out
              refine (HNum.out w1.heap.size ws 5 _ KK (by omega) AA hwn.out hwx.out).mono ?_
              rintro e w7 ⟨k7, ⟨hno, rfl⟩ | ⟨n3, ha, hi7, rfl, a7⟩⟩
              · have K7 := Lib.hid (KK.trans' k7 hRl)
                have hv : Hid (parseD l = none) := HPN.out (by
                  rw [pHead, if_pos F2.out, F3.out, Option.bind_some, if_pos F4.out, F5.out, Option.bind_some, if_pos F6.out, hno]
                  rfl)
                clear hno k7 KK AA XX YY
                go_wp2_with fail
                first | exact HNo.out _ hv.out K7.out | exact ⟨rfl, HNo.out _ hv.out K7.out⟩
              · have K7 := Lib.hid (KK.trans' k7 hRl)
                have A7 := Lib.hid a7
                have hr7 := a7.lt
                have X7 := Lib.hid (XX.kept k7 (fun h => hRR (List.mem_singleton.1 h)))
                have Y7 := Lib.hid (YY.kept k7 (fun h => hRY (List.mem_singleton.1 h)))
                have hz7 := K7.out.size
                clear k7 a7 KK AA XX YY
                clear A6 X6 Y6
                have F7 := Lib.hid ha
                clear ha
                have q7 := X7.out.cell 2
                have f7 := X7.out.frozen 2
                have KK := K7.out.setCell (p := ⟨w.heap.size + 1, 2, none⟩) (.inr (show w.heap.size ≤ w.heap.size + 1 by omega)) (.int .i64 n3)
                have AA := A7.out.report X7.out hRR 2 (.int .i64 n3)
                have XX : Blk (w7.setCell ⟨w.heap.size + 1, 2, none⟩ (.int .i64 n3)) (w.heap.size + 1) 26 #[.int .i64 n1, .int .i64 n2, .int .i64 n3, .slice none 0 0] := X7.out.set_ 2 _
                have YY := Y7.out.far (p := ⟨w.heap.size + 1, 2, none⟩) (show w.heap.size ≠ w.heap.size + 1 by omega) (.int .i64 n3)
                have HEn := Lib.hid (dump_end w1.heap.size (ws.drop 6) _ AA (by have := hwn.out; rw [List.length_drop]; omega))
                unfold EndPost at HEn
                go_wp2_with fail
                clear q7 f7
                refine HEn.out.mono ?_
                rintro e w8 ⟨⟨hnil, rfl⟩ | ⟨hne, rfl⟩, rfl⟩
                · have HP2 : Hid (parseD l = ((l.drop 1).foldlM stepP []).map fun ls => ⟨n1, n2, n3, ls⟩) := by
                    have h6 : ws.length ≤ 6 := List.drop_eq_nil_iff.1 hnil
                    have hp : pHead ws = some (n1, n2, n3) := by
                      rw [pHead, if_pos F2.out, F3.out, Option.bind_some, if_pos F4.out, F5.out, Option.bind_some, if_pos F6.out, F7.out, Option.bind_some, if_pos h6]
                    rw [← head_words] at hp
                    obtain ⟨ns, hns, he⟩ := Option.map_eq_some_iff.1 hp
                    rw [Hid, HP.out, hns]
                    injection he with e1 he
                    injection he with e2 e3
                    rw [Option.bind_some, e1, e2, e3]
                  replace KK := Lib.hid KK
                  replace XX := Lib.hid XX
                  replace YY := Lib.hid YY
                  try clear AA
                  try clear hnil
                  try clear HPN
                  try clear HP
                  try clear HEn
                  try clear hwn
                  try clear hwx
                  try clear F2
                  try clear F3
                  try clear F4
                  try clear F5
                  try clear F6
                  try clear F7
                  try clear A7
                  try clear X7
                  try clear Y7
                  try clear hRl
                  try clear hRR
                  try clear hRY
                  try clear hRl
                  try clear hi3
                  try clear hi5
                  try clear hi7
                  try clear K1
                  try clear K2
                  try clear K3
                  try clear K4
                  try clear K5
                  try clear K6
                  try clear K7
                  try clear hz2
                  try clear hz3
                  try clear hz4
                  try clear hz5
                  try clear hz6
                  try clear hz7
                  try clear hr2
                  try clear hr3
                  try clear hr4
                  try clear hr5
                  try clear hr6
                  try clear hr7
                  try clear hxl
                  have hlc : (l.length : Int) ≤ (c : Int) := by omega
                  go_wp2_with fail
                  · have h1 : l.length - 1 = 0 := by omega
                    replace h1 := Lib.hid h1
                    go_loopw [47] (fun i V => ∃ (k : Nat) (ps : List Pr) (Vl : Value), k ≤ l.length - 1 ∧ i = .int .i64 k ∧ Hid ((l.drop 1).foldlM stepP [] = (l.drop (k + 1)).foldlM stepP (ps.map (·.1))) ∧ ps.length ≤ k ∧ Hid (∀ p ∈ ps, p.1.ents.length ≤ k) ∧ Hid (Blk V (w.heap.size + 1) 26 #[.int .i64 n1, .int .i64 n2, .int .i64 n3, Vl]) ∧ Hid (Blk V w.heap.size 26 #[.int .i64 0, .int .i64 0, .int .i64 0, .slice none 0 0]) ∧ Hid (LOw 54 w.heap.size V Vl ps) ∧ Hid (Kept [] w V)) (fun i _ => l.length - (RowKit.intOf i).toNat)
                    case atStart => exact ⟨0, [], nilE, Nat.zero_le _, rfl, rfl, Nat.zero_le _, (fun _ h => by cases h), XX.out, YY.out, LOw.nil _ _ _, KK.out⟩
                    case round =>
                      obtain ⟨k, ps, Vl, hkl, rfl, HE, hpk, HEk, HX, HY, HO, HK⟩ := hrel
                      obtain ⟨Av, cv, rfl⟩ := HO.out.slice
                      have hk0 : k = l.length - 1 := by
                        have := h1.out
                        omega
                      subst hk0
                      have hv : Hid ((l.drop 1).foldlM stepP [] = some (ps.map (·.1))) := by
                        rw [Hid, HE.out, List.drop_eq_nil_of_le (show l.length ≤ l.length - 1 + 1 by omega)]
                        rfl
                      have HV : Hid (parseD l = some ⟨n1, n2, n3, ps.map (·.1)⟩) := by
                        rw [Hid, HP2.out, hv.out]
                        rfl
                      obtain ⟨r0, r1, r2, r3⟩ := blk4 HX.out
                      obtain ⟨y0, y1, y2, y3⟩ := blk4 HY.out
                      obtain ⟨g0, g1, g2, g3⟩ := frz4 HY.out
                      go_wp2_with fail
                      refine bodyPost_ret (results_pparse _ _ w.heap.size n1 n2 n3 (.slice Av ps.length cv) rfl (blk4_set HY.out _ _ _ _)) rfl ?_
                      exact HYes.out _ ⟨n1, n2, n3, ps.map (·.1)⟩ _ ps HV.out rfl (by omega) (far4 HO.out HY.out (by decide) (by decide) _ _ _ _) (kept4 HK.out (.inr (Nat.le_refl _)) _ _ _ _)
                  · go_loopw [47] (fun i V => ∃ (k : Nat) (ps : List Pr) (Vl : Value), k ≤ l.length - 1 ∧ i = .int .i64 k ∧ Hid ((l.drop 1).foldlM stepP [] = (l.drop (k + 1)).foldlM stepP (ps.map (·.1))) ∧ ps.length ≤ k ∧ Hid (∀ p ∈ ps, p.1.ents.length ≤ k) ∧ Hid (Blk V (w.heap.size + 1) 26 #[.int .i64 n1, .int .i64 n2, .int .i64 n3, Vl]) ∧ Hid (Blk V w.heap.size 26 #[.int .i64 0, .int .i64 0, .int .i64 0, .slice none 0 0]) ∧ Hid (LOw 54 w.heap.size V Vl ps) ∧ Hid (Kept [] w V)) (fun i _ => l.length - (RowKit.intOf i).toNat)
                    case atStart => exact ⟨0, [], nilE, Nat.zero_le _, rfl, rfl, Nat.zero_le _, (fun _ h => by cases h), XX.out, YY.out, LOw.nil _ _ _, KK.out⟩
                    case round =>
                      obtain ⟨k, ps, Vl, hkl, rfl, HE, hpk, HEk, HX, HY, HO, HK⟩ := hrel
                      obtain ⟨Av, cv, rfl⟩ := HO.out.slice
                      by_cases hlt : k < l.length - 1
                      · have hlt2 : k + 1 < l.length := by omega
                        obtain ⟨b', o', e', d0⟩ := HL.out.at_ hlt2
                        injection e' with e'
                        injection e' with e1 e2
                        subst e1
                        subst e2
                        rw [show o + (k + 1) = o + 1 + k by omega] at d0
                        have e0 := HK.out.cell d0 (fun h => by cases h)
                        have hki : (k : Int) < ((l.length - 1 : Nat) : Int) := by omega
                        have hsk := HS.out _ (List.getElem_mem hlt2)
                        have HDk := Lib.hid (List.drop_eq_getElem_cons hlt2)
                        have hwk : IntKind.i64.wrap ((k : Int) + 1) = (k : Int) + 1 := IntWalk.i64_in _ (by omega)
                        generalize l[k + 1] = s at *
                        have HE1 : Hid ((l.drop 1).foldlM stepP [] = (stepP (ps.map (·.1)) s).bind fun a => (l.drop (k + 1 + 1)).foldlM stepP a) := by
                          rw [Hid, HE.out, HDk.out, List.foldlM_cons]
                          rfl
                        clear d0
                        go_wp2_with fail
                        refine (HSp.out s _ hsk HK.out).mono ?_
                        rintro e w9 ⟨AS9, c9, rfl, o9, k9⟩
                        obtain ⟨t0, tr, hts⟩ := spl_ne s
                        have hwn : (t0 :: tr).length ≤ 1000000 := by
                          rw [← hts, spl_len]
                          have := List.count_le_length (a := (32 : UInt8)) (l := s)
                          omega
                        have hwx : ∀ x ∈ t0 :: tr, x.length ≤ 1000000 := fun x hx => by
                          have := spl_size s x (hts ▸ hx)
                          omega
                        rw [hts] at o9
                        rw [hts]
                        replace hts := Lib.hid hts
                        have hz9 : w.heap.size ≤ w9.heap.size := (HK.out.trans k9).size
                        have hX9 := (HX.out.kept k9 (fun h => by cases h))
                        have hxl := hX9.lt
                        have hRR : w.heap.size + 1 ≠ w9.heap.size := by omega
                        have hRY : w.heap.size ≠ w9.heap.size := by omega
                        have hRl : ∀ x ∈ [w9.heap.size], x ∈ ([] : List Nat) ∨ w.heap.size ≤ x := fun x hx => .inr (by rw [List.mem_singleton.1 hx]; omega)
                        have kA := (k9.alloc (.cells #[.slice AS9 (t0 :: tr).length c9] 82)).alloc (.cells #[.string ⟨#[115, 108, 111, 116]⟩, .string ⟨#[101, 110, 116, 114, 121]⟩] 9)
                        have KA := Lib.hid (HK.out.trans kA)
                        have AA := (WAt.box o9).kept ((Kept.refl [] _).alloc (.cells #[.string ⟨#[115, 108, 111, 116]⟩, .string ⟨#[101, 110, 116, 114, 121]⟩] 9))
                        have OA := Lib.hid (HO.out.kept0 kA)
                        have XA := Lib.hid (HX.out.kept kA (fun h => by cases h))
                        have YA := Lib.hid (HY.out.kept kA (fun h => by cases h))
                        have TT : TAt ((w9.alloc (.cells #[.slice AS9 (t0 :: tr).length c9] 82)).alloc (.cells #[.string ⟨#[115, 108, 111, 116]⟩, .string ⟨#[101, 110, 116, 114, 121]⟩] 9)) (w9.heap.size + 1) [[115, 108, 111, 116], [101, 110, 116, 114, 121]] := TAt.new' (l := [[115, 108, 111, 116], [101, 110, 116, 114, 121]]) (by simp)
                        have AA0 := Lib.hid AA
                        have HIs9 := Lib.hid (HIs.out w9.heap.size (t0 :: tr) 0 _ (w9.heap.size + 1) 2 [[115, 108, 111, 116], [101, 110, 116, 114, 121]] AA hwn TT (by decide) (by omega))
                        unfold IsK at HIs9
                        have hwn := Lib.hid hwn
                        have hwx := Lib.hid hwx
                        obtain ⟨nt, hnt⟩ : ∃ nt, (t0 :: tr).length = nt := ⟨_, rfl⟩
                        rw [hnt] at kA KA OA XA YA AA AA0 TT HIs9
                        rw [hnt]
                        clear kA AA TT o9 k9 e0 hX9 hnt
                        go_wp2_with fail
                        refine HIs9.out.mono ?_
                        rintro e w10 ⟨k10, a10, ⟨hno, rfl⟩ | ⟨hin, rfl⟩⟩
                        · have K10 := Lib.hid (KA.out.trans' k10 hRl)
                          have ho : t0 ∉ [[115, 108, 111, 116], [101, 110, 116, 114, 121]] := hno
                          have hv : Hid (parseD l = none) := by
                            have h1 : slotW (spl s) = none := by
                              rw [hts.out]
                              exact slot_other (fun h => ho (by rw [h]; simp))
                            have h2 : numsW (spl s) wE = none := by
                              rw [hts.out]
                              exact ent_other (fun h => ho (by rw [h]; simp))
                            rw [Hid, HP2.out, HE1.out, step_no h1 h2]
                            rfl
                          clear hno ho k10 a10
                          go_wp2_with fail
                          first | exact HNo.out _ hv.out K10.out | exact ⟨rfl, HNo.out _ hv.out K10.out⟩
                        · have A10 : Hid (WAt w10 w9.heap.size tr) := a10
                          have K10 := Lib.hid (KA.out.trans' k10 hRl)
                          have O10 := Lib.hid (OA.out.words k10 AA0.out (by decide) (by decide))
                          have X10 := Lib.hid (XA.out.kept k10 (fun h => hRR (List.mem_singleton.1 h)))
                          have Y10 := Lib.hid (YA.out.kept k10 (fun h => hRY (List.mem_singleton.1 h)))
                          have hin2 : t0 = [115, 108, 111, 116] ∨ t0 = [101, 110, 116, 114, 121] := by simpa using hin
                          clear hin k10 a10 OA XA YA AA0 KA
                          rcases hin2 with hu | hu
                          · have hu2 := Lib.hid hu
                            rw [hu]
                            clear hu
                            have HS1 : Hid (slotW (spl s) = pSlot tr) := by
                              rw [Hid, hts.out, hu2.out, slot_words]
                            have HSl := Lib.hid (dump_wslot w9.heap.size tr w10.drew (fun V hV => HLd.out.kept (K10.out.drew.trans' hV hRl)) (A10.out.kept ((Kept.refl [] w10).drew)) A10.out.lt (by have := hwn.out; rw [List.length_cons] at this; omega) (fun y hy => hwx.out y (List.mem_cons_of_mem _ hy)))
                            unfold SlotPost at HSl
                            have q3a := X10.out.cell 3
                            have A10d : Hid (WAt w10.drew w9.heap.size tr) := A10.out.kept ((Kept.refl [] w10).drew)
                            go_wp2_with fail
                            refine wp_region_held_drew (S := fun _ => True) (by kernel_rfl) trivial (fun hS => ?_)
                            refine wpAnyH_take (i := 0) (v := ?_) rfl (by kernel_rfl) (by kernel_rfl) (by kernel_rfl) (fun _ _ _ h => h) (Or.inl ⟨by rfl, ?_⟩) (by assumption) ?_
                            rotate_left
                            · intro wx hSx
                              try dsimp only at hSx
                              go_simp
                              first | done | with_reducible rfl
                            simp only [Act.put, List.setIfInBounds_toArray, List.set_cons_zero, List.set_cons_succ]
                            refine wpAnyH_take (i := 2) (v := ?_) rfl (by kernel_rfl) (by kernel_rfl) (by kernel_rfl) (fun _ _ _ h => h) (Or.inl ⟨by rfl, ?_⟩) (by assumption) ?_
                            rotate_left
                            · intro wx hSx
                              try dsimp only at hSx
                              go_simp
                              first | done | with_reducible rfl
                            simp only [Act.put, List.setIfInBounds_toArray, List.set_cons_zero, List.set_cons_succ]
                            cases hp : pSlot tr with
                            | none =>
                              rw [hp] at HS1 HSl
                              have hv : Hid (parseD l = none) := by
                                have h2 : numsW (spl s) wE = none := by
                                  rw [hts.out]
                                  exact ent_other (by rw [hu2.out]; decide)
                                rw [Hid, HP2.out, HE1.out, step_no HS1.out h2]
                                rfl
                              clear hp
                              refine wpAnyH_ready (rs := [1, 3]) (by kernel_rfl) (by simp) ?_
                              refine AllReadyH.cons rfl (fun K hK => ?_) (AllReadyH.cons rfl (fun K hK => ?_) AllReadyH.nil)
                              · go_simp
                                refine hK.out _ _ (by trivial) (fun hS => ?_)
                                clear hK K
                                try simp only [Act.put, List.setIfInBounds_toArray, List.set_cons_zero, List.set_cons_succ]
                                refine wpAnyH_ready (rs := [3]) (by kernel_rfl) (by simp) ?_
                                refine AllReadyH.cons rfl (fun K hK => ?_) AllReadyH.nil
                                go_simp
                                go_at_call 36
                                refine HSl.out.mono ?_
                                rintro e w11 ⟨k11, ⟨_, rfl⟩ | ⟨_, h, _⟩⟩
                                · have K11 := K10.out.drew.trans' k11 hRl
                                  first | exact HNo.out _ hv.out K11 | exact ⟨rfl, HNo.out _ hv.out K11⟩
                                · cases h
                              · go_simp
                                go_at_call 36
                                refine HSl.out.mono ?_
                                rintro e w11 ⟨k11, ⟨_, rfl⟩ | ⟨_, h, _⟩⟩
                                · have K11 := K10.out.drew.trans' k11 hRl
                                  first | exact HNo.out _ hv.out K11 | exact ⟨rfl, HNo.out _ hv.out K11⟩
                                · cases h
                            | some x =>
                              rw [hp] at HS1 HSl
                              have hxe := Lib.hid (slot_ents HS1.out)
                              have HE2 : Hid ((l.drop 1).foldlM stepP [] = (l.drop (k + 1 + 1)).foldlM stepP ((ps ++ [(x, nilE)]).map (·.1))) := by
                                rw [Hid, HE1.out, step_some HS1.out, List.map_append]
                                rfl
                              clear hp
                              refine wpAnyH_ready (rs := [1, 3]) (by kernel_rfl) (by simp) ?_
                              refine AllReadyH.cons rfl (fun K hK => ?_) (AllReadyH.cons rfl (fun K hK => ?_) AllReadyH.nil)
                              · go_simp
                                refine hK.out _ _ (by trivial) (fun hS => ?_)
                                clear hK K
                                try simp only [Act.put, List.setIfInBounds_toArray, List.set_cons_zero, List.set_cons_succ]
                                refine wpAnyH_ready (rs := [3]) (by kernel_rfl) (by simp) ?_
                                refine AllReadyH.cons rfl (fun K hK => ?_) AllReadyH.nil
                                (go_simp; go_at_call 36; refine HSl.out.mono ?_; rintro e w11 ⟨k11, ⟨h, _⟩ | ⟨x', hx', rfl⟩⟩; (next => cases h); obtain rfl := Option.some.inj hx'; unfold lineV lineC nilE; dsimp only)
                                refine hK.out _ _ (by trivial) (fun hS => ?_)
                                clear hK K
                                try simp only [Act.put, List.setIfInBounds_toArray, List.set_cons_zero, List.set_cons_succ]
                                have K11 := Lib.hid (K10.out.drew.trans' k11 hRl)
                                have O11 := Lib.hid (O10.out.drew.words k11 A10d.out (by decide) (by decide))
                                have X11 := Lib.hid (Blk.kept (w := w10.drew) X10.out k11 (fun h => hRR (List.mem_singleton.1 h)))
                                have Y11 := Lib.hid (Blk.kept (w := w10.drew) Y10.out k11 (fun h => hRY (List.mem_singleton.1 h)))
                                have q3b := X11.out.cell 3
                                have q3c := (X11.out.alloc (.cells #[.int .i64 x.id, .int .i64 x.state, .int .i64 x.st, .int .i64 x.len, .int .u32 x.gen, .int .i64 x.room, .bool x.inv, .slice none 0 0] 54)).cell 3
                                have hRun := lines_push i0 p0 p1 p2 p3 24 Tryd.underlying24 (by decide) x hxe.out O11.out K11.out (by omega)
                                unfold lineC nilE at hRun
                                replace hRun := Lib.hid hRun
                                clear k11
                                refine wpAnyH_ready (rs := [4]) (by kernel_rfl) (by simp) ?_
                                refine AllReadyH.cons rfl (fun K hK => ?_) AllReadyH.nil
                                go_simp
                                refine hK.out _ _ (by trivial) (fun hS => ?_)
                                clear hK K
                                try simp only [Act.put, List.setIfInBounds_toArray, List.set_cons_zero, List.set_cons_succ]
                                refine wpAnyH_ready (rs := [5]) (by kernel_rfl) (by simp) ?_
                                refine AllReadyH.cons rfl (fun K hK => ?_) AllReadyH.nil
                                (refine step_app rfl (.tmp 60) (.tmp 63) _ rfl _ _ rfl rfl (R := PushR 54 w.heap.size w w11 (.slice Av ps.length cv) ps x) ?_ ?_; (next => simp [Act.eval]; exact hRun.out _); rintro v5 w5 ⟨o5, k5, k5b⟩; obtain ⟨A5, c5, rfl⟩ := o5.slice1; have X5 := X11.out.kept k5b (fun hm => own_ne O11.out.row X11.out (by decide) _ (by simpa using hm) rfl); have q3 := X5.cell 3; have f3 := X5.frozen 3)
                                refine hK.out _ _ (by trivial) (fun hS => ?_)
                                clear hK K
                                try simp only [Act.put, List.setIfInBounds_toArray, List.set_cons_zero, List.set_cons_succ]
                                refine wpAnyH_take (i := 6) (v := ?_) rfl (by kernel_rfl) (by kernel_rfl) (by kernel_rfl) (fun _ _ _ h => h) (Or.inl ⟨by rfl, ?_⟩) (by assumption) ?_
                                rotate_left
                                · intro wx hSx
                                  try dsimp only at hSx
                                  go_simp
                                  first | done | with_reducible rfl
                                simp only [Act.put, List.setIfInBounds_toArray, List.set_cons_zero, List.set_cons_succ]
                                refine wpAnyH_ready (rs := [7]) (by kernel_rfl) (by simp) ?_
                                refine AllReadyH.cons rfl (fun K hK => ?_) AllReadyH.nil
                                go_simp
                                refine hK.out _ _ (by trivial) (fun hS => ?_)
                                clear hK K
                                try simp only [Act.put, List.setIfInBounds_toArray, List.set_cons_zero, List.set_cons_succ]
                                refine wpAnyH_done (by kernel_rfl) ?_ _
                                have Y5 := Y11.out.kept k5b (fun hm => own_ne O11.out.row Y11.out (by decide) _ (by simpa using hm) rfl)
                                have hRw : w.heap.size ≤ w.heap.size + 1 := by omega
                                have hRy : w.heap.size ≠ w.heap.size + 1 := by omega
                                go_wp2_with fail
                                go_roundw
                                case rel => exact ⟨k + 1, ps ++ [(x, nilE)], .slice A5 (ps.length + 1) c5, by omega, by go_num, HE2, by rw [List.length_append, List.length_singleton]; omega, ents_push HEk.out hxe.out, X5.set_ 3 _, Y5.far hRy _, o5.far (p := ⟨w.heap.size + 1, 3, none⟩) X5 (by decide) (by decide) _, k5.setCell (.inr hRw) _⟩
                                case measure => simp [RowKit.intOf]; omega
                              · (go_simp; go_at_call 36; refine HSl.out.mono ?_; rintro e w11 ⟨k11, ⟨h, _⟩ | ⟨x', hx', rfl⟩⟩; (next => cases h); obtain rfl := Option.some.inj hx'; unfold lineV lineC nilE; dsimp only)
                                refine hK.out _ _ (by trivial) (fun hS => ?_)
                                clear hK K
                                try simp only [Act.put, List.setIfInBounds_toArray, List.set_cons_zero, List.set_cons_succ]
                                have K11 := Lib.hid (K10.out.drew.trans' k11 hRl)
                                have O11 := Lib.hid (O10.out.drew.words k11 A10d.out (by decide) (by decide))
                                have X11 := Lib.hid (Blk.kept (w := w10.drew) X10.out k11 (fun h => hRR (List.mem_singleton.1 h)))
                                have Y11 := Lib.hid (Blk.kept (w := w10.drew) Y10.out k11 (fun h => hRY (List.mem_singleton.1 h)))
                                have q3b := X11.out.cell 3
                                have q3c := (X11.out.alloc (.cells #[.int .i64 x.id, .int .i64 x.state, .int .i64 x.st, .int .i64 x.len, .int .u32 x.gen, .int .i64 x.room, .bool x.inv, .slice none 0 0] 54)).cell 3
                                have hRun := lines_push i0 p0 p1 p2 p3 24 Tryd.underlying24 (by decide) x hxe.out O11.out K11.out (by omega)
                                unfold lineC nilE at hRun
                                replace hRun := Lib.hid hRun
                                clear k11
                                refine wpAnyH_ready (rs := [1, 4]) (by kernel_rfl) (by simp) ?_
                                refine AllReadyH.cons rfl (fun K hK => ?_) (AllReadyH.cons rfl (fun K hK => ?_) AllReadyH.nil)
                                · go_simp
                                  refine hK.out _ _ (by trivial) (fun hS => ?_)
                                  clear hK K
                                  try simp only [Act.put, List.setIfInBounds_toArray, List.set_cons_zero, List.set_cons_succ]
                                  refine wpAnyH_ready (rs := [4]) (by kernel_rfl) (by simp) ?_
                                  refine AllReadyH.cons rfl (fun K hK => ?_) AllReadyH.nil
                                  go_simp
                                  refine hK.out _ _ (by trivial) (fun hS => ?_)
                                  clear hK K
                                  try simp only [Act.put, List.setIfInBounds_toArray, List.set_cons_zero, List.set_cons_succ]
                                  refine wpAnyH_ready (rs := [5]) (by kernel_rfl) (by simp) ?_
                                  refine AllReadyH.cons rfl (fun K hK => ?_) AllReadyH.nil
                                  (refine step_app rfl (.tmp 60) (.tmp 63) _ rfl _ _ rfl rfl (R := PushR 54 w.heap.size w w11 (.slice Av ps.length cv) ps x) ?_ ?_; (next => simp [Act.eval]; exact hRun.out _); rintro v5 w5 ⟨o5, k5, k5b⟩; obtain ⟨A5, c5, rfl⟩ := o5.slice1; have X5 := X11.out.kept k5b (fun hm => own_ne O11.out.row X11.out (by decide) _ (by simpa using hm) rfl); have q3 := X5.cell 3; have f3 := X5.frozen 3)
                                  refine hK.out _ _ (by trivial) (fun hS => ?_)
                                  clear hK K
                                  try simp only [Act.put, List.setIfInBounds_toArray, List.set_cons_zero, List.set_cons_succ]
                                  refine wpAnyH_take (i := 6) (v := ?_) rfl (by kernel_rfl) (by kernel_rfl) (by kernel_rfl) (fun _ _ _ h => h) (Or.inl ⟨by rfl, ?_⟩) (by assumption) ?_
                                  rotate_left
                                  · intro wx hSx
                                    try dsimp only at hSx
                                    go_simp
                                    first | done | with_reducible rfl
                                  simp only [Act.put, List.setIfInBounds_toArray, List.set_cons_zero, List.set_cons_succ]
                                  refine wpAnyH_ready (rs := [7]) (by kernel_rfl) (by simp) ?_
                                  refine AllReadyH.cons rfl (fun K hK => ?_) AllReadyH.nil
                                  go_simp
                                  refine hK.out _ _ (by trivial) (fun hS => ?_)
                                  clear hK K
                                  try simp only [Act.put, List.setIfInBounds_toArray, List.set_cons_zero, List.set_cons_succ]
                                  refine wpAnyH_done (by kernel_rfl) ?_ _
                                  have Y5 := Y11.out.kept k5b (fun hm => own_ne O11.out.row Y11.out (by decide) _ (by simpa using hm) rfl)
                                  have hRw : w.heap.size ≤ w.heap.size + 1 := by omega
                                  have hRy : w.heap.size ≠ w.heap.size + 1 := by omega
                                  go_wp2_with fail
                                  go_roundw
                                  case rel => exact ⟨k + 1, ps ++ [(x, nilE)], .slice A5 (ps.length + 1) c5, by omega, by go_num, HE2, by rw [List.length_append, List.length_singleton]; omega, ents_push HEk.out hxe.out, X5.set_ 3 _, Y5.far hRy _, o5.far (p := ⟨w.heap.size + 1, 3, none⟩) X5 (by decide) (by decide) _, k5.setCell (.inr hRw) _⟩
                                  case measure => simp [RowKit.intOf]; omega
                                · go_simp
                                  refine hK.out _ _ (by trivial) (fun hS => ?_)
                                  clear hK K
                                  try simp only [Act.put, List.setIfInBounds_toArray, List.set_cons_zero, List.set_cons_succ]
                                  refine wpAnyH_ready (rs := [1]) (by kernel_rfl) (by simp) ?_
                                  refine AllReadyH.cons rfl (fun K hK => ?_) AllReadyH.nil
                                  go_simp
                                  refine hK.out _ _ (by trivial) (fun hS => ?_)
                                  clear hK K
                                  try simp only [Act.put, List.setIfInBounds_toArray, List.set_cons_zero, List.set_cons_succ]
                                  refine wpAnyH_ready (rs := [5]) (by kernel_rfl) (by simp) ?_
                                  refine AllReadyH.cons rfl (fun K hK => ?_) AllReadyH.nil
                                  (refine step_app rfl (.tmp 60) (.tmp 63) _ rfl _ _ rfl rfl (R := PushR 54 w.heap.size w w11 (.slice Av ps.length cv) ps x) ?_ ?_; (next => simp [Act.eval]; exact hRun.out _); rintro v5 w5 ⟨o5, k5, k5b⟩; obtain ⟨A5, c5, rfl⟩ := o5.slice1; have X5 := X11.out.kept k5b (fun hm => own_ne O11.out.row X11.out (by decide) _ (by simpa using hm) rfl); have q3 := X5.cell 3; have f3 := X5.frozen 3)
                                  refine hK.out _ _ (by trivial) (fun hS => ?_)
                                  clear hK K
                                  try simp only [Act.put, List.setIfInBounds_toArray, List.set_cons_zero, List.set_cons_succ]
                                  refine wpAnyH_take (i := 6) (v := ?_) rfl (by kernel_rfl) (by kernel_rfl) (by kernel_rfl) (fun _ _ _ h => h) (Or.inl ⟨by rfl, ?_⟩) (by assumption) ?_
                                  rotate_left
                                  · intro wx hSx
                                    try dsimp only at hSx
                                    go_simp
                                    first | done | with_reducible rfl
                                  simp only [Act.put, List.setIfInBounds_toArray, List.set_cons_zero, List.set_cons_succ]
                                  refine wpAnyH_ready (rs := [7]) (by kernel_rfl) (by simp) ?_
                                  refine AllReadyH.cons rfl (fun K hK => ?_) AllReadyH.nil
                                  go_simp
                                  refine hK.out _ _ (by trivial) (fun hS => ?_)
                                  clear hK K
                                  try simp only [Act.put, List.setIfInBounds_toArray, List.set_cons_zero, List.set_cons_succ]
                                  refine wpAnyH_done (by kernel_rfl) ?_ _
                                  have Y5 := Y11.out.kept k5b (fun hm => own_ne O11.out.row Y11.out (by decide) _ (by simpa using hm) rfl)
                                  have hRw : w.heap.size ≤ w.heap.size + 1 := by omega
                                  have hRy : w.heap.size ≠ w.heap.size + 1 := by omega
                                  go_wp2_with fail
                                  go_roundw
                                  case rel => exact ⟨k + 1, ps ++ [(x, nilE)], .slice A5 (ps.length + 1) c5, by omega, by go_num, HE2, by rw [List.length_append, List.length_singleton]; omega, ents_push HEk.out hxe.out, X5.set_ 3 _, Y5.far hRy _, o5.far (p := ⟨w.heap.size + 1, 3, none⟩) X5 (by decide) (by decide) _, k5.setCell (.inr hRw) _⟩
                                  case measure => simp [RowKit.intOf]; omega
                          · have hu2 := Lib.hid hu
                            rw [hu]
                            clear hu
                            have HS0 : Hid (slotW (spl s) = none) := by
                              rw [Hid, hts.out]
                              exact slot_other (by rw [hu2.out]; decide)
                            have HEn : Hid ((numsW (spl s) wE).map (fun ns => (⟨ns.getD 0 0, ns.getD 1 0⟩ : En)) = pEnt tr) := by
                              rw [Hid, hts.out, hu2.out]
                              exact ent_words tr
                            have HEN : Hid (pEnt tr = none → parseD l = none) := fun h => by
                              have h2 := HEn.out
                              rw [h, Option.map_eq_none_iff] at h2
                              rw [HP2.out, HE1.out, step_no HS0.out h2]
                              rfl
                            have hz10 := K10.out.size
                            go_wp2_with fail
                            refine (HNum.out w9.heap.size (t0 :: tr) 1 _ K10.out hz9 A10.out hwn.out hwx.out).mono ?_
                            rintro e w11 ⟨k11, ⟨hno, rfl⟩ | ⟨m1, ha, hi11, rfl, a11⟩⟩
                            · have K11 := Lib.hid (K10.out.trans' k11 hRl)
                              have hv : Hid (parseD l = none) := HEN.out (by
                                have hno2 : numP (tr.getD 0 []) = none := hno
                                rw [pEnt, hno2]
                                rfl)
                              clear hno k11
                              go_wp2_with fail
                              first | exact HNo.out _ hv.out K11.out | exact ⟨rfl, HNo.out _ hv.out K11.out⟩
                            · have F11 : Hid (numP (tr.getD 0 []) = some m1) := ha
                              have K11 := Lib.hid (K10.out.trans' k11 hRl)
                              have O11 := Lib.hid (O10.out.words k11 A10.out (by decide) (by decide))
                              have X11 := Lib.hid (X10.out.kept k11 (fun h => hRR (List.mem_singleton.1 h)))
                              have Y11 := Lib.hid (Y10.out.kept k11 (fun h => hRY (List.mem_singleton.1 h)))
                              have A11 : Hid (WAt w11 w9.heap.size (tr.drop 1)) := a11
                              have hr11 := a11.lt
                              have hz11 := K11.out.size
                              clear ha k11 a11 K10 O10 X10 Y10 A10
                              go_wp2_with fail
                              have kA := (Kept.refl [w9.heap.size] w11).alloc (.cells #[.int .i64 m1, .int .i64 0] 56)
                              have AA := A11.out.kept ((Kept.refl [] w11).alloc (.cells #[.int .i64 m1, .int .i64 0] 56))
                              refine (HNum.out w9.heap.size (t0 :: tr) 2 _ (K11.out.alloc _) hz9 AA hwn.out hwx.out).mono ?_
                              rintro e w12 ⟨k12, ⟨hno, rfl⟩ | ⟨m2, ha, hi12, rfl, a12⟩⟩
                              · have K12 := Lib.hid ((K11.out.alloc (.cells #[.int .i64 m1, .int .i64 0] 56)).trans' k12 hRl)
                                have hv : Hid (parseD l = none) := HEN.out (by
                                  have hno2 : numP (tr.getD 1 []) = none := hno
                                  rw [pEnt, F11.out, Option.bind_some, hno2]
                                  rfl)
                                clear hno k12 kA AA
                                go_wp2_with fail
                                first | exact HNo.out _ hv.out K12.out | exact ⟨rfl, HNo.out _ hv.out K12.out⟩
                              · have F12 : Hid (numP (tr.getD 1 []) = some m2) := ha
                                have hE : w11.heap.size ≠ w9.heap.size := by omega
                                have E12 := (Blk.new w11 56 #[.int .i64 m1, .int .i64 0]).kept k12 (fun h => hE (List.mem_singleton.1 h))
                                have e0 := E12.cell 1
                                have e1 := E12.frozen 1
                                have hEl := E12.lt
                                have kB : Kept [w9.heap.size] w11 (w12.setCell ⟨w11.heap.size, 1, none⟩ (.int .i64 m2)) := (kA.trans k12).setCell (.inr (Nat.le_refl _)) _
                                have E13 : Blk (w12.setCell ⟨w11.heap.size, 1, none⟩ (.int .i64 m2)) w11.heap.size 56 #[.int .i64 m1, .int .i64 m2] := E12.set_ 1 _
                                have K13 := Lib.hid (K11.out.trans' kB hRl)
                                have O13 := Lib.hid (O11.out.words kB A11.out (by decide) (by decide))
                                have X13 := Lib.hid (X11.out.kept kB (fun h => hRR (List.mem_singleton.1 h)))
                                have Y13 := Lib.hid (Y11.out.kept kB (fun h => hRY (List.mem_singleton.1 h)))
                                have hOE := Lib.hid (fun y (hy : y < w11.heap.size) => Nat.ne_of_lt hy)
                                have A12 : WAt w12 w9.heap.size (tr.drop 2) := a12
                                have A13 := A12.behind ((Kept.refl [w11.heap.size] w12).setCell (p := ⟨w11.heap.size, 1, none⟩) (.inl (List.mem_singleton.2 rfl)) (.int .i64 m2)) (fun y hy => by rw [List.mem_singleton.1 hy]; omega)
                                have HEd := Lib.hid (dump_end w9.heap.size (tr.drop 2) _ A13 (by have := hwn.out; rw [List.length_cons] at this; rw [List.length_drop]; omega))
                                unfold EndPost at HEd
                                replace E13 := Lib.hid E13
                                clear ha k12 a12 kA AA kB E12 A12 A13
                                go_wp2_with fail
                                clear e0 e1
                                refine HEd.out.mono ?_
                                rintro e w13 ⟨⟨hnl, rfl⟩ | ⟨hne, rfl⟩, rfl⟩
                                · have hpe : pEnt tr = some ⟨m1, m2⟩ := by
                                    have h2 : tr.length ≤ 2 := List.drop_eq_nil_iff.1 hnl
                                    rw [pEnt, F11.out, Option.bind_some, F12.out, Option.bind_some, if_pos h2]
                                  have hnE : Hid (numsW (spl s) wE = some [m1, m2]) := by
                                    have h2 := HEn.out
                                    rw [hpe] at h2
                                    obtain ⟨ns, hns, he⟩ := Option.map_eq_some_iff.1 h2
                                    obtain ⟨u1, u2, rfl⟩ := two_of hns
                                    injection he with he1 he2
                                    have he1 : u1 = m1 := he1
                                    have he2 : u2 = m2 := he2
                                    rw [Hid, hns, he1, he2]
                                  clear hpe hnl
                                  rcases List.eq_nil_or_concat ps with rfl | ⟨q, ⟨x, E⟩, rfl⟩
                                  · have hv : Hid (parseD l = none) := by
                                      rw [Hid, HP2.out, HE1.out]
                                      show Option.map _ ((stepP [] s).bind _) = none
                                      rw [step_no0 HS0.out]
                                      rfl
                                    have r3 := X13.out.cell 3
                                    rw [List.length_nil] at r3
                                    simp only [List.getElem?_toArray, List.getElem?_cons_zero, List.getElem?_cons_succ] at r3
                                    go_wp2_with fail
                                    first | exact HNo.out _ hv.out K13.out | exact ⟨rfl, HNo.out _ hv.out K13.out⟩
                                  · rw [List.concat_eq_append] at O13 HE HE1 HEk hpk X13 O11
                                    obtain ⟨g, cg, hV, d7, hg⟩ := O13.out.last
                                    rw [hV] at O13 X13 O11
                                    obtain ⟨AE, cE, hEE⟩ := O13.out.lastE
                                    dsimp only at hEE
                                    subst hEE
                                    have HE2 : Hid ((l.drop 1).foldlM stepP [] = (l.drop (k + 1 + 1)).foldlM stepP (q.map (·.1) ++ [({ x with ents := x.ents ++ [⟨m1, m2⟩] } : Sl)])) := by
                                      rw [Hid, HE1.out, List.map_append]
                                      show (stepP (q.map _ ++ [x]) s).bind _ = _
                                      rw [step_e HS0.out hnE.out]
                                      rfl
                                    have hxl : x.ents.length ≤ k := HEk.out _ (List.mem_append_right _ (List.mem_singleton.2 rfl))
                                    have hql : q.length + 1 ≤ k := by
                                      rw [List.length_append, List.length_singleton] at hpk
                                      exact hpk
                                    have HEk2 := Lib.hid (fun E' => ents_more (E' := E') (e := ⟨m1, m2⟩) HEk.out)
                                    have hRun := entry_push (T := 54) (by decide) (⟨m1, m2⟩ : En) O13.out.drew K13.out.drew (by omega)
                                    rw [show ((w12.setCell ⟨w11.heap.size, 1, none⟩ (.int .i64 m2)).drew).alloc (.cells #[.int .i64 m1, .int .i64 m2] 56) = ((w12.setCell ⟨w11.heap.size, 1, none⟩ (.int .i64 m2)).alloc (.cells #[.int .i64 m1, .int .i64 m2] 56)).drew from rfl, show (w12.setCell ⟨w11.heap.size, 1, none⟩ (.int .i64 m2)).drew.heap.size = w12.heap.size by simp [World.drew, World.setCell]] at hRun
                                    replace hRun := Lib.hid hRun
                                    have hEb : w11.heap.size ∉ (Value.slice AE x.ents.length cE).ownBlock.toList := fun hm => by
                                      have h1 := (World.ownsRow.lt (O11.out.ents _ (List.mem_append_right _ (List.mem_singleton.2 rfl))) w11.heap.size (by simpa using hm)).2
                                      omega
                                    have n1 : ¬ g = w11.heap.size := own_ne O13.out.row E13.out (by decide) g rfl
                                    have n2 : ¬ w11.heap.size = g := fun h => n1 h.symm
                                    have n3 : w.heap.size + 1 ≠ g := fun h => own_ne O13.out.row X13.out (by decide) g rfl h.symm
                                    have n5 : w.heap.size ≠ g := fun h => own_ne O13.out.row Y13.out (by decide) g rfl h.symm
                                    have r3 := X13.out.cell 3
                                    simp only [List.getElem?_toArray, List.getElem?_cons_zero, List.getElem?_cons_succ] at r3
                                    have x0 := E13.out.cell 0
                                    have x1 := E13.out.cell 1
                                    simp only [List.getElem?_toArray, List.getElem?_cons_zero, List.getElem?_cons_succ] at x0 x1
                                    have d7a := ((Kept.refl [] _).alloc (.cells #[.int .i64 m1, .int .i64 m2] 56)).cell d7 (fun h => by cases h)
                                    have hwp : IntKind.i64.wrap ((q.length : Int) + 1 - 1) = (q.length : Int) := by
                                      rw [show (q.length : Int) + 1 - 1 = (q.length : Int) by omega]
                                      exact IntWalk.i64_in _ (by omega)
                                    have hwp2 : IntKind.i64.wrap (q.length : Int) = (q.length : Int) := IntWalk.i64_in _ (by omega)
                                    have hq0 : ((q.length : Int) + 1 == 0) = false := by rw [beq_eq_false_iff_ne]; omega
                                    have hq1 : (q.length : Int) < (q.length : Int) + 1 := by omega
                                    clear hV HE HE1 HEk
                                    dsimp only at d7 d7a
                                    go_wp2_with fail
                                    refine wp_region_held_drew (S := fun W => W.cell? ⟨w11.heap.size, 0, none⟩ = some (.int .i64 m1) ∧ W.cell? ⟨w11.heap.size, 1, none⟩ = some (.int .i64 m2)) (by kernel_rfl) ⟨x0, x1⟩ (fun hS => ?_)
                                    refine wpAnyH_take (i := 0) (v := ?_) rfl (by kernel_rfl) (by kernel_rfl) (by kernel_rfl) (fun _ _ _ h => h) (Or.inl ⟨by rfl, ?_⟩) (by assumption) ?_
                                    rotate_left
                                    · intro wx hSx
                                      try dsimp only at hSx
                                      go_simp
                                      first | done | with_reducible rfl
                                    simp only [Act.put, List.setIfInBounds_toArray, List.set_cons_zero, List.set_cons_succ]
                                    refine wpAnyH_take (i := 1) (v := ?_) rfl (by kernel_rfl) (by kernel_rfl) (by kernel_rfl) (fun _ _ _ h => h) (Or.inl ⟨by rfl, ?_⟩) (by assumption) ?_
                                    rotate_left
                                    · intro wx hSx
                                      try dsimp only at hSx
                                      go_simp
                                      first | done | with_reducible rfl
                                    simp only [Act.put, List.setIfInBounds_toArray, List.set_cons_zero, List.set_cons_succ]
                                    refine wpAnyH_take (i := 2) (v := ?_) rfl (by kernel_rfl) (by kernel_rfl) (by kernel_rfl) (fun _ _ _ h => h) (Or.inl ⟨by rfl, ?_⟩) (by assumption) ?_
                                    rotate_left
                                    · intro wx hSx
                                      try dsimp only at hSx
                                      go_simp
                                      first | done | with_reducible rfl
                                    simp only [Act.put, List.setIfInBounds_toArray, List.set_cons_zero, List.set_cons_succ]
                                    refine wpAnyH_take (i := 3) (v := ?_) rfl (by kernel_rfl) (by kernel_rfl) (by kernel_rfl) (fun _ _ _ h => h) (Or.inl ⟨by rfl, ?_⟩) (by assumption) ?_
                                    rotate_left
                                    · intro wx hSx
                                      try dsimp only at hSx
                                      go_simp
                                      first | done | with_reducible rfl
                                    simp only [Act.put, List.setIfInBounds_toArray, List.set_cons_zero, List.set_cons_succ]
                                    refine wpAnyH_take (i := 5) (v := ?_) rfl (by kernel_rfl) (by kernel_rfl) (by kernel_rfl) (fun _ _ _ h => h) (Or.inl ⟨by rfl, ?_⟩) (by assumption) ?_
                                    rotate_left
                                    · intro wx hSx
                                      try dsimp only at hSx
                                      go_simp
                                      first | done | with_reducible rfl
                                    simp only [Act.put, List.setIfInBounds_toArray, List.set_cons_zero, List.set_cons_succ]
                                    refine wpAnyH_ready (rs := [4, 6]) (by kernel_rfl) (by simp) ?_
                                    refine AllReadyH.cons rfl (fun K hK => ?_) (AllReadyH.cons rfl (fun K hK => ?_) AllReadyH.nil)
                                    · go_simp
                                      refine hK.out _ _ (by exact hS) (fun hS => ?_)
                                      clear hK K
                                      try simp only [Act.put, List.setIfInBounds_toArray, List.set_cons_zero, List.set_cons_succ]
                                      refine wpAnyH_ready (rs := [6]) (by kernel_rfl) (by simp) ?_
                                      refine AllReadyH.cons rfl (fun K hK => ?_) AllReadyH.nil
                                      go_simp
                                      refine hK.out _ _ (by go_keep) (fun hS => ?_)
                                      clear hK K
                                      try simp only [Act.put, List.setIfInBounds_toArray, List.set_cons_zero, List.set_cons_succ]
                                      refine wpAnyH_ready (rs := [7]) (by kernel_rfl) (by simp) ?_
                                      refine AllReadyH.cons rfl (fun K hK => ?_) AllReadyH.nil
                                      (refine step_app rfl (.tmp 91) (.tmp 93) _ rfl _ _ rfl rfl (R := EntR 54 w.heap.size w (w12.setCell ⟨w11.heap.size, 1, none⟩ (.int .i64 m2)).drew (.slice (some ⟨g, 0, none⟩) (q.length + 1) cg) (.slice AE x.ents.length cE) q x ⟨m1, m2⟩) ?_ ?_; (next => simp [Act.eval]; exact hRun.out _); rintro E2 w5 ⟨k5, g', c5, hV5, c5e, f5, hg5, o5, k5a, k5b⟩; obtain ⟨A2, c2, hE2⟩ := o5.lastE; dsimp only at hE2; rw [List.length_append, List.length_singleton] at hE2; subst hE2; injection hV5 with e1 _ e2; injection e1 with e1; injection e1 with e1; subst e1; subst e2; have E5 := Blk.kept (w := (w12.setCell ⟨w11.heap.size, 1, none⟩ (.int .i64 m2)).drew) E13.out k5 hEb; have j0 : w5.cell? ⟨w11.heap.size, 0, none⟩ = some (.int .i64 m1) := E5.cell 0; have j1 : w5.cell? ⟨w11.heap.size, 1, none⟩ = some (.int .i64 m2) := E5.cell 1)
                                      refine hK.out _ _ (by exact ⟨j0, j1⟩) (fun hS => ?_)
                                      clear hK K
                                      try simp only [Act.put, List.setIfInBounds_toArray, List.set_cons_zero, List.set_cons_succ]
                                      refine wpAnyH_take (i := 8) (v := ?_) rfl (by kernel_rfl) (by kernel_rfl) (by kernel_rfl) (fun _ _ _ h => h) (Or.inl ⟨by rfl, ?_⟩) (by assumption) ?_
                                      rotate_left
                                      · intro wx hSx
                                        try dsimp only at hSx
                                        go_simp
                                        first | done | with_reducible rfl
                                      simp only [Act.put, List.setIfInBounds_toArray, List.set_cons_zero, List.set_cons_succ]
                                      refine wpAnyH_take (i := 9) (v := ?_) rfl (by kernel_rfl) (by kernel_rfl) (by kernel_rfl) (fun _ _ _ h => h) (Or.inl ⟨by rfl, ?_⟩) (by assumption) ?_
                                      rotate_left
                                      · intro wx hSx
                                        try dsimp only at hSx
                                        go_simp
                                        first | done | with_reducible rfl
                                      simp only [Act.put, List.setIfInBounds_toArray, List.set_cons_zero, List.set_cons_succ]
                                      refine wpAnyH_ready (rs := [10]) (by kernel_rfl) (by simp) ?_
                                      refine AllReadyH.cons rfl (fun K hK => ?_) AllReadyH.nil
                                      go_simp
                                      refine hK.out _ _ (by go_keep) (fun hS => ?_)
                                      clear hK K
                                      try simp only [Act.put, List.setIfInBounds_toArray, List.set_cons_zero, List.set_cons_succ]
                                      refine wpAnyH_done (by kernel_rfl) ?_ _
                                      have X5 := Blk.kept (w := (w12.setCell ⟨w11.heap.size, 1, none⟩ (.int .i64 m2)).drew) X13.out k5 (O13.out.last_ne X13.out (by decide))
                                      have Y5 := Blk.kept (w := (w12.setCell ⟨w11.heap.size, 1, none⟩ (.int .i64 m2)).drew) Y13.out k5 (O13.out.last_ne Y13.out (by decide))
                                      go_wp2_with fail
                                      go_roundw
                                      case rel => exact ⟨k + 1, q ++ [(({ x with ents := x.ents ++ [⟨m1, m2⟩] } : Sl), Value.slice A2 (x.ents.length + 1) c2)], .slice (some ⟨g, 0, none⟩) (q.length + 1) cg, by omega, by go_num, fold_last HE2.out, by rw [List.length_append, List.length_singleton]; omega, Lib.hid (HEk2.out _), X5.far n3 _, Y5.far n5 _, Lib.hid o5, k5b⟩
                                      case measure => simp [RowKit.intOf]; omega
                                    · go_simp
                                      refine hK.out _ _ (by go_keep) (fun hS => ?_)
                                      clear hK K
                                      try simp only [Act.put, List.setIfInBounds_toArray, List.set_cons_zero, List.set_cons_succ]
                                      refine wpAnyH_ready (rs := [4]) (by kernel_rfl) (by simp) ?_
                                      refine AllReadyH.cons rfl (fun K hK => ?_) AllReadyH.nil
                                      go_simp
                                      refine hK.out _ _ (by exact hS) (fun hS => ?_)
                                      clear hK K
                                      try simp only [Act.put, List.setIfInBounds_toArray, List.set_cons_zero, List.set_cons_succ]
                                      refine wpAnyH_ready (rs := [7]) (by kernel_rfl) (by simp) ?_
                                      refine AllReadyH.cons rfl (fun K hK => ?_) AllReadyH.nil
                                      (refine step_app rfl (.tmp 91) (.tmp 93) _ rfl _ _ rfl rfl (R := EntR 54 w.heap.size w (w12.setCell ⟨w11.heap.size, 1, none⟩ (.int .i64 m2)).drew (.slice (some ⟨g, 0, none⟩) (q.length + 1) cg) (.slice AE x.ents.length cE) q x ⟨m1, m2⟩) ?_ ?_; (next => simp [Act.eval]; exact hRun.out _); rintro E2 w5 ⟨k5, g', c5, hV5, c5e, f5, hg5, o5, k5a, k5b⟩; obtain ⟨A2, c2, hE2⟩ := o5.lastE; dsimp only at hE2; rw [List.length_append, List.length_singleton] at hE2; subst hE2; injection hV5 with e1 _ e2; injection e1 with e1; injection e1 with e1; subst e1; subst e2; have E5 := Blk.kept (w := (w12.setCell ⟨w11.heap.size, 1, none⟩ (.int .i64 m2)).drew) E13.out k5 hEb; have j0 : w5.cell? ⟨w11.heap.size, 0, none⟩ = some (.int .i64 m1) := E5.cell 0; have j1 : w5.cell? ⟨w11.heap.size, 1, none⟩ = some (.int .i64 m2) := E5.cell 1)
                                      refine hK.out _ _ (by exact ⟨j0, j1⟩) (fun hS => ?_)
                                      clear hK K
                                      try simp only [Act.put, List.setIfInBounds_toArray, List.set_cons_zero, List.set_cons_succ]
                                      refine wpAnyH_take (i := 8) (v := ?_) rfl (by kernel_rfl) (by kernel_rfl) (by kernel_rfl) (fun _ _ _ h => h) (Or.inl ⟨by rfl, ?_⟩) (by assumption) ?_
                                      rotate_left
                                      · intro wx hSx
                                        try dsimp only at hSx
                                        go_simp
                                        first | done | with_reducible rfl
                                      simp only [Act.put, List.setIfInBounds_toArray, List.set_cons_zero, List.set_cons_succ]
                                      refine wpAnyH_take (i := 9) (v := ?_) rfl (by kernel_rfl) (by kernel_rfl) (by kernel_rfl) (fun _ _ _ h => h) (Or.inl ⟨by rfl, ?_⟩) (by assumption) ?_
                                      rotate_left
                                      · intro wx hSx
                                        try dsimp only at hSx
                                        go_simp
                                        first | done | with_reducible rfl
                                      simp only [Act.put, List.setIfInBounds_toArray, List.set_cons_zero, List.set_cons_succ]
                                      refine wpAnyH_ready (rs := [10]) (by kernel_rfl) (by simp) ?_
                                      refine AllReadyH.cons rfl (fun K hK => ?_) AllReadyH.nil
                                      go_simp
                                      refine hK.out _ _ (by go_keep) (fun hS => ?_)
                                      clear hK K
                                      try simp only [Act.put, List.setIfInBounds_toArray, List.set_cons_zero, List.set_cons_succ]
                                      refine wpAnyH_done (by kernel_rfl) ?_ _
                                      have X5 := Blk.kept (w := (w12.setCell ⟨w11.heap.size, 1, none⟩ (.int .i64 m2)).drew) X13.out k5 (O13.out.last_ne X13.out (by decide))
                                      have Y5 := Blk.kept (w := (w12.setCell ⟨w11.heap.size, 1, none⟩ (.int .i64 m2)).drew) Y13.out k5 (O13.out.last_ne Y13.out (by decide))
                                      go_wp2_with fail
                                      go_roundw
                                      case rel => exact ⟨k + 1, q ++ [(({ x with ents := x.ents ++ [⟨m1, m2⟩] } : Sl), Value.slice A2 (x.ents.length + 1) c2)], .slice (some ⟨g, 0, none⟩) (q.length + 1) cg, by omega, by go_num, fold_last HE2.out, by rw [List.length_append, List.length_singleton]; omega, Lib.hid (HEk2.out _), X5.far n3 _, Y5.far n5 _, Lib.hid o5, k5b⟩
                                      case measure => simp [RowKit.intOf]; omega
                                · have hv : Hid (parseD l = none) := HEN.out (by
                                    have h2 : ¬ tr.length ≤ 2 := fun h => hne (List.drop_eq_nil_iff.2 h)
                                    rw [pEnt, F11.out, Option.bind_some, F12.out, Option.bind_some, if_neg h2])
                                  go_wp2_with fail
                                  first | exact HNo.out _ hv.out K13.out | exact ⟨rfl, HNo.out _ hv.out K13.out⟩
                      · obtain rfl : k = l.length - 1 := by omega
                        have hv : Hid ((l.drop 1).foldlM stepP [] = some (ps.map (·.1))) := by
                          rw [Hid, HE.out, List.drop_eq_nil_of_le (show l.length ≤ l.length - 1 + 1 by omega)]
                          rfl
                        have HV : Hid (parseD l = some ⟨n1, n2, n3, ps.map (·.1)⟩) := by
                          rw [Hid, HP2.out, hv.out]
                          rfl
                        obtain ⟨r0, r1, r2, r3⟩ := blk4 HX.out
                        obtain ⟨y0, y1, y2, y3⟩ := blk4 HY.out
                        obtain ⟨g0, g1, g2, g3⟩ := frz4 HY.out
                        go_wp2_with fail
                        refine bodyPost_ret (results_pparse _ _ w.heap.size n1 n2 n3 (.slice Av ps.length cv) rfl (blk4_set HY.out _ _ _ _)) rfl ?_
                        exact HYes.out _ ⟨n1, n2, n3, ps.map (·.1)⟩ _ ps HV.out rfl (by omega) (far4 HO.out HY.out (by decide) (by decide) _ _ _ _) (kept4 HK.out (.inr (Nat.le_refl _)) _ _ _ _)
                · have hv : Hid (parseD l = none) := HPN.out (by
                    have h6 : ¬ ws.length ≤ 6 := fun h => hne (List.drop_eq_nil_iff.2 h)
                    rw [pHead, if_pos F2.out, F3.out, Option.bind_some, if_pos F4.out, F5.out, Option.bind_some, if_pos F6.out, F7.out, Option.bind_some, if_neg h6])
                  replace KK := Lib.hid KK
                  clear AA XX YY
                  go_wp2_with fail
                  first | exact HNo.out _ hv.out KK.out | exact ⟨rfl, HNo.out _ hv.out KK.out⟩
end Go.Proofs.YtooplogodcadgaaDoor
