/- Dumps: the program's words: a slot's line. -/
import Derived.Test.YtooplogodcadgaaDoorDuO
import Derived.Test.YtooplogodcadgaaDoorDuQ
namespace Go.Proofs.YtooplogodcadgaaDoor
open Go.RowKit Go.Lib

theorem drop_head (ws : List Bs) (k : Nat) : (ws.drop k).headD [] = ws.getD k [] := by
  rw [List.getD_eq_getElem?_getD]
  cases h : ws.drop k with
  | nil => rw [List.getElem?_eq_none (by rw [List.drop_eq_nil_iff] at h; exact h)]; rfl
  | cons x t =>
    have h1 : (ws.drop k)[0]? = some x := by rw [h]; rfl
    rw [List.getElem?_drop, Nat.add_zero] at h1
    rw [h1]
    rfl
theorem drop_tail (ws : List Bs) (k : Nat) : (ws.drop k).tail = ws.drop (k + 1) := by rw [List.tail_drop]
theorem getD_len {ws : List Bs} {m : Nat} (h : ∀ x ∈ ws, x.length ≤ m) (k : Nat) : (ws.getD k []).length ≤ m := by
  rw [List.getD_eq_getElem?_getD]
  cases hk : ws[k]? with
  | none => exact Nat.zero_le _
  | some x => exact h x (List.mem_of_getElem? hk)
theorem numP_in {x : Bs} {n : Int} (h : numP x = some n) : in32 n = true := by
  unfold numP at h
  cases hn : numL x m32 with
  | none => rw [hn] at h; cases h
  | some v =>
    rw [hn] at h
    have hv := (dec_num hn).2
    unfold m32 at hv
    have e : ((v : Nat) : Int) = n := Option.some.inj h
    exact in32_iff.2 (by omega)
theorem TAt.new' {V : World} {b : Nat} {l : List Bs} (hb : b = V.heap.size) : TAt (V.alloc (.cells (l.map fun z => Value.string ⟨z.toArray⟩).toArray 9)) b l := hb ▸ TAt.new V l
/-- number, and is, at the k-th word -/
def NumK (R : Nat) (ws : List Bs) (k : Nat) (V : World) (e : Ending) (w' : World) : Prop := Kept [R] V w' ∧ ((numP (ws.getD k []) = none ∧ e = .panicked [badV]) ∨ ∃ n : Int, numP (ws.getD k []) = some n ∧ in32 n = true ∧ e = .returned (.int .i64 n) ∧ WAt w' R (ws.drop (k + 1)))
theorem number_k (R k : Nat) (ws : List Bs) (V : World) (hL : ∀ V', Kept [R] V V' → Laid V') (h : WAt V R (ws.drop k)) (hn : ws.length ≤ 1000000) (hx : ∀ x ∈ ws, x.length ≤ 1000000) : Calls Tryd.prog 34 #[.pointer (some ⟨R, 0, none⟩)] V (NumK R ws k V) := by
  refine (dump_number R (ws.drop k) V hL h (by rw [List.length_drop]; omega) (by rw [drop_head]; exact getD_len hx k)).mono ?_
  rintro e w' ⟨k1, h1⟩
  rw [drop_head, drop_tail] at h1
  refine ⟨k1, h1.imp id ?_⟩
  rintro ⟨n, a, b, c⟩
  exact ⟨n, a, numP_in a, b, c⟩
def IsK (R : Nat) (ws l : List Bs) (k : Nat) (V : World) (e : Ending) (w' : World) : Prop := Kept [R] V w' ∧ WAt w' R (ws.drop (k + 1)) ∧ ((ws.getD k [] ∉ l ∧ e = .panicked [badV]) ∨ (ws.getD k [] ∈ l ∧ e = .returned (.string ⟨(ws.getD k []).toArray⟩)))
theorem is_k (R k b c : Nat) (ws l : List Bs) (V : World) (h : WAt V R (ws.drop k)) (hn : ws.length ≤ 1000000) (ht : TAt V b l) (hl : l.length ≤ 1000) (hb : b ≠ R) : Calls Tryd.prog 33 #[.pointer (some ⟨R, 0, none⟩), .slice (some ⟨b, 0, none⟩) l.length c] V (IsK R ws l k V) := by
  refine (dump_is R b c (ws.drop k) l V h (by rw [List.length_drop]; omega) ht hl hb).mono ?_
  rintro e w' ⟨k1, h2, h1⟩
  rw [drop_head] at h1
  rw [drop_tail] at h2
  exact ⟨k1, h2, h1⟩
theorem results_wslot (tmps : Array Value) (w : World) (b2 : Nat) (x : Sl) (hp : tmps[2]?.getD undef = .pointer (some ⟨b2, 0, none⟩)) (h0 : Blk w b2 54 (lineC x nilE)) :
    (results Tryd.f36 tmps).run Tryd.prog w = .ok (lineV x) w := by
  unfold lineC nilE at h0
  obtain ⟨c0, c1, c2, c3, c4, c5, c6, c7⟩ := blk8 h0
  simp [results, hp, asAddr, c0, c1, c2, c3, c4, c5, c6, c7, go_sem, lineV, lineC, nilE]
def SlotPost (R : Nat) (ws : List Bs) (w : World) (e : Ending) (w' : World) : Prop := Kept [R] w w' ∧ ((pSlot ws = none ∧ e = .panicked [badV]) ∨ ∃ x, pSlot ws = some x ∧ e = .returned (lineV x))
set_option maxRecDepth 4000 in
set_option maxHeartbeats 4000000 in
theorem dump_wslot (R : Nat) (ws : List Bs) (w : World) (hL : ∀ V, Kept [R] w V → Laid V) (h : WAt w R ws) (hR : R < w.heap.size) (hn : ws.length ≤ 1000000) (hx : ∀ x ∈ ws, x.length ≤ 1000000) : Calls Tryd.prog 36 #[.pointer (some ⟨R, 0, none⟩)] w (SlotPost R ws w) := by
  have HNo : Hid (∀ w', pSlot ws = none → Kept [R] w w' → SlotPost R ws w (.panicked [badV]) w') := fun w' h k => ⟨k, .inl ⟨h, rfl⟩⟩
  have HYes : Hid (∀ w' x, pSlot ws = some x → Kept [R] w w' → SlotPost R ws w (.returned (lineV x)) w') := fun w' x h k => ⟨k, .inr ⟨x, h, rfl⟩⟩
  generalize SlotPost R ws w = Q at *
  have HNum : Hid (∀ k V, Kept [R] w V → WAt V R (ws.drop k) → Calls Tryd.prog 34 #[.pointer (some ⟨R, 0, none⟩)] V (NumK R ws k V)) := fun k V kk a => number_k R k ws V (fun V' k' => hL V' (kk.trans k')) a hn hx
  have HIs : Hid (∀ k V b c l, Kept [R] w V → WAt V R (ws.drop k) → TAt V b l → l.length ≤ 1000 → b ≠ R → Calls Tryd.prog 33 #[.pointer (some ⟨R, 0, none⟩), .slice (some ⟨b, 0, none⟩) l.length c] V (IsK R ws l k V)) := fun k V b c l _ a t hl hb => is_k R k b c ws l V a hn t hl hb
  have HA0 := Lib.hid h
  have HLn := Lib.hid hn
  have hY : R ≠ w.heap.size := by omega
  clear hL h hn hx
  go_enter Tryd.func36, Tryd.ntmps36
  go_wp2_with fail
  refine (HNum.out 0 _ ((Kept.refl [R] w).alloc _) (WAt.kept HA0.out ((Kept.refl [] w).alloc _))).mono ?_
  rintro e w1 ⟨k1, ⟨hno, rfl⟩ | ⟨n1, ha, hi1, rfl, a1⟩⟩
  · have K1 := Lib.hid (((Kept.refl [R] w).alloc _).trans k1)
    have hv : Hid (pSlot ws = none) := by
      rw [Hid, pSlot, hno]
      rfl
    clear hno k1
    go_wp2_with fail
    first | exact HNo.out _ hv.out K1.out | exact ⟨rfl, HNo.out _ hv.out K1.out⟩
  · have K1 := Lib.hid (((Kept.refl [R] w).alloc _).trans k1)
    have F1 := Lib.hid ha
    have A1 := Lib.hid a1
    have Y1 := Lib.hid ((Blk.new w 54 #[.int .i64 0, .int .i64 0, .int .i64 0, .int .i64 0, .int .u32 0, .int .i64 0, .bool false, .slice none 0 0]).kept k1 (fun h => hY (List.mem_singleton.1 h).symm))
    have hz1 := K1.out.size
    have hlt1 := Y1.out.lt
    clear ha a1 k1
    go_wp2_with fail
    refine (HIs.out 1 _ (w1.heap.size + 1) 2 [wU false, wU true] ((K1.out.alloc _).alloc _) (WAt.kept A1.out (((Kept.refl [] w1).alloc _).alloc _)) (TAt.new' (by simp)) (by decide) (by omega)).mono ?_
    rintro e w2 ⟨k2, a2, ⟨hno, rfl⟩ | ⟨hin, rfl⟩⟩
    · have K2 := Lib.hid (((K1.out.alloc _).alloc _).trans k2)
      have hv : Hid (pSlot ws = none) := by
        have h1 : ¬ (ws.getD 1 [] = wU false ∨ ws.getD 1 [] = wU true) := fun h => hno (by rcases h with h | h <;> rw [h] <;> simp)
        rw [Hid, pSlot, F1.out, Option.bind_some, if_neg h1]
      clear hno k2 a2
      go_wp2_with fail
      first | exact HNo.out _ hv.out K2.out | exact ⟨rfl, HNo.out _ hv.out K2.out⟩
    · have K2 := Lib.hid (((K1.out.alloc _).alloc _).trans k2)
      have A2 := Lib.hid a2
      have hX : R ≠ w1.heap.size := by omega
      have X2 := Lib.hid (((Blk.new w1 54 #[.int .i64 n1, .int .i64 1, .int .i64 0, .int .i64 0, .int .u32 0, .int .i64 0, .bool false, .slice none 0 0]).alloc _).kept k2 (fun h => hX (List.mem_singleton.1 h).symm))
      have Y2 := Lib.hid (((Y1.out.alloc _).alloc _).kept k2 (fun h => hY (List.mem_singleton.1 h).symm))
      have hz2 := K2.out.size
      clear k2 a2 A1 Y1
      have hin2 : ws.getD 1 [] = wU false ∨ ws.getD 1 [] = wU true := by simpa using hin
      clear hin
      rcases hin2 with hu | hu
      · have F2 := Lib.hid hu
        rw [hu]
        clear hu
        unfold wU
        go_wp2_with fail
        have KK := K2.out
        have AA := A2.out
        have XX := X2.out
        have YY := Y2.out
        refine (HNum.out 2 _ KK AA).mono ?_
        rintro e w3 ⟨k3, ⟨hno, rfl⟩ | ⟨n3, ha, hi3, rfl, a3⟩⟩
        · have K3 := Lib.hid (KK.trans k3)
          have hv : Hid (pSlot ws = none) := by
            rw [Hid, pSlot, F1.out, Option.bind_some, if_pos (.inl F2.out), hno]
            rfl
          clear hno k3 KK AA XX YY
          go_wp2_with fail
          first | exact HNo.out _ hv.out K3.out | exact ⟨rfl, HNo.out _ hv.out K3.out⟩
        · have K3 := Lib.hid (KK.trans k3)
          have A3 := Lib.hid a3
          have X3 := Lib.hid (XX.kept k3 (fun h => hX (List.mem_singleton.1 h).symm))
          have Y3 := Lib.hid (YY.kept k3 (fun h => hY (List.mem_singleton.1 h).symm))
          have hz3 := K3.out.size
          clear k3 a3 KK AA XX YY A2 X2 Y2
          have F3 := Lib.hid ha
          clear ha
          have q3 := X3.out.cell 2
          have f3 := X3.out.frozen 2
          go_wp2_with fail
          clear q3 f3
          have KK := K3.out.setCell (p := ⟨w1.heap.size, 2, none⟩) (.inr (show w.heap.size ≤ w1.heap.size by omega)) (.int .i64 n3)
          have AA := A3.out.behind ((Kept.refl [w1.heap.size] w3).setCell (p := ⟨w1.heap.size, 2, none⟩) (.inl (List.mem_singleton.2 rfl)) (.int .i64 n3)) (fun y hy => by rw [List.mem_singleton.1 hy]; omega)
          have XX : Blk (w3.setCell ⟨w1.heap.size, 2, none⟩ (.int .i64 n3)) w1.heap.size 54 #[.int .i64 n1, .int .i64 1, .int .i64 n3, .int .i64 0, .int .u32 0, .int .i64 0, .bool false, .slice none 0 0] := X3.out.set_ 2 _
          have YY := Y3.out.far (p := ⟨w1.heap.size, 2, none⟩) (show w.heap.size ≠ w1.heap.size by omega) (.int .i64 n3)
          refine (HNum.out 3 _ KK AA).mono ?_
          rintro e w4 ⟨k4, ⟨hno, rfl⟩ | ⟨n4, ha, hi4, rfl, a4⟩⟩
          · have K4 := Lib.hid (KK.trans k4)
            have hv : Hid (pSlot ws = none) := by
              rw [Hid, pSlot, F1.out, Option.bind_some, if_pos (.inl F2.out), F3.out, Option.bind_some, hno]
              rfl
            clear hno k4 KK AA XX YY
            go_wp2_with fail
            first | exact HNo.out _ hv.out K4.out | exact ⟨rfl, HNo.out _ hv.out K4.out⟩
          · have K4 := Lib.hid (KK.trans k4)
            have A4 := Lib.hid a4
            have X4 := Lib.hid (XX.kept k4 (fun h => hX (List.mem_singleton.1 h).symm))
            have Y4 := Lib.hid (YY.kept k4 (fun h => hY (List.mem_singleton.1 h).symm))
            have hz4 := K4.out.size
            clear k4 a4 KK AA XX YY A3 X3 Y3
            have F4 := Lib.hid ha
            clear ha
            have q4 := X4.out.cell 3
            have f4 := X4.out.frozen 3
            go_wp2_with fail
            clear q4 f4
            have KK := K4.out.setCell (p := ⟨w1.heap.size, 3, none⟩) (.inr (show w.heap.size ≤ w1.heap.size by omega)) (.int .i64 n4)
            have AA := A4.out.behind ((Kept.refl [w1.heap.size] w4).setCell (p := ⟨w1.heap.size, 3, none⟩) (.inl (List.mem_singleton.2 rfl)) (.int .i64 n4)) (fun y hy => by rw [List.mem_singleton.1 hy]; omega)
            have XX : Blk (w4.setCell ⟨w1.heap.size, 3, none⟩ (.int .i64 n4)) w1.heap.size 54 #[.int .i64 n1, .int .i64 1, .int .i64 n3, .int .i64 n4, .int .u32 0, .int .i64 0, .bool false, .slice none 0 0] := X4.out.set_ 3 _
            have YY := Y4.out.far (p := ⟨w1.heap.size, 3, none⟩) (show w.heap.size ≠ w1.heap.size by omega) (.int .i64 n4)
            replace KK := KK.alloc (.cells #[.string ⟨#[103, 101, 110]⟩] 9)
            replace AA := AA.kept ((Kept.refl [] _).alloc (.cells #[.string ⟨#[103, 101, 110]⟩] 9))
            replace XX := XX.alloc (.cells #[.string ⟨#[103, 101, 110]⟩] 9)
            replace YY := YY.alloc (.cells #[.string ⟨#[103, 101, 110]⟩] 9)
            have TT : TAt ((w4.setCell ⟨w1.heap.size, 3, none⟩ (.int .i64 n4)).alloc (.cells #[.string ⟨#[103, 101, 110]⟩] 9)) w4.heap.size [[103, 101, 110]] := TAt.new' (l := [[103, 101, 110]]) (by simp)
            refine (HIs.out 4 _ w4.heap.size 1 [[103, 101, 110]] KK AA TT (by decide) (by omega)).mono ?_
            rintro e w5 ⟨k5, a5, ⟨hno, rfl⟩ | ⟨hin, rfl⟩⟩
            · have K5 := Lib.hid (KK.trans k5)
              have hv : Hid (pSlot ws = none) := by
                rw [Hid, pSlot, F1.out, Option.bind_some, if_pos (.inl F2.out), F3.out, Option.bind_some, F4.out, Option.bind_some, if_neg (fun h => hno (List.mem_singleton.2 h))]
              clear hno TT a5 k5 KK AA XX YY
              go_wp2_with fail
              first | exact HNo.out _ hv.out K5.out | exact ⟨rfl, HNo.out _ hv.out K5.out⟩
            · have K5 := Lib.hid (KK.trans k5)
              have A5 := Lib.hid a5
              have X5 := Lib.hid (XX.kept k5 (fun h => hX (List.mem_singleton.1 h).symm))
              have Y5 := Lib.hid (YY.kept k5 (fun h => hY (List.mem_singleton.1 h).symm))
              have hz5 := K5.out.size
              clear TT k5 a5 KK AA XX YY A4 X4 Y4
              have F5 := Lib.hid (List.mem_singleton.1 hin)
              clear hin
              go_wp2_with fail
              have KK := K5.out
              have AA := A5.out
              have XX := X5.out
              have YY := Y5.out
              refine (HNum.out 5 _ KK AA).mono ?_
              rintro e w6 ⟨k6, ⟨hno, rfl⟩ | ⟨n6, ha, hi6, rfl, a6⟩⟩
              · have K6 := Lib.hid (KK.trans k6)
                have hv : Hid (pSlot ws = none) := by
                  rw [Hid, pSlot, F1.out, Option.bind_some, if_pos (.inl F2.out), F3.out, Option.bind_some, F4.out, Option.bind_some, if_pos F5.out, hno]
                  rfl
                clear hno k6 KK AA XX YY
                go_wp2_with fail
                first | exact HNo.out _ hv.out K6.out | exact ⟨rfl, HNo.out _ hv.out K6.out⟩
              · have K6 := Lib.hid (KK.trans k6)
                have A6 := Lib.hid a6
                have X6 := Lib.hid (XX.kept k6 (fun h => hX (List.mem_singleton.1 h).symm))
                have Y6 := Lib.hid (YY.kept k6 (fun h => hY (List.mem_singleton.1 h).symm))
                have hz6 := K6.out.size
                clear k6 a6 KK AA XX YY A5 X5 Y5
                have F6 := Lib.hid ha
                clear ha
                obtain ⟨hb0, hb1⟩ := in32_iff.1 hi6
                have hw6 : IntKind.u32.wrap n6 = n6 := IntWalk.u32_in _ (by omega)
                have q6 := X6.out.cell 4
                have f6 := X6.out.frozen 4
                go_wp2_with fail
                clear q6 f6
                have KK := K6.out.setCell (p := ⟨w1.heap.size, 4, none⟩) (.inr (show w.heap.size ≤ w1.heap.size by omega)) (.int .u32 n6)
                have AA := A6.out.behind ((Kept.refl [w1.heap.size] w6).setCell (p := ⟨w1.heap.size, 4, none⟩) (.inl (List.mem_singleton.2 rfl)) (.int .u32 n6)) (fun y hy => by rw [List.mem_singleton.1 hy]; omega)
                have XX : Blk (w6.setCell ⟨w1.heap.size, 4, none⟩ (.int .u32 n6)) w1.heap.size 54 #[.int .i64 n1, .int .i64 1, .int .i64 n3, .int .i64 n4, .int .u32 n6, .int .i64 0, .bool false, .slice none 0 0] := X6.out.set_ 4 _
                have YY := Y6.out.far (p := ⟨w1.heap.size, 4, none⟩) (show w.heap.size ≠ w1.heap.size by omega) (.int .u32 n6)
                replace KK := KK.alloc (.cells #[.string ⟨#[114, 111, 111, 109]⟩] 9)
                replace AA := AA.kept ((Kept.refl [] _).alloc (.cells #[.string ⟨#[114, 111, 111, 109]⟩] 9))
                replace XX := XX.alloc (.cells #[.string ⟨#[114, 111, 111, 109]⟩] 9)
                replace YY := YY.alloc (.cells #[.string ⟨#[114, 111, 111, 109]⟩] 9)
                have TT : TAt ((w6.setCell ⟨w1.heap.size, 4, none⟩ (.int .u32 n6)).alloc (.cells #[.string ⟨#[114, 111, 111, 109]⟩] 9)) w6.heap.size [[114, 111, 111, 109]] := TAt.new' (l := [[114, 111, 111, 109]]) (by simp)
                refine (HIs.out 6 _ w6.heap.size 1 [[114, 111, 111, 109]] KK AA TT (by decide) (by omega)).mono ?_
                rintro e w7 ⟨k7, a7, ⟨hno, rfl⟩ | ⟨hin, rfl⟩⟩
                · have K7 := Lib.hid (KK.trans k7)
                  have hv : Hid (pSlot ws = none) := by
                    rw [Hid, pSlot, F1.out, Option.bind_some, if_pos (.inl F2.out), F3.out, Option.bind_some, F4.out, Option.bind_some, if_pos F5.out, F6.out, Option.bind_some, if_neg (fun h => hno (List.mem_singleton.2 h))]
                  clear hno TT a7 k7 KK AA XX YY
                  go_wp2_with fail
                  first | exact HNo.out _ hv.out K7.out | exact ⟨rfl, HNo.out _ hv.out K7.out⟩
                · have K7 := Lib.hid (KK.trans k7)
                  have A7 := Lib.hid a7
                  have X7 := Lib.hid (XX.kept k7 (fun h => hX (List.mem_singleton.1 h).symm))
                  have Y7 := Lib.hid (YY.kept k7 (fun h => hY (List.mem_singleton.1 h).symm))
                  have hz7 := K7.out.size
                  clear TT k7 a7 KK AA XX YY A6 X6 Y6
                  have F7 := Lib.hid (List.mem_singleton.1 hin)
                  clear hin
                  go_wp2_with fail
                  have KK := K7.out
                  have AA := A7.out
                  have XX := X7.out
                  have YY := Y7.out
                  refine (HNum.out 7 _ KK AA).mono ?_
                  rintro e w8 ⟨k8, ⟨hno, rfl⟩ | ⟨n8, ha, hi8, rfl, a8⟩⟩
                  · have K8 := Lib.hid (KK.trans k8)
                    have hv : Hid (pSlot ws = none) := by
                      rw [Hid, pSlot, F1.out, Option.bind_some, if_pos (.inl F2.out), F3.out, Option.bind_some, F4.out, Option.bind_some, if_pos F5.out, F6.out, Option.bind_some, if_pos F7.out, hno]
                      rfl
                    clear hno k8 KK AA XX YY
                    go_wp2_with fail
                    first | exact HNo.out _ hv.out K8.out | exact ⟨rfl, HNo.out _ hv.out K8.out⟩
                  · have K8 := Lib.hid (KK.trans k8)
                    have A8 := Lib.hid a8
                    have X8 := Lib.hid (XX.kept k8 (fun h => hX (List.mem_singleton.1 h).symm))
                    have Y8 := Lib.hid (YY.kept k8 (fun h => hY (List.mem_singleton.1 h).symm))
                    have hz8 := K8.out.size
                    clear k8 a8 KK AA XX YY A7 X7 Y7
                    have F8 := Lib.hid ha
                    clear ha
                    have hst : (if ws.getD 1 [] = wU true then (2 : Int) else 1) = 1 := by
                      rw [F2.out]
                      rfl
                    replace hst := Lib.hid hst
                    have q8 := X8.out.cell 5
                    have f8 := X8.out.frozen 5
                    have A8t : WAt w8 R (ws.drop 8) := A8.out
                    obtain ⟨AR, cR, BR, hclr⟩ := A8t
                    clear hclr
                    have cr := BR.cell 0
                    have crx : (w8.setCell ⟨w1.heap.size, 5, none⟩ (.int .i64 n8)).cell? ⟨R, 0, none⟩ = some (.slice AR (ws.drop 8).length cR) := (BR.far (p := ⟨w1.heap.size, 5, none⟩) (show R ≠ w1.heap.size by omega) _).cell 0
                    clear BR
                    obtain ⟨d8, hd8⟩ : ∃ d8, (ws.drop 8).length = d8 := ⟨_, rfl⟩
                    rw [hd8] at cr crx
                    have hd9 : ws.length - 8 = d8 := by rw [← hd8, List.length_drop]
                    replace hd8 := Lib.hid hd8
                    replace hd9 := Lib.hid hd9
                    have KK := K8.out.setCell (p := ⟨w1.heap.size, 5, none⟩) (.inr (show w.heap.size ≤ w1.heap.size by omega)) (.int .i64 n8)
                    have AA := A8.out.behind ((Kept.refl [w1.heap.size] w8).setCell (p := ⟨w1.heap.size, 5, none⟩) (.inl (List.mem_singleton.2 rfl)) (.int .i64 n8)) (fun y hy => by rw [List.mem_singleton.1 hy]; omega)
                    have XX : Blk (w8.setCell ⟨w1.heap.size, 5, none⟩ (.int .i64 n8)) w1.heap.size 54 #[.int .i64 n1, .int .i64 1, .int .i64 n3, .int .i64 n4, .int .u32 n6, .int .i64 n8, .bool false, .slice none 0 0] := X8.out.set_ 5 _
                    have YY := Y8.out.far (p := ⟨w1.heap.size, 5, none⟩) (show w.heap.size ≠ w1.heap.size by omega) (.int .i64 n8)
                    by_cases hl : 0 < d8
                    case neg =>
                      obtain rfl : d8 = 0 := by omega
                      have hnil : ws.drop 8 = [] := List.length_eq_zero_iff.1 hd8.out
                      have hv : Hid (pSlot ws = some ⟨n1, n3, n4, n6, n8, 1, false, []⟩) := by
                        have h8 : ws.length ≤ 8 := by
                          have := hd9.out
                          omega
                        rw [Hid, pSlot, F1.out, Option.bind_some, if_pos (.inl F2.out), F3.out, Option.bind_some, F4.out, Option.bind_some, if_pos F5.out, F6.out, Option.bind_some, if_pos F7.out, F8.out, Option.bind_some, if_pos h8, hst.out]
                      have HEnd := Lib.hid (dump_end R (ws.drop 8) _ AA (by rw [hnil]; decide))
                      unfold EndPost at HEnd
                      rw [hnil] at HEnd
                      obtain ⟨x0, x1, x2, x3, x4, x5, x6, x7⟩ := blk8 XX
                      obtain ⟨y0, y1, y2, y3, y4, y5, y6, y7⟩ := blk8 YY
                      obtain ⟨g0, g1, g2, g3, g4, g5, g6, g7⟩ := frz8 YY
                      replace KK := Lib.hid KK
                      replace AA := Lib.hid AA
                      replace XX := Lib.hid XX
                      replace YY := Lib.hid YY
                      go_wp2_with fail
                      refine HEnd.out.mono ?_
                      rintro e w9 ⟨⟨_, rfl⟩ | ⟨hne, _⟩, rfl⟩
                      · go_wp2_with fail
                        refine bodyPost_ret (results_wslot _ _ w.heap.size ⟨n1, n3, n4, n6, n8, 1, false, []⟩ rfl (blk8_set YY.out _ _ _ _ _ _ _ _)) rfl ?_
                        exact HYes.out _ _ hv.out (kept8 KK.out (.inr (Nat.le_refl _)) _ _ _ _ _ _ _ _)
                      · exact absurd rfl hne
                    have hli : (0 : Int) < (d8 : Int) := by omega
                    clear KK AA XX YY
                    go_wp2_with fail
                    clear q8 f8
                    have KK := K8.out.setCell (p := ⟨w1.heap.size, 5, none⟩) (.inr (show w.heap.size ≤ w1.heap.size by omega)) (.int .i64 n8)
                    have AA := A8.out.behind ((Kept.refl [w1.heap.size] w8).setCell (p := ⟨w1.heap.size, 5, none⟩) (.inl (List.mem_singleton.2 rfl)) (.int .i64 n8)) (fun y hy => by rw [List.mem_singleton.1 hy]; omega)
                    have XX : Blk (w8.setCell ⟨w1.heap.size, 5, none⟩ (.int .i64 n8)) w1.heap.size 54 #[.int .i64 n1, .int .i64 1, .int .i64 n3, .int .i64 n4, .int .u32 n6, .int .i64 n8, .bool false, .slice none 0 0] := X8.out.set_ 5 _
                    have YY := Y8.out.far (p := ⟨w1.heap.size, 5, none⟩) (show w.heap.size ≠ w1.heap.size by omega) (.int .i64 n8)
                    replace KK := KK.alloc (.cells #[.string ⟨#[105, 110, 118, 97, 108, 105, 100]⟩] 9)
                    replace AA := AA.kept ((Kept.refl [] _).alloc (.cells #[.string ⟨#[105, 110, 118, 97, 108, 105, 100]⟩] 9))
                    replace XX := XX.alloc (.cells #[.string ⟨#[105, 110, 118, 97, 108, 105, 100]⟩] 9)
                    replace YY := YY.alloc (.cells #[.string ⟨#[105, 110, 118, 97, 108, 105, 100]⟩] 9)
                    have TT : TAt ((w8.setCell ⟨w1.heap.size, 5, none⟩ (.int .i64 n8)).alloc (.cells #[.string ⟨#[105, 110, 118, 97, 108, 105, 100]⟩] 9)) w8.heap.size [[105, 110, 118, 97, 108, 105, 100]] := TAt.new' (l := [[105, 110, 118, 97, 108, 105, 100]]) (by simp)
                    refine (HIs.out 8 _ w8.heap.size 1 [[105, 110, 118, 97, 108, 105, 100]] KK AA TT (by decide) (by omega)).mono ?_
                    rintro e w9 ⟨k9, a9, ⟨hno, rfl⟩ | ⟨hin, rfl⟩⟩
                    · have K9 := Lib.hid (KK.trans k9)
                      have hv : Hid (pSlot ws = none) := by
                        have h8 : ¬ ws.length ≤ 8 := by
                          have := hd9.out
                          omega
                        rw [Hid, pSlot, F1.out, Option.bind_some, if_pos (.inl F2.out), F3.out, Option.bind_some, F4.out, Option.bind_some, if_pos F5.out, F6.out, Option.bind_some, if_pos F7.out, F8.out, Option.bind_some, if_neg h8, if_neg (fun h => hno (List.mem_singleton.2 h.1))]
                      clear hno TT a9 k9 KK AA XX YY
                      go_wp2_with fail
                      first | exact HNo.out _ hv.out K9.out | exact ⟨rfl, HNo.out _ hv.out K9.out⟩
                    · have K9 := Lib.hid (KK.trans k9)
                      have A9 := Lib.hid a9
                      have X9 := Lib.hid (XX.kept k9 (fun h => hX (List.mem_singleton.1 h).symm))
                      have Y9 := Lib.hid (YY.kept k9 (fun h => hY (List.mem_singleton.1 h).symm))
                      have hz9 := K9.out.size
                      clear TT k9 a9 KK AA XX YY A8 X8 Y8
                      have F9 := Lib.hid (List.mem_singleton.1 hin)
                      clear hin
                      have q9 := X9.out.cell 6
                      have f9 := X9.out.frozen 6
                      have KK := K9.out.setCell (p := ⟨w1.heap.size, 6, none⟩) (.inr (show w.heap.size ≤ w1.heap.size by omega)) (.bool true)
                      have AA := A9.out.behind ((Kept.refl [w1.heap.size] w9).setCell (p := ⟨w1.heap.size, 6, none⟩) (.inl (List.mem_singleton.2 rfl)) (.bool true)) (fun y hy => by rw [List.mem_singleton.1 hy]; omega)
                      have XX : Blk (w9.setCell ⟨w1.heap.size, 6, none⟩ (.bool true)) w1.heap.size 54 #[.int .i64 n1, .int .i64 1, .int .i64 n3, .int .i64 n4, .int .u32 n6, .int .i64 n8, .bool true, .slice none 0 0] := X9.out.set_ 6 _
                      have YY := Y9.out.far (p := ⟨w1.heap.size, 6, none⟩) (show w.heap.size ≠ w1.heap.size by omega) (.bool true)
                      have h8 : ¬ ws.length ≤ 8 := by
                        have := hd9.out
                        omega
                      replace h8 := Lib.hid h8
                      by_cases hnil : ws.drop 9 = []
                      · have hv : Hid (pSlot ws = some ⟨n1, n3, n4, n6, n8, 1, true, []⟩) := by
                          have h9 : ws.length = 9 := by
                            have := congrArg List.length hnil
                            rw [List.length_drop, List.length_nil] at this
                            have := h8.out
                            omega
                          rw [Hid, pSlot, F1.out, Option.bind_some, if_pos (.inl F2.out), F3.out, Option.bind_some, F4.out, Option.bind_some, if_pos F5.out, F6.out, Option.bind_some, if_pos F7.out, F8.out, Option.bind_some, if_neg h8.out, if_pos ⟨F9.out, h9⟩, hst.out]
                        have HEnd := Lib.hid (dump_end R (ws.drop 9) _ AA (by rw [hnil]; decide))
                        unfold EndPost at HEnd
                        rw [hnil] at HEnd
                        obtain ⟨x0, x1, x2, x3, x4, x5, x6, x7⟩ := blk8 XX
                        obtain ⟨y0, y1, y2, y3, y4, y5, y6, y7⟩ := blk8 YY
                        obtain ⟨g0, g1, g2, g3, g4, g5, g6, g7⟩ := frz8 YY
                        replace KK := Lib.hid KK
                        replace AA := Lib.hid AA
                        replace XX := Lib.hid XX
                        replace YY := Lib.hid YY
                        go_wp2_with fail
                        refine HEnd.out.mono ?_
                        rintro e w10 ⟨⟨_, rfl⟩ | ⟨hne, _⟩, rfl⟩
                        · go_wp2_with fail
                          refine bodyPost_ret (results_wslot _ _ w.heap.size ⟨n1, n3, n4, n6, n8, 1, true, []⟩ rfl (blk8_set YY.out _ _ _ _ _ _ _ _)) rfl ?_
                          exact HYes.out _ _ hv.out (kept8 KK.out (.inr (Nat.le_refl _)) _ _ _ _ _ _ _ _)
                        · exact absurd rfl hne
                      · have hv : Hid (pSlot ws = none) := by
                          have h9 : ¬ ws.length = 9 := fun h => hnil (List.drop_eq_nil_iff.2 (by omega))
                          rw [Hid, pSlot, F1.out, Option.bind_some, if_pos (.inl F2.out), F3.out, Option.bind_some, F4.out, Option.bind_some, if_pos F5.out, F6.out, Option.bind_some, if_pos F7.out, F8.out, Option.bind_some, if_neg h8.out, if_neg (fun h => h9 h.2)]
                        have HEnd := Lib.hid (dump_end R (ws.drop 9) _ AA (by rw [List.length_drop]; have := HLn.out; omega))
                        unfold EndPost at HEnd
                        replace KK := Lib.hid KK
                        clear AA XX YY
                        go_wp2_with fail
                        refine HEnd.out.mono ?_
                        rintro e w10 ⟨⟨hne, _⟩ | ⟨_, rfl⟩, rfl⟩
                        · exact absurd hne hnil
                        · go_wp2_with fail
                          first | exact HNo.out _ hv.out KK.out | exact ⟨rfl, HNo.out _ hv.out KK.out⟩
      · have F2 := Lib.hid hu
        rw [hu]
        clear hu
        unfold wU
        have q2 := X2.out.cell 1
        have f2 := X2.out.frozen 1
        go_wp2_with fail
        clear q2 f2
        have KK := K2.out.setCell (p := ⟨w1.heap.size, 1, none⟩) (.inr (show w.heap.size ≤ w1.heap.size by omega)) (.int .i64 2)
        have AA := A2.out.behind ((Kept.refl [w1.heap.size] w2).setCell (p := ⟨w1.heap.size, 1, none⟩) (.inl (List.mem_singleton.2 rfl)) (.int .i64 2)) (fun y hy => by rw [List.mem_singleton.1 hy]; omega)
        have XX : Blk (w2.setCell ⟨w1.heap.size, 1, none⟩ (.int .i64 2)) w1.heap.size 54 #[.int .i64 n1, .int .i64 2, .int .i64 0, .int .i64 0, .int .u32 0, .int .i64 0, .bool false, .slice none 0 0] := X2.out.set_ 1 _
        have YY := Y2.out.far (p := ⟨w1.heap.size, 1, none⟩) (show w.heap.size ≠ w1.heap.size by omega) (.int .i64 2)
        refine (HNum.out 2 _ KK AA).mono ?_
        rintro e w3 ⟨k3, ⟨hno, rfl⟩ | ⟨n3, ha, hi3, rfl, a3⟩⟩
        · have K3 := Lib.hid (KK.trans k3)
          have hv : Hid (pSlot ws = none) := by
            rw [Hid, pSlot, F1.out, Option.bind_some, if_pos (.inr F2.out), hno]
            rfl
          clear hno k3 KK AA XX YY
          go_wp2_with fail
          first | exact HNo.out _ hv.out K3.out | exact ⟨rfl, HNo.out _ hv.out K3.out⟩
        · have K3 := Lib.hid (KK.trans k3)
          have A3 := Lib.hid a3
          have X3 := Lib.hid (XX.kept k3 (fun h => hX (List.mem_singleton.1 h).symm))
          have Y3 := Lib.hid (YY.kept k3 (fun h => hY (List.mem_singleton.1 h).symm))
          have hz3 := K3.out.size
          clear k3 a3 KK AA XX YY A2 X2 Y2
          have F3 := Lib.hid ha
          clear ha
          have q3 := X3.out.cell 2
          have f3 := X3.out.frozen 2
          go_wp2_with fail
          clear q3 f3
          have KK := K3.out.setCell (p := ⟨w1.heap.size, 2, none⟩) (.inr (show w.heap.size ≤ w1.heap.size by omega)) (.int .i64 n3)
          have AA := A3.out.behind ((Kept.refl [w1.heap.size] w3).setCell (p := ⟨w1.heap.size, 2, none⟩) (.inl (List.mem_singleton.2 rfl)) (.int .i64 n3)) (fun y hy => by rw [List.mem_singleton.1 hy]; omega)
          have XX : Blk (w3.setCell ⟨w1.heap.size, 2, none⟩ (.int .i64 n3)) w1.heap.size 54 #[.int .i64 n1, .int .i64 2, .int .i64 n3, .int .i64 0, .int .u32 0, .int .i64 0, .bool false, .slice none 0 0] := X3.out.set_ 2 _
          have YY := Y3.out.far (p := ⟨w1.heap.size, 2, none⟩) (show w.heap.size ≠ w1.heap.size by omega) (.int .i64 n3)
          refine (HNum.out 3 _ KK AA).mono ?_
          rintro e w4 ⟨k4, ⟨hno, rfl⟩ | ⟨n4, ha, hi4, rfl, a4⟩⟩
          · have K4 := Lib.hid (KK.trans k4)
            have hv : Hid (pSlot ws = none) := by
              rw [Hid, pSlot, F1.out, Option.bind_some, if_pos (.inr F2.out), F3.out, Option.bind_some, hno]
              rfl
            clear hno k4 KK AA XX YY
            go_wp2_with fail
            first | exact HNo.out _ hv.out K4.out | exact ⟨rfl, HNo.out _ hv.out K4.out⟩
          · have K4 := Lib.hid (KK.trans k4)
            have A4 := Lib.hid a4
            have X4 := Lib.hid (XX.kept k4 (fun h => hX (List.mem_singleton.1 h).symm))
            have Y4 := Lib.hid (YY.kept k4 (fun h => hY (List.mem_singleton.1 h).symm))
            have hz4 := K4.out.size
            clear k4 a4 KK AA XX YY A3 X3 Y3
            have F4 := Lib.hid ha
            clear ha
            have q4 := X4.out.cell 3
            have f4 := X4.out.frozen 3
            go_wp2_with fail
            clear q4 f4
            have KK := K4.out.setCell (p := ⟨w1.heap.size, 3, none⟩) (.inr (show w.heap.size ≤ w1.heap.size by omega)) (.int .i64 n4)
            have AA := A4.out.behind ((Kept.refl [w1.heap.size] w4).setCell (p := ⟨w1.heap.size, 3, none⟩) (.inl (List.mem_singleton.2 rfl)) (.int .i64 n4)) (fun y hy => by rw [List.mem_singleton.1 hy]; omega)
            have XX : Blk (w4.setCell ⟨w1.heap.size, 3, none⟩ (.int .i64 n4)) w1.heap.size 54 #[.int .i64 n1, .int .i64 2, .int .i64 n3, .int .i64 n4, .int .u32 0, .int .i64 0, .bool false, .slice none 0 0] := X4.out.set_ 3 _
            have YY := Y4.out.far (p := ⟨w1.heap.size, 3, none⟩) (show w.heap.size ≠ w1.heap.size by omega) (.int .i64 n4)
            replace KK := KK.alloc (.cells #[.string ⟨#[103, 101, 110]⟩] 9)
            replace AA := AA.kept ((Kept.refl [] _).alloc (.cells #[.string ⟨#[103, 101, 110]⟩] 9))
            replace XX := XX.alloc (.cells #[.string ⟨#[103, 101, 110]⟩] 9)
            replace YY := YY.alloc (.cells #[.string ⟨#[103, 101, 110]⟩] 9)
            have TT : TAt ((w4.setCell ⟨w1.heap.size, 3, none⟩ (.int .i64 n4)).alloc (.cells #[.string ⟨#[103, 101, 110]⟩] 9)) w4.heap.size [[103, 101, 110]] := TAt.new' (l := [[103, 101, 110]]) (by simp)
            refine (HIs.out 4 _ w4.heap.size 1 [[103, 101, 110]] KK AA TT (by decide) (by omega)).mono ?_
            rintro e w5 ⟨k5, a5, ⟨hno, rfl⟩ | ⟨hin, rfl⟩⟩
            · have K5 := Lib.hid (KK.trans k5)
              have hv : Hid (pSlot ws = none) := by
                rw [Hid, pSlot, F1.out, Option.bind_some, if_pos (.inr F2.out), F3.out, Option.bind_some, F4.out, Option.bind_some, if_neg (fun h => hno (List.mem_singleton.2 h))]
              clear hno TT a5 k5 KK AA XX YY
              go_wp2_with fail
              first | exact HNo.out _ hv.out K5.out | exact ⟨rfl, HNo.out _ hv.out K5.out⟩
            · have K5 := Lib.hid (KK.trans k5)
              have A5 := Lib.hid a5
              have X5 := Lib.hid (XX.kept k5 (fun h => hX (List.mem_singleton.1 h).symm))
              have Y5 := Lib.hid (YY.kept k5 (fun h => hY (List.mem_singleton.1 h).symm))
              have hz5 := K5.out.size
              clear TT k5 a5 KK AA XX YY A4 X4 Y4
              have F5 := Lib.hid (List.mem_singleton.1 hin)
              clear hin
              go_wp2_with fail
              have KK := K5.out
              have AA := A5.out
              have XX := X5.out
              have YY := Y5.out
              refine (HNum.out 5 _ KK AA).mono ?_
              rintro e w6 ⟨k6, ⟨hno, rfl⟩ | ⟨n6, ha, hi6, rfl, a6⟩⟩
              · have K6 := Lib.hid (KK.trans k6)
                have hv : Hid (pSlot ws = none) := by
                  rw [Hid, pSlot, F1.out, Option.bind_some, if_pos (.inr F2.out), F3.out, Option.bind_some, F4.out, Option.bind_some, if_pos F5.out, hno]
                  rfl
                clear hno k6 KK AA XX YY
                go_wp2_with fail
                first | exact HNo.out _ hv.out K6.out | exact ⟨rfl, HNo.out _ hv.out K6.out⟩
              · have K6 := Lib.hid (KK.trans k6)
                have A6 := Lib.hid a6
                have X6 := Lib.hid (XX.kept k6 (fun h => hX (List.mem_singleton.1 h).symm))
                have Y6 := Lib.hid (YY.kept k6 (fun h => hY (List.mem_singleton.1 h).symm))
                have hz6 := K6.out.size
                clear k6 a6 KK AA XX YY A5 X5 Y5
                have F6 := Lib.hid ha
                clear ha
                obtain ⟨hb0, hb1⟩ := in32_iff.1 hi6
                have hw6 : IntKind.u32.wrap n6 = n6 := IntWalk.u32_in _ (by omega)
                have q6 := X6.out.cell 4
                have f6 := X6.out.frozen 4
                go_wp2_with fail
                clear q6 f6
                have KK := K6.out.setCell (p := ⟨w1.heap.size, 4, none⟩) (.inr (show w.heap.size ≤ w1.heap.size by omega)) (.int .u32 n6)
                have AA := A6.out.behind ((Kept.refl [w1.heap.size] w6).setCell (p := ⟨w1.heap.size, 4, none⟩) (.inl (List.mem_singleton.2 rfl)) (.int .u32 n6)) (fun y hy => by rw [List.mem_singleton.1 hy]; omega)
                have XX : Blk (w6.setCell ⟨w1.heap.size, 4, none⟩ (.int .u32 n6)) w1.heap.size 54 #[.int .i64 n1, .int .i64 2, .int .i64 n3, .int .i64 n4, .int .u32 n6, .int .i64 0, .bool false, .slice none 0 0] := X6.out.set_ 4 _
                have YY := Y6.out.far (p := ⟨w1.heap.size, 4, none⟩) (show w.heap.size ≠ w1.heap.size by omega) (.int .u32 n6)
                replace KK := KK.alloc (.cells #[.string ⟨#[114, 111, 111, 109]⟩] 9)
                replace AA := AA.kept ((Kept.refl [] _).alloc (.cells #[.string ⟨#[114, 111, 111, 109]⟩] 9))
                replace XX := XX.alloc (.cells #[.string ⟨#[114, 111, 111, 109]⟩] 9)
                replace YY := YY.alloc (.cells #[.string ⟨#[114, 111, 111, 109]⟩] 9)
                have TT : TAt ((w6.setCell ⟨w1.heap.size, 4, none⟩ (.int .u32 n6)).alloc (.cells #[.string ⟨#[114, 111, 111, 109]⟩] 9)) w6.heap.size [[114, 111, 111, 109]] := TAt.new' (l := [[114, 111, 111, 109]]) (by simp)
                refine (HIs.out 6 _ w6.heap.size 1 [[114, 111, 111, 109]] KK AA TT (by decide) (by omega)).mono ?_
                rintro e w7 ⟨k7, a7, ⟨hno, rfl⟩ | ⟨hin, rfl⟩⟩
                · have K7 := Lib.hid (KK.trans k7)
                  have hv : Hid (pSlot ws = none) := by
                    rw [Hid, pSlot, F1.out, Option.bind_some, if_pos (.inr F2.out), F3.out, Option.bind_some, F4.out, Option.bind_some, if_pos F5.out, F6.out, Option.bind_some, if_neg (fun h => hno (List.mem_singleton.2 h))]
                  clear hno TT a7 k7 KK AA XX YY
                  go_wp2_with fail
                  first | exact HNo.out _ hv.out K7.out | exact ⟨rfl, HNo.out _ hv.out K7.out⟩
                · have K7 := Lib.hid (KK.trans k7)
                  have A7 := Lib.hid a7
                  have X7 := Lib.hid (XX.kept k7 (fun h => hX (List.mem_singleton.1 h).symm))
                  have Y7 := Lib.hid (YY.kept k7 (fun h => hY (List.mem_singleton.1 h).symm))
                  have hz7 := K7.out.size
                  clear TT k7 a7 KK AA XX YY A6 X6 Y6
                  have F7 := Lib.hid (List.mem_singleton.1 hin)
                  clear hin
                  go_wp2_with fail
                  have KK := K7.out
                  have AA := A7.out
                  have XX := X7.out
                  have YY := Y7.out
                  refine (HNum.out 7 _ KK AA).mono ?_
                  rintro e w8 ⟨k8, ⟨hno, rfl⟩ | ⟨n8, ha, hi8, rfl, a8⟩⟩
                  · have K8 := Lib.hid (KK.trans k8)
                    have hv : Hid (pSlot ws = none) := by
                      rw [Hid, pSlot, F1.out, Option.bind_some, if_pos (.inr F2.out), F3.out, Option.bind_some, F4.out, Option.bind_some, if_pos F5.out, F6.out, Option.bind_some, if_pos F7.out, hno]
                      rfl
                    clear hno k8 KK AA XX YY
                    go_wp2_with fail
                    first | exact HNo.out _ hv.out K8.out | exact ⟨rfl, HNo.out _ hv.out K8.out⟩
                  · have K8 := Lib.hid (KK.trans k8)
                    have A8 := Lib.hid a8
                    have X8 := Lib.hid (XX.kept k8 (fun h => hX (List.mem_singleton.1 h).symm))
                    have Y8 := Lib.hid (YY.kept k8 (fun h => hY (List.mem_singleton.1 h).symm))
                    have hz8 := K8.out.size
                    clear k8 a8 KK AA XX YY A7 X7 Y7
                    have F8 := Lib.hid ha
                    clear ha
                    have hst : (if ws.getD 1 [] = wU true then (2 : Int) else 1) = 2 := by
                      rw [F2.out]
                      rfl
                    replace hst := Lib.hid hst
                    have q8 := X8.out.cell 5
                    have f8 := X8.out.frozen 5
                    have A8t : WAt w8 R (ws.drop 8) := A8.out
                    obtain ⟨AR, cR, BR, hclr⟩ := A8t
                    clear hclr
                    have cr := BR.cell 0
                    have crx : (w8.setCell ⟨w1.heap.size, 5, none⟩ (.int .i64 n8)).cell? ⟨R, 0, none⟩ = some (.slice AR (ws.drop 8).length cR) := (BR.far (p := ⟨w1.heap.size, 5, none⟩) (show R ≠ w1.heap.size by omega) _).cell 0
                    clear BR
                    obtain ⟨d8, hd8⟩ : ∃ d8, (ws.drop 8).length = d8 := ⟨_, rfl⟩
                    rw [hd8] at cr crx
                    have hd9 : ws.length - 8 = d8 := by rw [← hd8, List.length_drop]
                    replace hd8 := Lib.hid hd8
                    replace hd9 := Lib.hid hd9
                    have KK := K8.out.setCell (p := ⟨w1.heap.size, 5, none⟩) (.inr (show w.heap.size ≤ w1.heap.size by omega)) (.int .i64 n8)
                    have AA := A8.out.behind ((Kept.refl [w1.heap.size] w8).setCell (p := ⟨w1.heap.size, 5, none⟩) (.inl (List.mem_singleton.2 rfl)) (.int .i64 n8)) (fun y hy => by rw [List.mem_singleton.1 hy]; omega)
                    have XX : Blk (w8.setCell ⟨w1.heap.size, 5, none⟩ (.int .i64 n8)) w1.heap.size 54 #[.int .i64 n1, .int .i64 2, .int .i64 n3, .int .i64 n4, .int .u32 n6, .int .i64 n8, .bool false, .slice none 0 0] := X8.out.set_ 5 _
                    have YY := Y8.out.far (p := ⟨w1.heap.size, 5, none⟩) (show w.heap.size ≠ w1.heap.size by omega) (.int .i64 n8)
                    by_cases hl : 0 < d8
                    case neg =>
                      obtain rfl : d8 = 0 := by omega
                      have hnil : ws.drop 8 = [] := List.length_eq_zero_iff.1 hd8.out
                      have hv : Hid (pSlot ws = some ⟨n1, n3, n4, n6, n8, 2, false, []⟩) := by
                        have h8 : ws.length ≤ 8 := by
                          have := hd9.out
                          omega
                        rw [Hid, pSlot, F1.out, Option.bind_some, if_pos (.inr F2.out), F3.out, Option.bind_some, F4.out, Option.bind_some, if_pos F5.out, F6.out, Option.bind_some, if_pos F7.out, F8.out, Option.bind_some, if_pos h8, hst.out]
                      have HEnd := Lib.hid (dump_end R (ws.drop 8) _ AA (by rw [hnil]; decide))
                      unfold EndPost at HEnd
                      rw [hnil] at HEnd
                      obtain ⟨x0, x1, x2, x3, x4, x5, x6, x7⟩ := blk8 XX
                      obtain ⟨y0, y1, y2, y3, y4, y5, y6, y7⟩ := blk8 YY
                      obtain ⟨g0, g1, g2, g3, g4, g5, g6, g7⟩ := frz8 YY
                      replace KK := Lib.hid KK
                      replace AA := Lib.hid AA
                      replace XX := Lib.hid XX
                      replace YY := Lib.hid YY
                      go_wp2_with fail
                      refine HEnd.out.mono ?_
                      rintro e w9 ⟨⟨_, rfl⟩ | ⟨hne, _⟩, rfl⟩
                      · go_wp2_with fail
                        refine bodyPost_ret (results_wslot _ _ w.heap.size ⟨n1, n3, n4, n6, n8, 2, false, []⟩ rfl (blk8_set YY.out _ _ _ _ _ _ _ _)) rfl ?_
                        exact HYes.out _ _ hv.out (kept8 KK.out (.inr (Nat.le_refl _)) _ _ _ _ _ _ _ _)
                      · exact absurd rfl hne
                    have hli : (0 : Int) < (d8 : Int) := by omega
                    clear KK AA XX YY
                    go_wp2_with fail
                    clear q8 f8
                    have KK := K8.out.setCell (p := ⟨w1.heap.size, 5, none⟩) (.inr (show w.heap.size ≤ w1.heap.size by omega)) (.int .i64 n8)
                    have AA := A8.out.behind ((Kept.refl [w1.heap.size] w8).setCell (p := ⟨w1.heap.size, 5, none⟩) (.inl (List.mem_singleton.2 rfl)) (.int .i64 n8)) (fun y hy => by rw [List.mem_singleton.1 hy]; omega)
                    have XX : Blk (w8.setCell ⟨w1.heap.size, 5, none⟩ (.int .i64 n8)) w1.heap.size 54 #[.int .i64 n1, .int .i64 2, .int .i64 n3, .int .i64 n4, .int .u32 n6, .int .i64 n8, .bool false, .slice none 0 0] := X8.out.set_ 5 _
                    have YY := Y8.out.far (p := ⟨w1.heap.size, 5, none⟩) (show w.heap.size ≠ w1.heap.size by omega) (.int .i64 n8)
                    replace KK := KK.alloc (.cells #[.string ⟨#[105, 110, 118, 97, 108, 105, 100]⟩] 9)
                    replace AA := AA.kept ((Kept.refl [] _).alloc (.cells #[.string ⟨#[105, 110, 118, 97, 108, 105, 100]⟩] 9))
                    replace XX := XX.alloc (.cells #[.string ⟨#[105, 110, 118, 97, 108, 105, 100]⟩] 9)
                    replace YY := YY.alloc (.cells #[.string ⟨#[105, 110, 118, 97, 108, 105, 100]⟩] 9)
                    have TT : TAt ((w8.setCell ⟨w1.heap.size, 5, none⟩ (.int .i64 n8)).alloc (.cells #[.string ⟨#[105, 110, 118, 97, 108, 105, 100]⟩] 9)) w8.heap.size [[105, 110, 118, 97, 108, 105, 100]] := TAt.new' (l := [[105, 110, 118, 97, 108, 105, 100]]) (by simp)
                    refine (HIs.out 8 _ w8.heap.size 1 [[105, 110, 118, 97, 108, 105, 100]] KK AA TT (by decide) (by omega)).mono ?_
                    rintro e w9 ⟨k9, a9, ⟨hno, rfl⟩ | ⟨hin, rfl⟩⟩
                    · have K9 := Lib.hid (KK.trans k9)
                      have hv : Hid (pSlot ws = none) := by
                        have h8 : ¬ ws.length ≤ 8 := by
                          have := hd9.out
                          omega
                        rw [Hid, pSlot, F1.out, Option.bind_some, if_pos (.inr F2.out), F3.out, Option.bind_some, F4.out, Option.bind_some, if_pos F5.out, F6.out, Option.bind_some, if_pos F7.out, F8.out, Option.bind_some, if_neg h8, if_neg (fun h => hno (List.mem_singleton.2 h.1))]
                      clear hno TT a9 k9 KK AA XX YY
                      go_wp2_with fail
                      first | exact HNo.out _ hv.out K9.out | exact ⟨rfl, HNo.out _ hv.out K9.out⟩
                    · have K9 := Lib.hid (KK.trans k9)
                      have A9 := Lib.hid a9
                      have X9 := Lib.hid (XX.kept k9 (fun h => hX (List.mem_singleton.1 h).symm))
                      have Y9 := Lib.hid (YY.kept k9 (fun h => hY (List.mem_singleton.1 h).symm))
                      have hz9 := K9.out.size
                      clear TT k9 a9 KK AA XX YY A8 X8 Y8
                      have F9 := Lib.hid (List.mem_singleton.1 hin)
                      clear hin
                      have q9 := X9.out.cell 6
                      have f9 := X9.out.frozen 6
                      have KK := K9.out.setCell (p := ⟨w1.heap.size, 6, none⟩) (.inr (show w.heap.size ≤ w1.heap.size by omega)) (.bool true)
                      have AA := A9.out.behind ((Kept.refl [w1.heap.size] w9).setCell (p := ⟨w1.heap.size, 6, none⟩) (.inl (List.mem_singleton.2 rfl)) (.bool true)) (fun y hy => by rw [List.mem_singleton.1 hy]; omega)
                      have XX : Blk (w9.setCell ⟨w1.heap.size, 6, none⟩ (.bool true)) w1.heap.size 54 #[.int .i64 n1, .int .i64 2, .int .i64 n3, .int .i64 n4, .int .u32 n6, .int .i64 n8, .bool true, .slice none 0 0] := X9.out.set_ 6 _
                      have YY := Y9.out.far (p := ⟨w1.heap.size, 6, none⟩) (show w.heap.size ≠ w1.heap.size by omega) (.bool true)
                      have h8 : ¬ ws.length ≤ 8 := by
                        have := hd9.out
                        omega
                      replace h8 := Lib.hid h8
                      by_cases hnil : ws.drop 9 = []
                      · have hv : Hid (pSlot ws = some ⟨n1, n3, n4, n6, n8, 2, true, []⟩) := by
                          have h9 : ws.length = 9 := by
                            have := congrArg List.length hnil
                            rw [List.length_drop, List.length_nil] at this
                            have := h8.out
                            omega
                          rw [Hid, pSlot, F1.out, Option.bind_some, if_pos (.inr F2.out), F3.out, Option.bind_some, F4.out, Option.bind_some, if_pos F5.out, F6.out, Option.bind_some, if_pos F7.out, F8.out, Option.bind_some, if_neg h8.out, if_pos ⟨F9.out, h9⟩, hst.out]
                        have HEnd := Lib.hid (dump_end R (ws.drop 9) _ AA (by rw [hnil]; decide))
                        unfold EndPost at HEnd
                        rw [hnil] at HEnd
                        obtain ⟨x0, x1, x2, x3, x4, x5, x6, x7⟩ := blk8 XX
                        obtain ⟨y0, y1, y2, y3, y4, y5, y6, y7⟩ := blk8 YY
                        obtain ⟨g0, g1, g2, g3, g4, g5, g6, g7⟩ := frz8 YY
                        replace KK := Lib.hid KK
                        replace AA := Lib.hid AA
                        replace XX := Lib.hid XX
                        replace YY := Lib.hid YY
                        go_wp2_with fail
                        refine HEnd.out.mono ?_
                        rintro e w10 ⟨⟨_, rfl⟩ | ⟨hne, _⟩, rfl⟩
                        · go_wp2_with fail
                          refine bodyPost_ret (results_wslot _ _ w.heap.size ⟨n1, n3, n4, n6, n8, 2, true, []⟩ rfl (blk8_set YY.out _ _ _ _ _ _ _ _)) rfl ?_
                          exact HYes.out _ _ hv.out (kept8 KK.out (.inr (Nat.le_refl _)) _ _ _ _ _ _ _ _)
                        · exact absurd rfl hne
                      · have hv : Hid (pSlot ws = none) := by
                          have h9 : ¬ ws.length = 9 := fun h => hnil (List.drop_eq_nil_iff.2 (by omega))
                          rw [Hid, pSlot, F1.out, Option.bind_some, if_pos (.inr F2.out), F3.out, Option.bind_some, F4.out, Option.bind_some, if_pos F5.out, F6.out, Option.bind_some, if_pos F7.out, F8.out, Option.bind_some, if_neg h8.out, if_neg (fun h => h9 h.2)]
                        have HEnd := Lib.hid (dump_end R (ws.drop 9) _ AA (by rw [List.length_drop]; have := HLn.out; omega))
                        unfold EndPost at HEnd
                        replace KK := Lib.hid KK
                        clear AA XX YY
                        go_wp2_with fail
                        refine HEnd.out.mono ?_
                        rintro e w10 ⟨⟨hne, _⟩ | ⟨_, rfl⟩, rfl⟩
                        · exact absurd hne hnil
                        · go_wp2_with fail
                          first | exact HNo.out _ hv.out KK.out | exact ⟨rfl, HNo.out _ hv.out KK.out⟩
end Go.Proofs.YtooplogodcadgaaDoor
