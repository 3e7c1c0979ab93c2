/- Dumps: the document's slot. -/
import Derived.Test.YtooplogodcadgaaDoorDuQ
namespace Go.Proofs.YtooplogodcadgaaDoor
open Go.RowKit Go.Lib

theorem drew2 {w : World} {g t : Nat} {cs : Array Value} (h : Blk w g t cs) : Blk w.drew.drew g t cs := h
theorem kept_drew2 {l : List Nat} {w0 w : World} (k : Kept l w0 w) : Kept l w0 w.drew.drew := k.drew.drew
def fromK (ws : List Bs) : List (Bool × Bool) → Option Sl
  | [] => none
  | (m, i) :: t => ((numsW ws (wS m i)).map (toS m i)).or (fromK ws t)
def fourB : List (Bool × Bool) := [(false, false), (true, false), (false, true), (true, true)]
theorem fromK_all (ws : List Bs) : slotW ws = fromK ws fourB := by
  unfold slotW fourB fromK fromK fromK fromK fromK
  rw [Option.or_none]
theorem fromK_no {ws : List Bs} {m i : Bool} {t : List (Bool × Bool)} (h : numsW ws (wS m i) = none) : fromK ws ((m, i) :: t) = fromK ws t := by
  rw [fromK, h]
  rfl
theorem fromK_yes {ws : List Bs} {m i : Bool} {t : List (Bool × Bool)} {ns : List Int} (h : numsW ws (wS m i) = some ns) : fromK ws ((m, i) :: t) = some (toS m i ns) := by
  rw [fromK, h]
  rfl
theorem five_of {ws : List Bs} {m i : Bool} {ns : List Int} (h : numsW ws (wS m i) = some ns) : ∃ a b c d e, ns = [a, b, c, d, e] ∧ in32 d = true := by
  obtain ⟨_, h2, h3⟩ := fill_nums h
  rw [wS_count] at h2
  match ns, h2 with
  | [a, b, c, d, e], _ => exact ⟨a, b, c, d, e, rfl, h3 d (by simp)⟩
theorem results_rslot (tmps : Array Value) (w : World) (b2 : Nat) (x : Sl) (z : Value) (hp : tmps[2]?.getD undef = .pointer (some ⟨b2, 0, none⟩)) (hq : tmps[3]?.getD undef = z) (h0 : Blk w b2 64 (lineC x nilE)) :
    (results Tryd.f25 tmps).run Tryd.prog w = .ok (.tuple #[lineV x, z]) w := by
  have c0 := h0.cell 0
  have c1 := h0.cell 1
  have c2 := h0.cell 2
  have c3 := h0.cell 3
  have c4 := h0.cell 4
  have c5 := h0.cell 5
  have c6 := h0.cell 6
  have c7 := h0.cell 7
  unfold lineC at c0 c1 c2 c3 c4 c5 c6 c7
  simp at c0 c1 c2 c3 c4 c5 c6 c7
  simp [results, hp, hq, asAddr, c0, c1, c2, c3, c4, c5, c6, c7, go_sem, lineV, lineC]
def RSlotPost (s : Bs) (w : World) (e : Ending) (w' : World) : Prop := Kept [] w w' ∧ ((slotW (spl s) = none ∧ e = .returned (.tuple #[lineV noS, .bool false])) ∨ ∃ x, slotW (spl s) = some x ∧ e = .returned (.tuple #[lineV x, .bool true]))
set_option maxRecDepth 8000 in
set_option maxHeartbeats 8000000 in
theorem ref_slot (s : Bs) (w : World) (hs : s.length ≤ 1000000) : Calls Tryd.prog 25 #[.string ⟨s.toArray⟩] w (RSlotPost s w) := by
  have HNo : Hid (∀ w', slotW (spl s) = none → Kept [] w w' → RSlotPost s w (.returned (.tuple #[lineV noS, .bool false])) w') := fun w' h k => ⟨k, .inl ⟨h, rfl⟩⟩
  have HYes : Hid (∀ w' x, slotW (spl s) = some x → Kept [] w w' → RSlotPost s w (.returned (.tuple #[lineV x, .bool true])) w') := fun w' x h k => ⟨k, .inr ⟨x, h, rfl⟩⟩
  generalize RSlotPost s w = Q at *
  have HNum : Hid (∀ (m i : Bool) (V : World), Calls Tryd.prog 24 #[.string ⟨s.toArray⟩, .string ⟨(tS m i).toArray⟩] V (NumsPost s (tS m i) V)) := fun m i V => ref_numbers s (tS m i) V hs (by cases m <;> cases i <;> decide)
  have HY0 := Lib.hid (Blk.new w 64 (lineC noS nilE))
  have HK0 := Lib.hid ((Kept.refl [] w).alloc (.cells (lineC noS nilE) 64))
  have HF0 := Lib.hid (fromK_all (spl s))
  unfold lineC noS nilE at HY0 HK0
  obtain ⟨ws, hws⟩ : ∃ ws, spl s = ws := ⟨_, rfl⟩
  rw [hws] at HNo HYes HF0
  have HWs := Lib.hid hws
  clear hws
  go_enter Tryd.func25, Tryd.ntmps25
  go_wp2_with fail
  go_loopw [4] (fun i V => ∃ z : Int, 0 ≤ z ∧ z ≤ 4 ∧ i = .int .i64 z ∧ Hid (slotW ws = fromK ws (fourB.drop z.toNat)) ∧ Hid (Blk V w.heap.size 64 #[.int .i64 0, .int .i64 0, .int .i64 0, .int .i64 0, .int .u32 0, .int .i64 0, .bool false, .slice none 0 0]) ∧ Hid (Kept [] w V)) (fun i _ => 4 - (RowKit.intOf i).toNat)
  case atStart => exact ⟨0, by omega, by omega, rfl, HF0.out, HY0.out, HK0.out⟩
  case round =>
    obtain ⟨z, hz0, hz4, rfl, HE, HY, HK⟩ := hrel
    have hlt := HY.out.lt
    obtain ⟨g0, g1, g2, g3, g4, g5, g6, g7⟩ := frz8 HY.out
    obtain ⟨c0, c1, c2, c3, c4, c5, c6, c7⟩ := blk8 HY.out
    by_cases hlt4 : z < 4
    · have hcs : z = 0 ∨ z = 1 ∨ z = 2 ∨ z = 3 := by omega
      rcases hcs with rfl | rfl | rfl | rfl
      · go_wp2_with fail
        refine (ref_forms _ _ _).mono ?_
        rintro e w1 ⟨rfl, rfl⟩
        go_wp2_with fail
        refine (HNum.out _ _ _).mono ?_
        rintro e w2 ⟨k2, ⟨hno, rfl⟩ | ⟨ns, A, c, hyes, rfl, o2⟩⟩
        · have K2 := Lib.hid (HK.out.trans k2)
          have HY2 := Lib.hid (HY.out.kept k2 (fun h => by cases h))
          rw [spl_tS, HWs.out] at hno
          have HE2 := Lib.hid (HE.out.trans (fromK_no hno))
          clear hno k2 c0 c1 c2 c3 c4 c5 c6 c7 g0 g1 g2 g3 g4 g5 g6 g7
          go_wp2_with fail
          go_roundw
          case rel => exact ⟨_, by omega, by omega, rfl, HE2.out, HY2, K2⟩
          case measure => simp [RowKit.intOf]
        · have K2 := Lib.hid (HK.out.trans k2)
          have HY2 := HY.out.kept k2 (fun h => by cases h)
          rw [spl_tS, HWs.out] at hyes
          have hv := Lib.hid (HE.out.trans (fromK_yes hyes))
          obtain ⟨a1, a2, a3, a4, a5, rfl, h4⟩ := five_of hyes
          clear hyes k2 c0 c1 c2 c3 c4 c5 c6 c7 g0 g1 g2 g3 g4 g5 g6 g7
          obtain ⟨g0, g1, g2, g3, g4, g5, g6, g7⟩ := frz8 HY2
          obtain ⟨b, rfl, hb, hI⟩ := IOw.iat o2 (by simp)
          have i0 := hI 0 (by simp)
          have i1 := hI 1 (by simp)
          have i2 := hI 2 (by simp)
          have i3 := hI 3 (by simp)
          have i4 := hI 4 (by simp)
          simp only [List.getElem_cons_zero, List.getElem_cons_succ] at i0 i1 i2 i3 i4
          obtain ⟨hb0, hb1⟩ := in32_iff.1 h4
          have hw4 : IntKind.u32.wrap a4 = a4 := IntWalk.u32_in _ (by omega)
          have HY3 := Lib.hid HY2
          clear o2 hI HY2 h4
          have hbl : b < w2.heap.size := block_lt_of_cell i0
          have n1 : ¬ b = w2.heap.size := by omega
          have n2 : ¬ w2.heap.size = b := by omega
          have hz2 := K2.out.size
          have hyl := HY3.out.lt
          have n3 : ¬ w.heap.size = w2.heap.size := by omega
          have n4 : ¬ w2.heap.size = w.heap.size := by omega
          go_wp2_with fail
          go_region_held3 (fun W => W.cell? ⟨b, 0, none⟩ = some (.int .i64 a1) ∧ W.cell? ⟨b, 4, none⟩ = some (.int .i64 a5)) (go_keep) (fail)
          have XB : Blk ((w2.alloc (.cells #[.int .i64 a1, .int .i64 0, .int .i64 0, .int .i64 0, .int .u32 0, .int .i64 a5, .bool false, .slice none 0 0] 64)).drew) w2.heap.size 64 #[.int .i64 a1, .int .i64 0, .int .i64 0, .int .i64 0, .int .u32 0, .int .i64 a5, .bool false, .slice none 0 0] := Blk.new w2 _ _
          have kB := ((Kept.refl [] w2).alloc (.cells #[.int .i64 a1, .int .i64 0, .int .i64 0, .int .i64 0, .int .u32 0, .int .i64 a5, .bool false, .slice none 0 0] 64)).drew
          obtain ⟨x0, x1, x2, x3, x4, x5, x6, x7⟩ := blk8 XB
          obtain ⟨z0, z1, z2, z3, z4, z5, z6, z7⟩ := frz8 XB
          clear i0 i4
          replace kB := Lib.hid kB
          replace XB := Lib.hid XB
          go_wp2_with fail
          go_region_held3 (fun W => W.cell? ⟨b, 1, none⟩ = some (.int .i64 a2) ∧ W.cell? ⟨b, 2, none⟩ = some (.int .i64 a3) ∧ W.cell? ⟨b, 3, none⟩ = some (.int .i64 a4)) (go_keep) (fail)
          have XC : Blk (w2.alloc (.cells #[.int .i64 a1, .int .i64 1, .int .i64 a2, .int .i64 a3, .int .u32 a4, .int .i64 a5, .bool false, .slice none 0 0] 64)) w2.heap.size 64 #[.int .i64 a1, .int .i64 1, .int .i64 a2, .int .i64 a3, .int .u32 a4, .int .i64 a5, .bool false, .slice none 0 0] := Blk.new w2 _ _
          have kC := (Kept.refl [] w2).alloc ((.cells #[.int .i64 a1, .int .i64 1, .int .i64 a2, .int .i64 a3, .int .u32 a4, .int .i64 a5, .bool false, .slice none 0 0] 64))
          have KC := Lib.hid (K2.out.trans kC)
          have YC := HY3.out
          clear x0 x1 x2 x3 x4 x5 x6 x7 z0 z1 z2 z3 z4 z5 z6 z7 g0 g1 g2 g3 g4 g5 g6 g7
          obtain ⟨x0, x1, x2, x3, x4, x5, x6, x7⟩ := blk8 XC
          obtain ⟨z0, z1, z2, z3, z4, z5, z6, z7⟩ := frz8 XC
          obtain ⟨g0, g1, g2, g3, g4, g5, g6, g7⟩ := frz8 YC
          obtain ⟨y0, y1, y2, y3, y4, y5, y6, y7⟩ := blk8 YC
          replace YC := Lib.hid YC
          replace kC := Lib.hid kC
          replace XC := Lib.hid XC
          go_wp2_with fail
          refine bodyPost_ret (results_rslot _ _ w.heap.size (toS false false [a1, a2, a3, a4, a5]) _ rfl rfl (drew2 (Blk.alloc (blk8_set YC.out _ _ _ _ _ _ _ _) _))) rfl ?_
          exact HYes.out _ _ hv.out (kept_drew2 (Kept.alloc (kept8 K2.out (.inr (Nat.le_refl _)) _ _ _ _ _ _ _ _) _))
      · go_wp2_with fail
        refine (ref_forms _ _ _).mono ?_
        rintro e w1 ⟨rfl, rfl⟩
        go_wp2_with fail
        refine (HNum.out _ _ _).mono ?_
        rintro e w2 ⟨k2, ⟨hno, rfl⟩ | ⟨ns, A, c, hyes, rfl, o2⟩⟩
        · have K2 := Lib.hid (HK.out.trans k2)
          have HY2 := Lib.hid (HY.out.kept k2 (fun h => by cases h))
          rw [spl_tS, HWs.out] at hno
          have HE2 := Lib.hid (HE.out.trans (fromK_no hno))
          clear hno k2 c0 c1 c2 c3 c4 c5 c6 c7 g0 g1 g2 g3 g4 g5 g6 g7
          go_wp2_with fail
          go_roundw
          case rel => exact ⟨_, by omega, by omega, rfl, HE2.out, HY2, K2⟩
          case measure => simp [RowKit.intOf]
        · have K2 := Lib.hid (HK.out.trans k2)
          have HY2 := HY.out.kept k2 (fun h => by cases h)
          rw [spl_tS, HWs.out] at hyes
          have hv := Lib.hid (HE.out.trans (fromK_yes hyes))
          obtain ⟨a1, a2, a3, a4, a5, rfl, h4⟩ := five_of hyes
          clear hyes k2 c0 c1 c2 c3 c4 c5 c6 c7 g0 g1 g2 g3 g4 g5 g6 g7
          obtain ⟨g0, g1, g2, g3, g4, g5, g6, g7⟩ := frz8 HY2
          obtain ⟨b, rfl, hb, hI⟩ := IOw.iat o2 (by simp)
          have i0 := hI 0 (by simp)
          have i1 := hI 1 (by simp)
          have i2 := hI 2 (by simp)
          have i3 := hI 3 (by simp)
          have i4 := hI 4 (by simp)
          simp only [List.getElem_cons_zero, List.getElem_cons_succ] at i0 i1 i2 i3 i4
          obtain ⟨hb0, hb1⟩ := in32_iff.1 h4
          have hw4 : IntKind.u32.wrap a4 = a4 := IntWalk.u32_in _ (by omega)
          have HY3 := Lib.hid HY2
          clear o2 hI HY2 h4
          have hbl : b < w2.heap.size := block_lt_of_cell i0
          have n1 : ¬ b = w2.heap.size := by omega
          have n2 : ¬ w2.heap.size = b := by omega
          have hz2 := K2.out.size
          have hyl := HY3.out.lt
          have n3 : ¬ w.heap.size = w2.heap.size := by omega
          have n4 : ¬ w2.heap.size = w.heap.size := by omega
          go_wp2_with fail
          go_region_held3 (fun W => W.cell? ⟨b, 0, none⟩ = some (.int .i64 a1) ∧ W.cell? ⟨b, 4, none⟩ = some (.int .i64 a5)) (go_keep) (fail)
          have XB : Blk ((w2.alloc (.cells #[.int .i64 a1, .int .i64 0, .int .i64 0, .int .i64 0, .int .u32 0, .int .i64 a5, .bool false, .slice none 0 0] 64)).drew) w2.heap.size 64 #[.int .i64 a1, .int .i64 0, .int .i64 0, .int .i64 0, .int .u32 0, .int .i64 a5, .bool false, .slice none 0 0] := Blk.new w2 _ _
          have kB := ((Kept.refl [] w2).alloc (.cells #[.int .i64 a1, .int .i64 0, .int .i64 0, .int .i64 0, .int .u32 0, .int .i64 a5, .bool false, .slice none 0 0] 64)).drew
          obtain ⟨x0, x1, x2, x3, x4, x5, x6, x7⟩ := blk8 XB
          obtain ⟨z0, z1, z2, z3, z4, z5, z6, z7⟩ := frz8 XB
          clear i0 i4
          replace kB := Lib.hid kB
          replace XB := Lib.hid XB
          go_wp2_with fail
          go_region_held3 (fun W => W.cell? ⟨b, 1, none⟩ = some (.int .i64 a2) ∧ W.cell? ⟨b, 2, none⟩ = some (.int .i64 a3) ∧ W.cell? ⟨b, 3, none⟩ = some (.int .i64 a4)) (go_keep) (fail)
          have XC : Blk (w2.alloc (.cells #[.int .i64 a1, .int .i64 1, .int .i64 a2, .int .i64 a3, .int .u32 a4, .int .i64 a5, .bool false, .slice none 0 0] 64)) w2.heap.size 64 #[.int .i64 a1, .int .i64 1, .int .i64 a2, .int .i64 a3, .int .u32 a4, .int .i64 a5, .bool false, .slice none 0 0] := Blk.new w2 _ _
          have kC := (Kept.refl [] w2).alloc ((.cells #[.int .i64 a1, .int .i64 1, .int .i64 a2, .int .i64 a3, .int .u32 a4, .int .i64 a5, .bool false, .slice none 0 0] 64))
          have KC := Lib.hid (K2.out.trans kC)
          have YC := HY3.out
          clear x0 x1 x2 x3 x4 x5 x6 x7 z0 z1 z2 z3 z4 z5 z6 z7 g0 g1 g2 g3 g4 g5 g6 g7
          obtain ⟨x0, x1, x2, x3, x4, x5, x6, x7⟩ := blk8 XC
          obtain ⟨z0, z1, z2, z3, z4, z5, z6, z7⟩ := frz8 XC
          obtain ⟨g0, g1, g2, g3, g4, g5, g6, g7⟩ := frz8 YC
          obtain ⟨y0, y1, y2, y3, y4, y5, y6, y7⟩ := blk8 YC
          replace YC := Lib.hid YC
          replace kC := Lib.hid kC
          replace XC := Lib.hid XC
          go_wp2_with fail
          refine bodyPost_ret (results_rslot _ _ w.heap.size (toS true false [a1, a2, a3, a4, a5]) _ rfl rfl (drew2 (Blk.alloc (blk8_set YC.out _ _ _ _ _ _ _ _) _))) rfl ?_
          exact HYes.out _ _ hv.out (kept_drew2 (Kept.alloc (kept8 K2.out (.inr (Nat.le_refl _)) _ _ _ _ _ _ _ _) _))
      · go_wp2_with fail
        refine (ref_forms _ _ _).mono ?_
        rintro e w1 ⟨rfl, rfl⟩
        go_wp2_with fail
        refine (HNum.out _ _ _).mono ?_
        rintro e w2 ⟨k2, ⟨hno, rfl⟩ | ⟨ns, A, c, hyes, rfl, o2⟩⟩
        · have K2 := Lib.hid (HK.out.trans k2)
          have HY2 := Lib.hid (HY.out.kept k2 (fun h => by cases h))
          rw [spl_tS, HWs.out] at hno
          have HE2 := Lib.hid (HE.out.trans (fromK_no hno))
          clear hno k2 c0 c1 c2 c3 c4 c5 c6 c7 g0 g1 g2 g3 g4 g5 g6 g7
          go_wp2_with fail
          go_roundw
          case rel => exact ⟨_, by omega, by omega, rfl, HE2.out, HY2, K2⟩
          case measure => simp [RowKit.intOf]
        · have K2 := Lib.hid (HK.out.trans k2)
          have HY2 := HY.out.kept k2 (fun h => by cases h)
          rw [spl_tS, HWs.out] at hyes
          have hv := Lib.hid (HE.out.trans (fromK_yes hyes))
          obtain ⟨a1, a2, a3, a4, a5, rfl, h4⟩ := five_of hyes
          clear hyes k2 c0 c1 c2 c3 c4 c5 c6 c7 g0 g1 g2 g3 g4 g5 g6 g7
          obtain ⟨g0, g1, g2, g3, g4, g5, g6, g7⟩ := frz8 HY2
          obtain ⟨b, rfl, hb, hI⟩ := IOw.iat o2 (by simp)
          have i0 := hI 0 (by simp)
          have i1 := hI 1 (by simp)
          have i2 := hI 2 (by simp)
          have i3 := hI 3 (by simp)
          have i4 := hI 4 (by simp)
          simp only [List.getElem_cons_zero, List.getElem_cons_succ] at i0 i1 i2 i3 i4
          obtain ⟨hb0, hb1⟩ := in32_iff.1 h4
          have hw4 : IntKind.u32.wrap a4 = a4 := IntWalk.u32_in _ (by omega)
          have HY3 := Lib.hid HY2
          clear o2 hI HY2 h4
          have hbl : b < w2.heap.size := block_lt_of_cell i0
          have n1 : ¬ b = w2.heap.size := by omega
          have n2 : ¬ w2.heap.size = b := by omega
          have hz2 := K2.out.size
          have hyl := HY3.out.lt
          have n3 : ¬ w.heap.size = w2.heap.size := by omega
          have n4 : ¬ w2.heap.size = w.heap.size := by omega
          go_wp2_with fail
          go_region_held3 (fun W => W.cell? ⟨b, 0, none⟩ = some (.int .i64 a1) ∧ W.cell? ⟨b, 4, none⟩ = some (.int .i64 a5)) (go_keep) (fail)
          have XB : Blk ((w2.alloc (.cells #[.int .i64 a1, .int .i64 0, .int .i64 0, .int .i64 0, .int .u32 0, .int .i64 a5, .bool true, .slice none 0 0] 64)).drew) w2.heap.size 64 #[.int .i64 a1, .int .i64 0, .int .i64 0, .int .i64 0, .int .u32 0, .int .i64 a5, .bool true, .slice none 0 0] := Blk.new w2 _ _
          have kB := ((Kept.refl [] w2).alloc (.cells #[.int .i64 a1, .int .i64 0, .int .i64 0, .int .i64 0, .int .u32 0, .int .i64 a5, .bool true, .slice none 0 0] 64)).drew
          obtain ⟨x0, x1, x2, x3, x4, x5, x6, x7⟩ := blk8 XB
          obtain ⟨z0, z1, z2, z3, z4, z5, z6, z7⟩ := frz8 XB
          clear i0 i4
          replace kB := Lib.hid kB
          replace XB := Lib.hid XB
          go_wp2_with fail
          go_region_held3 (fun W => W.cell? ⟨b, 1, none⟩ = some (.int .i64 a2) ∧ W.cell? ⟨b, 2, none⟩ = some (.int .i64 a3) ∧ W.cell? ⟨b, 3, none⟩ = some (.int .i64 a4)) (go_keep) (fail)
          have XC : Blk (w2.alloc (.cells #[.int .i64 a1, .int .i64 1, .int .i64 a2, .int .i64 a3, .int .u32 a4, .int .i64 a5, .bool true, .slice none 0 0] 64)) w2.heap.size 64 #[.int .i64 a1, .int .i64 1, .int .i64 a2, .int .i64 a3, .int .u32 a4, .int .i64 a5, .bool true, .slice none 0 0] := Blk.new w2 _ _
          have kC := (Kept.refl [] w2).alloc ((.cells #[.int .i64 a1, .int .i64 1, .int .i64 a2, .int .i64 a3, .int .u32 a4, .int .i64 a5, .bool true, .slice none 0 0] 64))
          have KC := Lib.hid (K2.out.trans kC)
          have YC := HY3.out
          clear x0 x1 x2 x3 x4 x5 x6 x7 z0 z1 z2 z3 z4 z5 z6 z7 g0 g1 g2 g3 g4 g5 g6 g7
          obtain ⟨x0, x1, x2, x3, x4, x5, x6, x7⟩ := blk8 XC
          obtain ⟨z0, z1, z2, z3, z4, z5, z6, z7⟩ := frz8 XC
          obtain ⟨g0, g1, g2, g3, g4, g5, g6, g7⟩ := frz8 YC
          obtain ⟨y0, y1, y2, y3, y4, y5, y6, y7⟩ := blk8 YC
          replace YC := Lib.hid YC
          replace kC := Lib.hid kC
          replace XC := Lib.hid XC
          go_wp2_with fail
          refine bodyPost_ret (results_rslot _ _ w.heap.size (toS false true [a1, a2, a3, a4, a5]) _ rfl rfl (drew2 (Blk.alloc (blk8_set YC.out _ _ _ _ _ _ _ _) _))) rfl ?_
          exact HYes.out _ _ hv.out (kept_drew2 (Kept.alloc (kept8 K2.out (.inr (Nat.le_refl _)) _ _ _ _ _ _ _ _) _))
      · go_wp2_with fail
        refine (ref_forms _ _ _).mono ?_
        rintro e w1 ⟨rfl, rfl⟩
        go_wp2_with fail
        refine (HNum.out _ _ _).mono ?_
        rintro e w2 ⟨k2, ⟨hno, rfl⟩ | ⟨ns, A, c, hyes, rfl, o2⟩⟩
        · have K2 := Lib.hid (HK.out.trans k2)
          have HY2 := Lib.hid (HY.out.kept k2 (fun h => by cases h))
          rw [spl_tS, HWs.out] at hno
          have HE2 := Lib.hid (HE.out.trans (fromK_no hno))
          clear hno k2 c0 c1 c2 c3 c4 c5 c6 c7 g0 g1 g2 g3 g4 g5 g6 g7
          go_wp2_with fail
          go_roundw
          case rel => exact ⟨_, by omega, by omega, rfl, HE2.out, HY2, K2⟩
          case measure => simp [RowKit.intOf]
        · have K2 := Lib.hid (HK.out.trans k2)
          have HY2 := HY.out.kept k2 (fun h => by cases h)
          rw [spl_tS, HWs.out] at hyes
          have hv := Lib.hid (HE.out.trans (fromK_yes hyes))
          obtain ⟨a1, a2, a3, a4, a5, rfl, h4⟩ := five_of hyes
          clear hyes k2 c0 c1 c2 c3 c4 c5 c6 c7 g0 g1 g2 g3 g4 g5 g6 g7
          obtain ⟨g0, g1, g2, g3, g4, g5, g6, g7⟩ := frz8 HY2
          obtain ⟨b, rfl, hb, hI⟩ := IOw.iat o2 (by simp)
          have i0 := hI 0 (by simp)
          have i1 := hI 1 (by simp)
          have i2 := hI 2 (by simp)
          have i3 := hI 3 (by simp)
          have i4 := hI 4 (by simp)
          simp only [List.getElem_cons_zero, List.getElem_cons_succ] at i0 i1 i2 i3 i4
          obtain ⟨hb0, hb1⟩ := in32_iff.1 h4
          have hw4 : IntKind.u32.wrap a4 = a4 := IntWalk.u32_in _ (by omega)
          have HY3 := Lib.hid HY2
          clear o2 hI HY2 h4
          have hbl : b < w2.heap.size := block_lt_of_cell i0
          have n1 : ¬ b = w2.heap.size := by omega
          have n2 : ¬ w2.heap.size = b := by omega
          have hz2 := K2.out.size
          have hyl := HY3.out.lt
          have n3 : ¬ w.heap.size = w2.heap.size := by omega
          have n4 : ¬ w2.heap.size = w.heap.size := by omega
          go_wp2_with fail
          go_region_held3 (fun W => W.cell? ⟨b, 0, none⟩ = some (.int .i64 a1) ∧ W.cell? ⟨b, 4, none⟩ = some (.int .i64 a5)) (go_keep) (fail)
          have XB : Blk ((w2.alloc (.cells #[.int .i64 a1, .int .i64 0, .int .i64 0, .int .i64 0, .int .u32 0, .int .i64 a5, .bool true, .slice none 0 0] 64)).drew) w2.heap.size 64 #[.int .i64 a1, .int .i64 0, .int .i64 0, .int .i64 0, .int .u32 0, .int .i64 a5, .bool true, .slice none 0 0] := Blk.new w2 _ _
          have kB := ((Kept.refl [] w2).alloc (.cells #[.int .i64 a1, .int .i64 0, .int .i64 0, .int .i64 0, .int .u32 0, .int .i64 a5, .bool true, .slice none 0 0] 64)).drew
          obtain ⟨x0, x1, x2, x3, x4, x5, x6, x7⟩ := blk8 XB
          obtain ⟨z0, z1, z2, z3, z4, z5, z6, z7⟩ := frz8 XB
          clear i0 i4
          replace kB := Lib.hid kB
          replace XB := Lib.hid XB
          go_wp2_with fail
          go_region_held3 (fun W => W.cell? ⟨b, 1, none⟩ = some (.int .i64 a2) ∧ W.cell? ⟨b, 2, none⟩ = some (.int .i64 a3) ∧ W.cell? ⟨b, 3, none⟩ = some (.int .i64 a4)) (go_keep) (fail)
          have XC : Blk (w2.alloc (.cells #[.int .i64 a1, .int .i64 1, .int .i64 a2, .int .i64 a3, .int .u32 a4, .int .i64 a5, .bool true, .slice none 0 0] 64)) w2.heap.size 64 #[.int .i64 a1, .int .i64 1, .int .i64 a2, .int .i64 a3, .int .u32 a4, .int .i64 a5, .bool true, .slice none 0 0] := Blk.new w2 _ _
          have kC := (Kept.refl [] w2).alloc ((.cells #[.int .i64 a1, .int .i64 1, .int .i64 a2, .int .i64 a3, .int .u32 a4, .int .i64 a5, .bool true, .slice none 0 0] 64))
          have KC := Lib.hid (K2.out.trans kC)
          have YC := HY3.out
          clear x0 x1 x2 x3 x4 x5 x6 x7 z0 z1 z2 z3 z4 z5 z6 z7 g0 g1 g2 g3 g4 g5 g6 g7
          obtain ⟨x0, x1, x2, x3, x4, x5, x6, x7⟩ := blk8 XC
          obtain ⟨z0, z1, z2, z3, z4, z5, z6, z7⟩ := frz8 XC
          obtain ⟨g0, g1, g2, g3, g4, g5, g6, g7⟩ := frz8 YC
          obtain ⟨y0, y1, y2, y3, y4, y5, y6, y7⟩ := blk8 YC
          replace YC := Lib.hid YC
          replace kC := Lib.hid kC
          replace XC := Lib.hid XC
          go_wp2_with fail
          refine bodyPost_ret (results_rslot _ _ w.heap.size (toS true true [a1, a2, a3, a4, a5]) _ rfl rfl (drew2 (Blk.alloc (blk8_set YC.out _ _ _ _ _ _ _ _) _))) rfl ?_
          exact HYes.out _ _ hv.out (kept_drew2 (Kept.alloc (kept8 K2.out (.inr (Nat.le_refl _)) _ _ _ _ _ _ _ _) _))
    · obtain rfl : z = 4 := by omega
      have hv : Hid (slotW ws = none) := HE.out
      go_wp2_with fail
      refine bodyPost_ret (results_rslot _ _ w.heap.size noS _ rfl rfl (blk8_set HY.out _ _ _ _ _ _ _ _)) rfl ?_
      exact HNo.out _ hv.out (kept8 HK.out (.inr (Nat.le_refl _)) _ _ _ _ _ _ _ _)
end Go.Proofs.YtooplogodcadgaaDoor
