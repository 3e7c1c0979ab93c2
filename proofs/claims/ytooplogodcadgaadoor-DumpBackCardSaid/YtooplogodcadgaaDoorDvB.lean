/- Dumps: a live question. -/
import Derived.Test.YtooplogodcadgaaDoorDvA
import Derived.Test.YtooplogodcadgaaDoorDuU
import Derived.Test.YtooplogodcadgaaDoorDuW
namespace Go.Proofs.YtooplogodcadgaaDoor
open Go.RowKit Go.Lib

def x0 : Sl := ⟨1, 25, 10, 3, 4, 2, false, [⟨2, 1⟩]⟩
def r0 : Rp := ⟨60, 8, 2, [x0]⟩
def l0 : List Bs := [[100, 105, 115, 107, 32, 54, 48, 32, 111, 114, 105, 103, 105, 110, 32, 56, 32, 99, 104, 117, 110, 107, 32, 50], [115, 108, 111, 116, 32, 49, 32, 109, 101, 114, 103, 105, 110, 103, 32, 50, 53, 32, 49, 48, 32, 103, 101, 110, 32, 51, 32, 114, 111, 111, 109, 32, 52], [101, 110, 116, 114, 121, 32, 50, 32, 49]]
def l1 : List Bs := [[100, 105, 115, 107, 32, 54, 48]]
theorem lines_r0 : linesD r0 = some l0 := by decide +kernel
theorem parse_l1 : parseD l1 = none := by decide +kernel
theorem parse_l0 : parseD l0 = some r0 := parse_lines lines_r0
theorem one_of {ps : List Pr} (h : ps.map (·.1) = [x0]) : ∃ E, ps = [(x0, E)] := by
  match ps, h with
  | [(x, E)], h =>
    injection h with h _
    have h : x = x0 := h
    exact ⟨E, by rw [h]⟩
set_option maxRecDepth 8000 in
set_option maxHeartbeats 8000000 in
theorem dump_alive (w : World) (hL : Laid w) : Calls Tryd.prog 7 #[] w fun e w' => e = .returned (.bool true) ∧ Kept [] w w' := by
  have HLd := Lib.hid hL
  have ka := (((Kept.refl [] w).alloc (.cells #[.int .i64 2, .int .i64 1] 56)).alloc (.cells #[.int .i64 1, .int .i64 2, .int .i64 25, .int .i64 10, .int .u32 3, .int .i64 4, .bool false, .slice (some ⟨w.heap.size, 0, none⟩) 1 1] 54)).alloc (.cells #[.int .i64 60, .int .i64 8, .int .i64 2, .slice (some ⟨w.heap.size + 1, 0, none⟩) 1 1] 26)
  have E0 : Blk (((w.alloc (.cells #[.int .i64 2, .int .i64 1] 56)).alloc (.cells #[.int .i64 1, .int .i64 2, .int .i64 25, .int .i64 10, .int .u32 3, .int .i64 4, .bool false, .slice (some ⟨w.heap.size, 0, none⟩) 1 1] 54)).alloc (.cells #[.int .i64 60, .int .i64 8, .int .i64 2, .slice (some ⟨w.heap.size + 1, 0, none⟩) 1 1] 26)) w.heap.size 56 #[.int .i64 2, .int .i64 1] := ((Blk.new w _ _).alloc _).alloc _
  have X0 : Blk (((w.alloc (.cells #[.int .i64 2, .int .i64 1] 56)).alloc (.cells #[.int .i64 1, .int .i64 2, .int .i64 25, .int .i64 10, .int .u32 3, .int .i64 4, .bool false, .slice (some ⟨w.heap.size, 0, none⟩) 1 1] 54)).alloc (.cells #[.int .i64 60, .int .i64 8, .int .i64 2, .slice (some ⟨w.heap.size + 1, 0, none⟩) 1 1] 26)) (w.heap.size + 1) 54 #[.int .i64 1, .int .i64 2, .int .i64 25, .int .i64 10, .int .u32 3, .int .i64 4, .bool false, .slice (some ⟨w.heap.size, 0, none⟩) 1 1] := by
    have h := (Blk.new (w.alloc (.cells #[.int .i64 2, .int .i64 1] 56)) 54 #[.int .i64 1, .int .i64 2, .int .i64 25, .int .i64 10, .int .u32 3, .int .i64 4, .bool false, .slice (some ⟨w.heap.size, 0, none⟩) 1 1]).alloc (.cells #[.int .i64 60, .int .i64 8, .int .i64 2, .slice (some ⟨w.heap.size + 1, 0, none⟩) 1 1] 26)
    rwa [show (w.alloc (.cells #[.int .i64 2, .int .i64 1] 56)).heap.size = w.heap.size + 1 by simp] at h
  have R0 : Blk (((w.alloc (.cells #[.int .i64 2, .int .i64 1] 56)).alloc (.cells #[.int .i64 1, .int .i64 2, .int .i64 25, .int .i64 10, .int .u32 3, .int .i64 4, .bool false, .slice (some ⟨w.heap.size, 0, none⟩) 1 1] 54)).alloc (.cells #[.int .i64 60, .int .i64 8, .int .i64 2, .slice (some ⟨w.heap.size + 1, 0, none⟩) 1 1] 26)) (w.heap.size + 1 + 1) 26 #[.int .i64 60, .int .i64 8, .int .i64 2, .slice (some ⟨w.heap.size + 1, 0, none⟩) 1 1] := by
    have h := Blk.new ((w.alloc (.cells #[.int .i64 2, .int .i64 1] 56)).alloc (.cells #[.int .i64 1, .int .i64 2, .int .i64 25, .int .i64 10, .int .u32 3, .int .i64 4, .bool false, .slice (some ⟨w.heap.size, 0, none⟩) 1 1] 54)) 26 #[.int .i64 60, .int .i64 8, .int .i64 2, .slice (some ⟨w.heap.size + 1, 0, none⟩) 1 1]
    rwa [show ((w.alloc (.cells #[.int .i64 2, .int .i64 1] 56)).alloc (.cells #[.int .i64 1, .int .i64 2, .int .i64 25, .int .i64 10, .int .u32 3, .int .i64 4, .bool false, .slice (some ⟨w.heap.size, 0, none⟩) 1 1] 54)).heap.size = w.heap.size + 1 + 1 by simp] at h
  generalize hw0 : ((w.alloc (.cells #[.int .i64 2, .int .i64 1] 56)).alloc (.cells #[.int .i64 1, .int .i64 2, .int .i64 25, .int .i64 10, .int .u32 3, .int .i64 4, .bool false, .slice (some ⟨w.heap.size, 0, none⟩) 1 1] 54)).alloc (.cells #[.int .i64 60, .int .i64 8, .int .i64 2, .slice (some ⟨w.heap.size + 1, 0, none⟩) 1 1] 26) = w0 at *
  have hLR : LRd w0 (some ⟨w.heap.size + 1, 0, none⟩) [(x0, .slice (some ⟨w.heap.size, 0, none⟩) 1 1)] := by
    refine ⟨⟨rfl, fun _ => ⟨_, 0, rfl, X0.lt, fun j u hu => ?_⟩⟩, fun p hp => ?_⟩
    · rw [Nat.zero_add, X0.cell]
      have e : [((x0, .slice (some ⟨w.heap.size, 0, none⟩) 1 1) : Pr)].flatMap pc = [.int .i64 1, .int .i64 2, .int .i64 25, .int .i64 10, .int .u32 3, .int .i64 4, .bool false, .slice (some ⟨w.heap.size, 0, none⟩) 1 1] := rfl
      rw [e] at hu
      simpa using hu
    · obtain rfl := List.mem_singleton.1 hp
      refine ⟨some ⟨w.heap.size, 0, none⟩, 1, rfl, rfl, fun _ => ⟨_, 0, rfl, E0.lt, fun j u hu => ?_⟩⟩
      rw [Nat.zero_add, E0.cell]
      have e : x0.ents.flatMap entC = [.int .i64 2, .int .i64 1] := rfl
      rw [e] at hu
      simpa using hu
  have HLs := Lib.hid (dump_Lines 60 8 2 (some ⟨w.heap.size + 1, 0, none⟩) 1 [(x0, .slice (some ⟨w.heap.size, 0, none⟩) 1 1)] w0 (hL.kept ka) hLR (fun p hp => by
    obtain rfl := List.mem_singleton.1 hp
    exact (show in32 (3 : Int) = true by decide)) (show 1 ≤ 1000 by decide) (fun p hp => by
    obtain rfl := List.mem_singleton.1 hp
    exact (show 1 ≤ 1000 by decide)))
  unfold LinesPost at HLs
  replace ka := Lib.hid ka
  replace hw0 := Lib.hid hw0
  replace X0 := Lib.hid X0
  replace R0 := Lib.hid R0
  clear hL hLR E0
  go_enter Tryd.func7, Tryd.ntmps7
  go_wp2_with fail
  rw [hw0.out]
  refine HLs.out.mono ?_
  rintro e w1 ⟨k1, ⟨hno, _⟩ | ⟨L, A2, c2, hL, rfl, _, o2⟩⟩
  · have h2 : linesD r0 = none := hno
    rw [lines_r0] at h2
    cases h2
  · have h2 : linesD r0 = some L := hL
    rw [lines_r0] at h2
    obtain rfl := Option.some.inj h2
    clear hL h2
    have K1 := Lib.hid (ka.out.trans k1)
    have X1 := Lib.hid (X0.out.kept k1 (fun h => by cases h))
    have R1 := Lib.hid (R0.out.kept k1 (fun h => by cases h))
    have hcap : l0.length ≤ c2 := by
      obtain ⟨A', c', e, h⟩ := own_slice o2
      injection e with _ _ e
      omega
    have HP1 := Lib.hid (dump_Parse A2 c2 l0 w1 (HLd.out.kept K1.out) (Rd.of_own o2) hcap (by decide) (by decide))
    have h3 : l0.length = 3 := rfl
    obtain ⟨b2, rfl, _, s0, _⟩ := SAt.at_ o2 (show 0 < l0.length by decide)
    obtain ⟨b2', e2, _, s1, _⟩ := SAt.at_ o2 (show 1 < l0.length by decide)
    obtain ⟨b2'', e2', _, s2, _⟩ := SAt.at_ o2 (show 2 < l0.length by decide)
    injection e2 with e2
    injection e2 with e2
    subst e2
    injection e2' with e2'
    injection e2' with e2'
    subst e2'
    rw [h3] at HP1
    rw [h3]
    unfold PPost at HP1
    clear k1 o2 hcap h3 HLs
    go_wp2_with fail
    refine HP1.out.mono ?_
    rintro e w2 ⟨k2, ⟨hno, _⟩ | ⟨r, V, ps, hy, rfl, hps, _, o3⟩⟩
    · rw [parse_l0] at hno
      cases hno
    · rw [parse_l0] at hy
      obtain rfl := Option.some.inj hy
      obtain ⟨E, rfl⟩ := one_of hps
      obtain ⟨b3, c3, hV, _⟩ := own_some o3.row (by simp)
      subst hV
      have hLR3 := o3.rd
      obtain ⟨b4, o4, e4, y0, y1, y2, y3, y4, _⟩ := hLR3.at_ (k := 0) (by simp)
      injection e4 with e4
      injection e4 with e4 e5
      subst e4
      subst e5
      clear hy hps o3 hLR3
      have K2 := Lib.hid (K1.out.trans k2)
      have X2 := X1.out.kept k2 (fun h => by cases h)
      have R2 := R1.out.kept k2 (fun h => by cases h)
      have t0 := k2.cell s0 (fun h => by cases h)
      have t1 := k2.cell s1 (fun h => by cases h)
      have t2 := k2.cell s2 (fun h => by cases h)
      have hr : repV r0.sec r0.org r0.chk (.slice (some ⟨b3, 0, none⟩) [(x0, E)].length c3) = .agg #[.int .i64 60, .int .i64 8, .int .i64 2, .slice (some ⟨b3, 0, none⟩) 1 c3] := rfl
      rw [hr]
      have kB := ((Kept.refl [] w2).alloc (.cells #[.int .i64 60, .int .i64 8, .int .i64 2, .slice (some ⟨b3, 0, none⟩) 1 c3] 26)).alloc (.cells #[.string ⟨#[100, 105, 115, 107, 32, 54, 48]⟩] 9)
      have T4 := (Blk.new w2 26 #[.int .i64 60, .int .i64 8, .int .i64 2, .slice (some ⟨b3, 0, none⟩) 1 c3]).alloc (.cells #[.string ⟨#[100, 105, 115, 107, 32, 54, 48]⟩] 9)
      have hT1 : TRd ((w2.alloc (.cells #[.int .i64 60, .int .i64 8, .int .i64 2, .slice (some ⟨b3, 0, none⟩) 1 c3] 26)).alloc (.cells #[.string ⟨#[100, 105, 115, 107, 32, 54, 48]⟩] 9)) (some ⟨w2.heap.size + 1, 0, none⟩) l1 := by
        have hb := Blk.new (w2.alloc (.cells #[.int .i64 60, .int .i64 8, .int .i64 2, .slice (some ⟨b3, 0, none⟩) 1 c3] 26)) 9 #[.string ⟨#[100, 105, 115, 107, 32, 54, 48]⟩]
        rw [show (w2.alloc (.cells #[.int .i64 60, .int .i64 8, .int .i64 2, .slice (some ⟨b3, 0, none⟩) 1 c3] 26)).heap.size = w2.heap.size + 1 by simp] at hb
        refine ⟨rfl, fun _ => ⟨_, 0, rfl, hb.lt, fun j u hu => ?_⟩⟩
        rw [Nat.zero_add, hb.cell]
        have e : l1.map sV = [.string ⟨#[100, 105, 115, 107, 32, 54, 48]⟩] := rfl
        rw [e] at hu
        simpa using hu
      have HP2 := Lib.hid (dump_Parse (some ⟨w2.heap.size + 1, 0, none⟩) 1 l1 _ (HLd.out.kept (K2.out.trans kB)) hT1 (by decide) (by decide) (by decide))
      unfold PPost at HP2
      have KB := Lib.hid (K2.out.trans kB)
      clear hr hT1 k2 s0 s1 s2
      go_wp2_with fail
      refine HP2.out.mono ?_
      rintro e w5 ⟨k5, ⟨_, rfl⟩ | ⟨r, V, ps, hy, _⟩⟩
      · have kC := kB.trans k5
        have K5 := Lib.hid (KB.out.trans k5)
        have s0 : w5.cell? ⟨b2, 0, none⟩ = some (.string ⟨#[100, 105, 115, 107, 32, 54, 48, 32, 111, 114, 105, 103, 105, 110, 32, 56, 32, 99, 104, 117, 110, 107, 32, 50]⟩) := kC.cell t0 (fun h => by cases h)
        have s1 : w5.cell? ⟨b2, 1, none⟩ = some (.string ⟨#[115, 108, 111, 116, 32, 49, 32, 109, 101, 114, 103, 105, 110, 103, 32, 50, 53, 32, 49, 48, 32, 103, 101, 110, 32, 51, 32, 114, 111, 111, 109, 32, 52]⟩) := kC.cell t1 (fun h => by cases h)
        have s2 : w5.cell? ⟨b2, 2, none⟩ = some (.string ⟨#[101, 110, 116, 114, 121, 32, 50, 32, 49]⟩) := kC.cell t2 (fun h => by cases h)
        have t3 : w5.cell? ⟨w2.heap.size, 3, none⟩ = some (.slice (some ⟨b3, 0, none⟩) 1 c3) := (T4.kept k5 (fun h => by cases h)).cell 3
        have z1 : w5.cell? ⟨b3, 1, none⟩ = some (.int .i64 2) := kC.cell y1 (fun h => by cases h)
        have z2 : w5.cell? ⟨b3, 2, none⟩ = some (.int .i64 25) := kC.cell y2 (fun h => by cases h)
        have z3 : w5.cell? ⟨b3, 3, none⟩ = some (.int .i64 10) := kC.cell y3 (fun h => by cases h)
        have z4 : w5.cell? ⟨b3, 4, none⟩ = some (.int .u32 3) := kC.cell y4 (fun h => by cases h)
        have q3 : w5.cell? ⟨w.heap.size + 1 + 1, 3, none⟩ = some (.slice (some ⟨w.heap.size + 1, 0, none⟩) 1 1) := (R2.kept kC (fun h => by cases h)).cell 3
        have x1 : w5.cell? ⟨w.heap.size + 1, 1, none⟩ = some (.int .i64 2) := (X2.kept kC (fun h => by cases h)).cell 1
        have x2 : w5.cell? ⟨w.heap.size + 1, 2, none⟩ = some (.int .i64 25) := (X2.kept kC (fun h => by cases h)).cell 2
        have x3 : w5.cell? ⟨w.heap.size + 1, 3, none⟩ = some (.int .i64 10) := (X2.kept kC (fun h => by cases h)).cell 3
        have x4 : w5.cell? ⟨w.heap.size + 1, 4, none⟩ = some (.int .u32 3) := (X2.kept kC (fun h => by cases h)).cell 4
        have t3a := ((Kept.refl [] w5).alloc (.cells #[.int .i64 0, .int .i64 0, .int .i64 0, .slice none 0 0] 26)).cell t3 (fun h => by cases h)
        clear t0 t1 t2 y0 y1 y2 y3 y4 kC kB T4 X2 R2 k5
        unfold repV nilE
        go_wp2_with fail
        go_region_held3 (fun W => W.cell? ⟨b2, 0, none⟩ = some (.string ⟨#[100, 105, 115, 107, 32, 54, 48, 32, 111, 114, 105, 103, 105, 110, 32, 56, 32, 99, 104, 117, 110, 107, 32, 50]⟩) ∧ W.cell? ⟨b2, 1, none⟩ = some (.string ⟨#[115, 108, 111, 116, 32, 49, 32, 109, 101, 114, 103, 105, 110, 103, 32, 50, 53, 32, 49, 48, 32, 103, 101, 110, 32, 51, 32, 114, 111, 111, 109, 32, 52]⟩) ∧ W.cell? ⟨b2, 2, none⟩ = some (.string ⟨#[101, 110, 116, 114, 121, 32, 50, 32, 49]⟩) ∧ W.cell? ⟨w2.heap.size, 3, none⟩ = some (.slice (some ⟨b3, 0, none⟩) 1 c3) ∧ W.cell? ⟨b3, 1, none⟩ = some (.int .i64 2) ∧ W.cell? ⟨b3, 2, none⟩ = some (.int .i64 25) ∧ W.cell? ⟨b3, 3, none⟩ = some (.int .i64 10) ∧ W.cell? ⟨b3, 4, none⟩ = some (.int .u32 3) ∧ W.cell? ⟨w.heap.size + 1 + 1, 3, none⟩ = some (.slice (some ⟨w.heap.size + 1, 0, none⟩) 1 1) ∧ W.cell? ⟨w.heap.size + 1, 1, none⟩ = some (.int .i64 2) ∧ W.cell? ⟨w.heap.size + 1, 2, none⟩ = some (.int .i64 25) ∧ W.cell? ⟨w.heap.size + 1, 3, none⟩ = some (.int .i64 10) ∧ W.cell? ⟨w.heap.size + 1, 4, none⟩ = some (.int .u32 3)) (go_keep) (fail)
        go_wp2_with fail
        go_ret
        exact ⟨rfl, (K5.out.alloc _).drew⟩
      · rw [parse_l1] at hy
        cases hy
end Go.Proofs.YtooplogodcadgaaDoor
