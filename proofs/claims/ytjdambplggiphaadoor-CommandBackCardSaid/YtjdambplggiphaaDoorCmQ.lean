/- Commands: the live question, whose answer is fixed. -/
import Derived.Test.YtjdambplggiphaaDoorCmP
import Derived.StillTailTactics
namespace Go.Proofs.YtjdambplggiphaaDoor
open Go.RowKit Go.Lib

def liveC : Cm := ⟨[119, 114, 105, 116, 101], 2, 30, 0, [97, 0]⟩
theorem live_parse : parseL [119, 114, 105, 116, 101, 32, 50, 32, 51, 48, 32, 54, 49, 48, 48] = some liveC := by decide +kernel
theorem live_print : printL liveC = some [119, 114, 105, 116, 101, 32, 50, 32, 51, 48, 32, 54, 49, 48, 48] := print_parse live_parse
theorem live_none : parseL [115, 116, 101, 112, 32, 49] = none := by decide +kernel
def TrueK (w : World) (e : Ending) (w' : World) : Prop := e = .returned (.bool true) ∧ Kept [] w w'
set_option maxRecDepth 4000 in
set_option maxHeartbeats 2000000 in
theorem cmd_alive (w : World) (hL : Laid w) : Calls Tryd.prog 6 #[] w (TrueK w) := by
  have H1 := fun (W : World) (h : Laid W) => cmd_Print liveC W h (by decide) (by unfold wfC liveC; decide)
  have H2 := fun (W : World) (h : Laid W) => cmd_Parse [119, 114, 105, 116, 101, 32, 50, 32, 51, 48, 32, 54, 49, 48, 48] W h (by decide)
  have H3 := fun (W : World) (h : Laid W) => cmd_Parse [115, 116, 101, 112, 32, 49] W h (by decide)
  unfold PrintPost at H1
  unfold ParsePost at H2 H3
  rw [live_print] at H1
  rw [live_parse] at H2
  rw [live_none] at H3
  unfold liveC cmV at H1
  unfold liveC cmV at H2
  unfold cm0 cmV at H3
  simp only [Option.getD_some, Option.getD_none, Option.isSome_some, Option.isSome_none, if_true, if_false, Bool.false_eq_true] at H1 H2 H3
  replace H1 := Lib.hid H1
  replace H2 := Lib.hid H2
  replace H3 := Lib.hid H3
  have HL := Lib.hid hL
  clear hL
  go_enter Tryd.func6, Tryd.ntmps6
  go_wp2_with fail
  refine (H1.out _ (HL.out.kept ((Kept.refl [] w).alloc _))).mono ?_
  rintro e w1 ⟨rfl, k1⟩
  have K1 := Lib.hid (((Kept.refl [] w).alloc _).trans k1)
  have R1 := Lib.hid ((Blk.new w 23 #[.string ⟨#[119, 114, 105, 116, 101]⟩, .int .i64 2, .int .i64 30, .int .i64 0, .string ⟨#[97, 0]⟩]).kept k1 (fun h => by cases h))
  have L1 := Lib.hid (HL.out.kept K1.out)
  clear k1
  go_wp2_with fail
  refine (H2.out _ L1.out).mono ?_
  rintro e w2 ⟨rfl, k2⟩
  have K2 := Lib.hid (K1.out.trans k2)
  have R2 := Lib.hid (R1.out.kept k2 (fun h => by cases h))
  have L2 := Lib.hid (HL.out.kept K2.out)
  clear k2
  go_wp2_with fail
  refine (H3.out _ (L2.out.kept ((Kept.refl [] w2).alloc _))).mono ?_
  rintro e w3 ⟨rfl, k3⟩
  have K3 := Lib.hid ((K2.out.alloc _).trans k3)
  have R3 := Lib.hid ((R2.out.alloc _).kept k3 (fun h => by cases h))
  have X3 := Lib.hid ((Blk.new w2 23 #[.string ⟨#[119, 114, 105, 116, 101]⟩, .int .i64 2, .int .i64 30, .int .i64 0, .string ⟨#[97, 0]⟩]).kept k3 (fun h => by cases h))
  clear k3
  have k4 : Kept [] w3 (w3.alloc (.cells #[.string ⟨#[]⟩, .int .i64 0, .int .i64 0, .int .i64 0, .string ⟨#[]⟩] 23)) := (Kept.refl [] w3).alloc _
  have p0 := k4.cell (X3.out.cell 0) (fun h => by cases h)
  have p1 := k4.cell (X3.out.cell 1) (fun h => by cases h)
  have p2 := k4.cell (X3.out.cell 2) (fun h => by cases h)
  have p3 := k4.cell (X3.out.cell 3) (fun h => by cases h)
  have p4 := k4.cell (X3.out.cell 4) (fun h => by cases h)
  have r0 := k4.cell (R3.out.cell 0) (fun h => by cases h)
  have r1 := k4.cell (R3.out.cell 1) (fun h => by cases h)
  have r2 := k4.cell (R3.out.cell 2) (fun h => by cases h)
  have r3 := k4.cell (R3.out.cell 3) (fun h => by cases h)
  have r4 := k4.cell (R3.out.cell 4) (fun h => by cases h)
  clear k4
  go_wp2_with fail
  go_ret
  exact ⟨rfl, K3.out.alloc _⟩
end Go.Proofs.YtjdambplggiphaaDoor
