/- Commands: the laws CommandParses and CommandPrints walked. -/
import Derived.Test.YtjdambplggiphaaDoorCmQ
namespace Go.Proofs.YtjdambplggiphaaDoor
open Go.RowKit Go.Lib

set_option maxRecDepth 4000 in
set_option maxHeartbeats 2000000 in
theorem law_Parses (s : Bs) (W : World) (hL : Laid W) (hs : s.length ≤ 140737488351232) : Calls Tryd.prog 4 #[.string ⟨s.toArray⟩] W (TrueK W) := by
  have HAl := Lib.hid (fun (V : World) (k : Kept [] W V) => cmd_alive V (hL.kept k))
  by_cases h1 : s.length ≤ 1000
  · have H1 := fun (V : World) (h : Laid V) => cmd_Parse s V h (by omega)
    have H2 := fun (V : World) => ref_Parse s V (by omega)
    unfold ParsePost at H1 H2
    generalize (parseL s).getD cm0 = z at H1 H2
    generalize (if (parseL s).isSome then (0 : Int) else 32) = er at H1 H2
    obtain ⟨op, id, at_, n, data⟩ := z
    unfold cmV at H1 H2
    dsimp only at H1 H2
    replace H1 := Lib.hid H1
    replace H2 := Lib.hid H2
    have HL := Lib.hid hL
    clear hL
    have hi : ¬ (1000 : Int) < (s.length : Int) := by omega
    go_enter Tryd.func4, Tryd.ntmps4
    go_wp2_with fail
    refine (H1.out _ HL.out).mono ?_
    rintro e w1 ⟨rfl, k1⟩
    have K1 := Lib.hid k1
    clear k1
    go_wp2_with fail
    refine (H2.out _).mono ?_
    rintro e w2 ⟨rfl, k2⟩
    have K2 := Lib.hid ((K1.out.alloc _).trans k2)
    have B2 := Lib.hid ((Blk.new w1 23 #[.string ⟨op.toArray⟩, .int .i64 id, .int .i64 at_, .int .i64 n, .string ⟨data.toArray⟩]).kept k2 (fun h => by cases h))
    clear k2
    go_wp2_with fail
    refine (HAl.out _ (K2.out.alloc _)).mono ?_
    rintro e w3 ⟨rfl, k3⟩
    have K3 := Lib.hid ((K2.out.alloc _).trans k3)
    have B3 := Lib.hid ((B2.out.alloc _).kept k3 (fun h => by cases h))
    have X3 := Lib.hid ((Blk.new w2 23 #[.string ⟨op.toArray⟩, .int .i64 id, .int .i64 at_, .int .i64 n, .string ⟨data.toArray⟩]).kept k3 (fun h => by cases h))
    clear k3
    have p0 := B3.out.cell 0
    have p1 := B3.out.cell 1
    have p2 := B3.out.cell 2
    have p3 := B3.out.cell 3
    have p4 := B3.out.cell 4
    have q0 := X3.out.cell 0
    have q1 := X3.out.cell 1
    have q2 := X3.out.cell 2
    have q3 := X3.out.cell 3
    have q4 := X3.out.cell 4
    go_wp2_with fail
    go_ret
    exact ⟨rfl, K3.out⟩
  · have hi : (1000 : Int) < (s.length : Int) := by omega
    go_enter Tryd.func4, Tryd.ntmps4
    go_wp2_with fail
    refine (HAl.out _ (Kept.refl [] W)).mono ?_
    rintro e w1 ⟨rfl, k1⟩
    have K1 := Lib.hid k1
    clear k1
    go_wp2_with fail
    go_ret
    exact ⟨rfl, K1.out⟩
set_option maxRecDepth 4000 in
set_option maxHeartbeats 2000000 in
theorem law_Prints (c : Cm) (W : World) (hL : Laid W) (hs : c.op.length ≤ 140737488351232 ∧ c.data.length ≤ 140737488351232) (hw : wfC c) : Calls Tryd.prog 3 #[cmV c] W (TrueK W) := by
  have HAl := Lib.hid (fun (V : World) (k : Kept [] W V) => cmd_alive V (hL.kept k))
  have HAdd : IntKind.i64.wrap ((c.op.length : Int) + (c.data.length : Int)) = (c.op.length : Int) + (c.data.length : Int) := IntWalk.i64_in _ (by omega)
  by_cases h1 : c.op.length + c.data.length ≤ 1000
  · have H1 := fun (V : World) (h : Laid V) => cmd_Print c V h (by omega) hw
    have H2 := fun (V : World) => ref_Print c V (by omega)
    unfold PrintPost at H1 H2
    generalize (printL c).getD [] = z at H1 H2
    generalize (if (printL c).isSome then (0 : Int) else 1) = er at H1 H2
    obtain ⟨op, id, at_, n, data⟩ := c
    unfold cmV at H1 H2 ⊢
    dsimp only at H1 H2 HAdd h1 ⊢
    replace H1 := Lib.hid H1
    replace H2 := Lib.hid H2
    have HL := Lib.hid hL
    clear hL hw hs
    have hi : ¬ (1000 : Int) < (op.length : Int) + (data.length : Int) := by omega
    go_enter Tryd.func3, Tryd.ntmps3
    go_wp2_with fail
    refine (H1.out _ (HL.out.kept ((Kept.refl [] W).alloc _))).mono ?_
    rintro e w1 ⟨rfl, k1⟩
    have K1 := Lib.hid (((Kept.refl [] W).alloc _).trans k1)
    have B1 := Lib.hid ((Blk.new W 23 #[.string ⟨op.toArray⟩, .int .i64 id, .int .i64 at_, .int .i64 n, .string ⟨data.toArray⟩]).kept k1 (fun h => by cases h))
    have p0 := B1.out.cell 0
    have p1 := B1.out.cell 1
    have p2 := B1.out.cell 2
    have p3 := B1.out.cell 3
    have p4 := B1.out.cell 4
    clear k1
    go_wp2_with fail
    refine (H2.out _).mono ?_
    rintro e w2 ⟨rfl, k2⟩
    have K2 := Lib.hid (K1.out.trans k2)
    clear k2 p0 p1 p2 p3 p4
    go_wp2_with fail
    refine (HAl.out _ K2.out).mono ?_
    rintro e w3 ⟨rfl, k3⟩
    have K3 := Lib.hid (K2.out.trans k3)
    clear k3
    go_wp2_with fail
    go_ret
    exact ⟨rfl, K3.out⟩
  · obtain ⟨op, id, at_, n, data⟩ := c
    unfold cmV
    dsimp only at HAdd h1 ⊢
    have hi : (1000 : Int) < (op.length : Int) + (data.length : Int) := by omega
    go_enter Tryd.func3, Tryd.ntmps3
    go_wp2_with fail
    refine (HAl.out _ ((Kept.refl [] W).alloc _)).mono ?_
    rintro e w1 ⟨rfl, k1⟩
    have K1 := Lib.hid (((Kept.refl [] W).alloc _).trans k1)
    clear k1
    go_wp2_with fail
    go_ret
    exact ⟨rfl, K1.out⟩
end Go.Proofs.YtjdambplggiphaaDoor
