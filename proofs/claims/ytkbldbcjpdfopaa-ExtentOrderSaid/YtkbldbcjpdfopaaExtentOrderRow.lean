/- The law 'oakum/oakumlaw11.ExtentOrder' returns true for every input, and its arguments read behind the call as before: the given statement ExtentOrderSaid, with no condition. -/
import Derived.Test.YtkbldbcjpdfopaaRows
import Derived.Test.YtkbldbcjpdfopaaExW
import Derived.ProofKit
import Derived.OpenShut
import Derived.ShutString
import Derived.ChangeOld
import Derived.Below
import Derived.SizedLaws
import Derived.Carry
import Derived.Deep.Slices
import Derived.Lib.SmallJoins
namespace Go.Proofs.Ytkbldbcjpdfopaa
open Go.ChangeShapes Go.WideShapes Go.ChangeAt Go.RowKit
open Go.ChangeMaps (open_string shut_string)

theorem ownK : ownKnob Try.prog.godebug = none := by kernel_rfl
theorem laidOut : laidOutB Try.prog = true := by kernel_rfl
set_option maxRecDepth 100000 in
theorem extentOrder_lifted (os : Os) (started : os.Started) (H : Type) (enc : TypeId × Value → H) :
    ReturnsInHanded {} Try.checked os 5 .any (Rows.extentOrderSpec.pre6 enc Try.prog Try.f5 Rows.extentOrderRow.domain false) (Rows.extentOrderSpec.post enc Try.prog Try.f5 false true false false) := by
  refine returnsInHanded_of_change_sized (C := Try.checked) ownK started (by kernel_rfl) Try.func5
    (ChangeSpec.witness6 (enc := enc) (C := Try.checked) false ⟨#[], #[.agg #[.int .i64 0, .int .i64 0], .slice none 0 0, .int .i64 0], []⟩ 8 (by kernel_rfl) (by kernel_rfl) (by kernel_rfl) (by kernel_rfl)) ?_
  intro W base args ds gs before hval0 hW hcnd hsz0 _
  have hsz : (DataW.weightsEach Try.prog (Try.f5.params.toList ++ Rows.extentOrderSpec.plain.varTypes Try.prog) (ds ++ gs)).all (· ≤ reachBytes) = true := hsz0
  have hval : ∀ (j : Nat) t v, Try.f5.params[j]? = some t → args[j]? = some v → Value.okWide Try.prog W .any base t v := hval0
  have hW' := hW
  obtain ⟨p, q, hA0, hV, rfl, hfz, hnd⟩ := hW
  have hA : DataW.TrodAll enc Try.prog W 0 (fun _ => true) true Try.f5.params.toList args.toList ds p := hA0
  rw [Try.params5] at hA hval hsz
  obtain ⟨v0, vs0, d0, ds0, p0, q0, hargs, rfl, rfl, h0, r0⟩ := trodAll_cons hA
  obtain ⟨v1, vs1, d1, ds1, p1, q1, rfl, rfl, rfl, h1, r1⟩ := trodAll_cons r0
  obtain ⟨v2, vs2, d2, ds2, p2, q2, rfl, rfl, rfl, h2, r2⟩ := trodAll_cons r1
  obtain ⟨rfl, rfl, rfl⟩ := trodAll_nil r2
  obtain rfl : args = #[v0, v1, v2] := by cases args; simp_all
  obtain ⟨rfl, rfl⟩ := trodVars_none hV
  have kk0 := h0
  have lt0 : ∀ x ∈ p0, x.block < W.heap.size := by obtain ⟨m, hm⟩ := kk0; exact DataW.trod_lt m _ _ _ hm
  have kk1 := h1
  have lt1 : ∀ x ∈ p1, x.block < W.heap.size := by obtain ⟨m, hm⟩ := kk1; exact DataW.trod_lt m _ _ _ hm
  have kk2 := h2
  have lt2 : ∀ x ∈ p2, x.block < W.heap.size := by obtain ⟨m, hm⟩ := kk2; exact DataW.trod_lt m _ _ _ hm
  obtain ⟨x0, hx0, rfl⟩ := ex_arg (hval 0 23 v0 rfl rfl) kk0
  obtain ⟨A1, n1, k1, rfl⟩ := okWide_slice Try.underlying24 (hval 1 24 v1 rfl rfl)
  obtain ⟨B1, l1, c1, e1, R1, S1⟩ : ∃ A l c, (Value.slice A1 n1 k1) = .slice A (List.length l) c ∧ ExsRd W A l c ∧ SizedAs d1 l := by
    obtain ⟨fuel, hf⟩ := h1
    exact exs_open hf
  injection e1 with ea1 eb1 ec1
  subst ea1 eb1 ec1
  have w1 : l1.length * 16 ≤ 140737488351232 := by
    rcases S1 with ⟨_, rfl⟩ | ⟨el, sp, rfl, e⟩
    · simp
    · have z := sized_slice hsz (j := 1) (t := 24) (e := 23) rfl rfl Try.underlying24
      rw [show Try.prog.bytesOf 23 = 16 by kernel_rfl, e] at z
      have z2 : reachBytes = 140737488351232 := rfl
      omega
  obtain ⟨n2, rfl, hn2⟩ : ∃ n : Int, v2 = .int .i64 n ∧ (-9223372036854775808 ≤ n ∧ n ≤ 9223372036854775807) := by
    obtain ⟨n, rfl⟩ := okWide_int Try.underlying3 (hval 2 3 v2 rfl rfl)
    obtain ⟨fuel, hf⟩ := kk2
    obtain ⟨m, e, _, wf⟩ := DataW.trod_int Try.underlying3 hf
    simp only [Value.cells, List.cons.injEq, and_true] at e
    injection e with _ e
    subst e
    have bb := bounds_i64 wf
    exact ⟨n, rfl, by omega⟩
  clear hA0 hval0 hsz0 hsz
  have hrun := (ext_Order W x0 n2 A1 k1 l1 (by have := w1; omega) R1.1 R1.2.2.2.2 R1.2.2.2.1)
  refine hrun.mono fun e W' ⟨he, kept⟩ => ?_
  have bel := kept.toBelow
  subst he
  exact ⟨_, rfl, _, _, _, [], _, [], hW', trodAll_mk1 (shut_bool Try.underlying4 _), (trodAll_cons_mk (Below.trod laidOut (by kernel_rfl) (of_decide_eq_true (by kernel_rfl)) kk0 bel lt0) (trodAll_cons_mk (Below.trod laidOut (by kernel_rfl) (of_decide_eq_true (by kernel_rfl)) kk1 bel lt1) (trodAll_cons_mk (Below.trod laidOut (by kernel_rfl) (of_decide_eq_true (by kernel_rfl)) kk2 bel lt2) trodAll_mk0))), rfl, bel.frame _, fun h => by cases h⟩

theorem extentOrder_over : Rows.extentOrderRow.holds Try.pinned (OpenSpec.ofChange Rows.extentOrderSpec) :=
  OpenClaim.holds_of_wide 5 Try.f5 rfl rfl rfl rfl rfl rfl rfl ⟨rfl, rfl, rfl, rfl, rfl⟩ rfl rfl rfl rfl rfl (by kernel_rfl) Try.func5 (by kernel_rfl)
    (of_decide_eq_true (by kernel_rfl)) (by unfold Func.isWrapper; first | (rw [if_pos (by decide +kernel)]; kernel_rfl) | (rw [if_neg (by decide +kernel)]; exact ⟨rfl, rfl⟩))
    (fun os started H enc _ => extentOrder_lifted os started H enc)
theorem ExtentOrder_proved : Rows.ExtentOrderSaid := extentOrder_over
#print axioms ExtentOrder_proved
end Go.Proofs.Ytkbldbcjpdfopaa

