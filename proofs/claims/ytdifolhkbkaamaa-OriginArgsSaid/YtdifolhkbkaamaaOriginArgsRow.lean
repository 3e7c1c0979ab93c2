/- The law 'oakumlaw15.OriginArgs' returns true for every input, and its arguments read behind the call as before: the given statement OriginArgsSaid, with no condition. -/
import Derived.Test.YtdifolhkbkaamaaRows
import Derived.Test.YtdifolhkbkaamaaOrgE
import Derived.ProofKit
import Derived.OpenShut
import Derived.ShutString
import Derived.ChangeOld
import Derived.Below
import Derived.SizedLaws
import Derived.Carry
import Derived.Deep.Slices
import Derived.Lib.SmallJoins
namespace Go.Proofs.Ytdifolhkbkaamaa
open Go.ChangeShapes Go.WideShapes Go.ChangeAt Go.RowKit
open Go.ChangeMaps (open_string shut_string)

theorem ownK : ownKnob Try.prog.godebug = none := by kernel_rfl
theorem laidOut : laidOutB Try.prog = true := by kernel_rfl
set_option maxRecDepth 100000 in
theorem args_lifted (os : Os) (started : os.Started) (H : Type) (enc : TypeId × Value → H) :
    ReturnsInHanded {} Try.checked os 3 .any (Rows.originArgsSpec.pre6 enc Try.prog Try.f3 Rows.originArgsRow.domain false) (Rows.originArgsSpec.post enc Try.prog Try.f3 false true false false) := by
  refine returnsInHanded_of_change_sized (C := Try.checked) ownK started (by kernel_rfl) Try.func3
    (ChangeSpec.witness6 (enc := enc) (C := Try.checked) false ⟨#[], #[.agg #[.int .i64 0, .int .i64 0, .int .i64 0], .agg #[.int .u8 0, .int .i64 0, .int .i64 0, .string ByteArray.empty]], []⟩ 8 (by kernel_rfl) (by kernel_rfl) (by kernel_rfl) (by kernel_rfl)) ?_
  intro W base args ds gs before hval0 hW hcnd hsz0 _
  have hval : ∀ (j : Nat) t v, Try.f3.params[j]? = some t → args[j]? = some v → Value.okWide Try.prog W .any base t v := hval0
  have hW' := hW
  obtain ⟨p, q, hA0, hV, rfl, hfz, hnd⟩ := hW
  have hA : DataW.TrodAll enc Try.prog W 0 (fun _ => true) true Try.f3.params.toList args.toList ds p := hA0
  rw [Try.params3] at hA hval
  obtain ⟨v0, vs0, d0, ds0, p0, q0, hargs, rfl, rfl, h0, r0⟩ := trodAll_cons hA
  obtain ⟨v1, vs1, d1, ds1, p1, q1, rfl, rfl, rfl, h1, r1⟩ := trodAll_cons r0
  obtain ⟨rfl, rfl, rfl⟩ := trodAll_nil r1
  obtain rfl : args = #[v0, v1] := by cases args; simp_all
  obtain ⟨rfl, rfl⟩ := trodVars_none hV
  have kk0 := h0
  have lt0 : ∀ x ∈ p0, x.block < W.heap.size := by obtain ⟨m, hm⟩ := kk0; exact DataW.trod_lt m _ _ _ hm
  have kk1 := h1
  have lt1 : ∀ x ∈ p1, x.block < W.heap.size := by obtain ⟨m, hm⟩ := kk1; exact DataW.trod_lt m _ _ _ hm
  obtain ⟨n0, rfl, hn0⟩ : ∃ h : Su, v0 = sv h ∧ wfS h := by
    obtain ⟨c0, c1, c2, y0, y1, y2, m, rfl, _, _, t0, t1, t2⟩ := Go.Joins.open_agg3 Try.underlying23 (by kernel_rfl) (by kernel_rfl) (hval 0 23 v0 rfl rfl) kk0
    obtain ⟨a, e0, _, f0⟩ := DataW.trod_int Try.underlying3 t0
    obtain ⟨b, e1, _, f1⟩ := DataW.trod_int Try.underlying3 t1
    obtain ⟨c, e2, _, f2⟩ := DataW.trod_int Try.underlying3 t2
    injection e0 with e0
    injection e1 with e1
    injection e2 with e2
    exact ⟨⟨a, b, c⟩, by rw [sv, e0, e1, e2], bounds_i64 f0, bounds_i64 f1, bounds_i64 f2⟩
  obtain ⟨n1, rfl⟩ : ∃ a : Ac, v1 = av a := by
    obtain ⟨c0, c1, c2, c3, y0, y1, y2, y3, m, rfl, _, _, t0, t1, t2, t3⟩ := Go.Joins.open_agg4 Try.underlying25 (by kernel_rfl) (by kernel_rfl) (hval 1 25 v1 rfl rfl) kk1
    obtain ⟨k, e0, _, f0⟩ := DataW.trod_int Try.underlying5 t0
    obtain ⟨b, e1, _, f1⟩ := DataW.trod_int Try.underlying3 t1
    obtain ⟨c, e2, _, f2⟩ := DataW.trod_int Try.underlying3 t2
    obtain ⟨s, e3, _⟩ := DataW.trod_string Try.underlying9 t3
    injection e0 with e0
    injection e1 with e1
    injection e2 with e2
    injection e3 with e3
    have bb := bounds_u8 f0
    exact ⟨⟨k.toNat, b, c, s.data.toList⟩, by rw [av, e0, e1, e2, e3, Int.toNat_of_nonneg (by omega)]⟩
  clear hA0 hval0
  have hrun := args_run W n0 hn0 n1
  refine hrun.mono fun e W' ⟨he, kept⟩ => ?_
  have bel := kept.toBelow
  subst he
  exact ⟨_, rfl, _, _, _, [], _, [], hW', trodAll_mk1 (shut_bool Try.underlying4 _), (trodAll_cons_mk (Below.trod laidOut (by kernel_rfl) (of_decide_eq_true (by kernel_rfl)) kk0 bel lt0) (trodAll_cons_mk (Below.trod laidOut (by kernel_rfl) (of_decide_eq_true (by kernel_rfl)) kk1 bel lt1) trodAll_mk0)), rfl, bel.frame _, fun h => by cases h⟩

theorem args_over : Rows.originArgsRow.holds Try.pinned (OpenSpec.ofChange Rows.originArgsSpec) :=
  OpenClaim.holds_of_wide 3 Try.f3 rfl rfl rfl rfl rfl rfl rfl ⟨rfl, rfl, rfl, rfl, rfl⟩ rfl rfl rfl rfl rfl (by kernel_rfl) Try.func3 (by kernel_rfl)
    (of_decide_eq_true (by kernel_rfl)) (by unfold Func.isWrapper; first | (rw [if_pos (by decide +kernel)]; kernel_rfl) | (rw [if_neg (by decide +kernel)]; exact ⟨rfl, rfl⟩))
    (fun os started H enc _ => args_lifted os started H enc)
theorem OriginArgs_proved : Rows.OriginArgsSaid := args_over
#print axioms OriginArgs_proved
end Go.Proofs.Ytdifolhkbkaamaa
