/- The law 'oakum/oakumlaw09.SuperEncodes' returns true for every input, and its arguments read behind the call as before: the given card SuperEncodesCardSaid; its row lists two of Go's own tables as the program's text lays them (the tie is given). -/
import Derived.Test.YtcjdkanmbafjmaaDoorCards
import Derived.Test.YtcjdkanmbafjmaaDoorTie
import Derived.Test.YtcjdkanmbafjmaaDoorSuH
import Derived.ProofKit
import Derived.OpenShut
import Derived.ShutString
import Derived.ChangeOld
import Derived.Below
import Derived.SizedLaws
import Derived.Carry
import Derived.Deep.Slices
import Derived.Lay
import Derived.LaidOnce
import Derived.SevenTiedAt
import Derived.Lib.SmallJoins
namespace Go.Proofs.YtcjdkanmbafjmaaDoor
open Go.ChangeShapes Go.WideShapes Go.ChangeAt Go.RowKit
open Go.ChangeMaps (open_string shut_string)

theorem ownK : ownKnob Tryd.prog.godebug = none := by kernel_rfl
theorem laidOut : laidOutB Tryd.prog = true := by kernel_rfl
set_option maxRecDepth 100000 in
theorem encodes_lifted (os : Os) (started : os.Started) (H : Type) (enc : TypeId × Value → H) :
    ReturnsInHanded {} Tryd.checked os 3 .any (fun w args => (Rows.superEncodesSpec.pre enc Tryd.prog Tryd.f3 [] false w args ∧ laidMetH Tryd.prog Rows.superEncodesRow.laid w) ∧ sizedMet enc Tryd.prog Tryd.f3 (OpenSpec.ofChange Rows.superEncodesSpec) false w args) (Rows.superEncodesSpec.post enc Tryd.prog Tryd.f3 false true false false) := by
  refine returnsInHanded_of_change_and (C := Tryd.checked) (X := fun w _ => laidMetH Tryd.prog Rows.superEncodesRow.laid w) (fun _ _ _ hh h => h.of_heap hh) ownK started (by kernel_rfl) Tryd.func3
    (ChangeSpec.witness_shaped (enc := enc) (C := Tryd.checked) (os := os) (X := fun w _ => laidMetH Tryd.prog Rows.superEncodesRow.laid w) false (World.laidAll Tryd.prog os Rows.superEncodesRow.laid) #[.agg #[.int .i64 0, .int .i64 0, .int .i64 0]] 8 (World.laidAll_os _ _ _)
      (World.shaped_of_ZipB (by kernel_rfl) (by kernel_rfl)) (by kernel_rfl) (by kernel_rfl) (by kernel_rfl)
      (by rw [MakeChecks.laidMetH_plain _ _ _ (by kernel_rfl)]; exact laidMet_laidAll _ (by kernel_rfl) (by kernel_rfl))) ?_
  intro W base args ds gs before hval0 hW hcnd hsz0 _ _
  have hval : ∀ (j : Nat) t v, Tryd.f3.params[j]? = some t → args[j]? = some v → Value.okWide Tryd.prog W .any base t v := hval0
  have hW' := hW
  obtain ⟨p, q, hA0, hV, rfl, hfz, hnd⟩ := hW
  have hA : DataW.TrodAll enc Tryd.prog W 0 (fun _ => true) true Tryd.f3.params.toList args.toList ds p := hA0
  rw [Tryd.params3] at hA hval
  obtain ⟨v0, vs0, d0, ds0, p0, q0, hargs, rfl, rfl, h0, r0⟩ := trodAll_cons hA
  obtain ⟨rfl, rfl, rfl⟩ := trodAll_nil r0
  obtain rfl : args = #[v0] := by cases args; simp_all
  obtain ⟨rfl, rfl⟩ := trodVars_none hV
  have kk0 := h0
  have lt0 : ∀ x ∈ p0, x.block < W.heap.size := by obtain ⟨m, hm⟩ := kk0; exact DataW.trod_lt m _ _ _ hm
  obtain ⟨n0, rfl, hn0⟩ : ∃ h : Su, v0 = sv h ∧ wfS h := by
    obtain ⟨c0, c1, c2, y0, y1, y2, m, rfl, _, _, t0, t1, t2⟩ := Go.Joins.open_agg3 Tryd.underlying23 (by kernel_rfl) (by kernel_rfl) (hval 0 23 v0 rfl rfl) kk0
    obtain ⟨a, e0, _, f0⟩ := DataW.trod_int Tryd.underlying3 t0
    obtain ⟨b, e1, _, f1⟩ := DataW.trod_int Tryd.underlying3 t1
    obtain ⟨c, e2, _, f2⟩ := DataW.trod_int Tryd.underlying3 t2
    injection e0 with e0
    injection e1 with e1
    injection e2 with e2
    exact ⟨⟨a, b, c⟩, by rw [sv, e0, e1, e2], bounds_i64 f0, bounds_i64 f1, bounds_i64 f2⟩
  clear hA0 hval0
  have hrun := encodes_run W n0 hn0
  refine hrun.mono fun e W' ⟨he, kept⟩ => ?_
  have bel := kept.toBelow
  subst he
  exact ⟨_, rfl, _, _, _, [], _, [], hW', trodAll_mk1 (shut_bool Tryd.underlying4 _), (trodAll_cons_mk (Below.trod laidOut (by kernel_rfl) (of_decide_eq_true (by kernel_rfl)) kk0 bel lt0) trodAll_mk0), rfl, bel.frame _, fun h => by cases h⟩

theorem encodes_over : Rows.superEncodesRow.holds Tryd.pinned (OpenSpec.ofChange Rows.superEncodesSpec) :=
  OpenClaim.holds_of_wide 3 Tryd.f3 rfl rfl rfl rfl rfl rfl rfl ⟨rfl, rfl, rfl, rfl, rfl⟩ rfl rfl rfl rfl rfl (by kernel_rfl) Tryd.func3 (by kernel_rfl)
    (of_decide_eq_true (by kernel_rfl)) (by unfold Func.isWrapper; first | (rw [if_pos (by decide +kernel)]; kernel_rfl) | (rw [if_neg (by decide +kernel)]; exact ⟨rfl, rfl⟩))
    (fun os started H enc _ => encodes_lifted os started H enc)
theorem encodes_card : Claim7.holds Tryd.pinned (.plain (OpenSpec.ofChange Rows.superEncodesSpec)) Rows.superEncodesCard :=
  Claim7.holds_tied_plain_at .later [] [.data, .pinned] true (true, "7ab472e4dfc792cb8a2d887238ae383aca6fabab8c36a923da15c5785825268a") true
    encodes_over (fun _ h => by cases h) (by kernel_rfl) (fun _ h => by cases h) superEncodes_row_tie rfl ⟨rfl, rfl⟩ (by kernel_rfl) rfl
    (fun f fn hf hfn => by
      obtain rfl : f = 3 := Option.some.inj ((show Tryd.prog.funcNamed "oakum/oakumlaw09.SuperEncodes" = some 3 by kernel_rfl).symm.trans hf) |>.symm
      obtain rfl : fn = Tryd.f3 := (Option.some.inj (Tryd.func3.symm.trans hfn)).symm
      exact ⟨by kernel_rfl, fun j t ht => by
        rw [Tryd.params3] at ht
        have hm : t ∈ [23] := by simpa using Array.mem_of_getElem? ht
        have hall : ([23].all fun u => !Tryd.prog.wantsStandIn u) = true := by kernel_rfl
        exact (show Tryd.prog.wantsStandIn t = false by simpa using List.all_eq_true.1 hall t hm)⟩)
    (by kernel_rfl)
theorem SuperEncodes_proved : Rows.SuperEncodesCardSaid := encodes_card
#print axioms SuperEncodes_proved
end Go.Proofs.YtcjdkanmbafjmaaDoor

