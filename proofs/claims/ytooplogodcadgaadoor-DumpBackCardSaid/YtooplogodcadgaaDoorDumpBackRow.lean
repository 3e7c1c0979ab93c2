/- The law 'oakum/oakumlaw20.DumpBack' returns true for every input, and its arguments read behind the call as before: the given card DumpBackCardSaid; its row lists package-level variables of Go's own as the program's text lays them (the tie is given). -/
import Derived.Test.YtooplogodcadgaaDoorCards
import Derived.Test.YtooplogodcadgaaDoorTie
import Derived.Test.YtooplogodcadgaaDoorDvF
import Derived.ProofKit
import Derived.OpenShut
import Derived.ShutString
import Derived.ChangeOld
import Derived.Below
import Derived.SizedLaws
import Derived.Carry
import Derived.Lay
import Derived.LaidOnce
import Derived.SevenTiedAt
import Derived.Lib.SmallJoins
namespace Go.Proofs.YtooplogodcadgaaDoor
open Go.ChangeShapes Go.WideShapes Go.ChangeAt Go.RowKit
open Go.ChangeMaps (open_string shut_string)

theorem ownK : ownKnob Tryd.prog.godebug = none := by kernel_rfl
theorem laidOut : laidOutB Tryd.prog = true := by kernel_rfl
set_option maxRecDepth 100000 in
set_option maxHeartbeats 1000000 in
theorem dumpBack_lifted (os : Os) (started : os.Started) (H : Type) (enc : TypeId × Value → H) :
    ReturnsInHanded {} Tryd.checked os 5 .any (fun w args => (Rows.dumpBackSpec.pre enc Tryd.prog Tryd.f5 [] false w args ∧ laidMetH Tryd.prog Rows.dumpBackRow.laid w) ∧ sizedMet enc Tryd.prog Tryd.f5 (OpenSpec.ofChange Rows.dumpBackSpec) false w args) (Rows.dumpBackSpec.post enc Tryd.prog Tryd.f5 false true false false) := by
  refine handed_shaped (C := Tryd.checked) (X := fun w _ => laidMetH Tryd.prog Rows.dumpBackRow.laid w) (fun _ _ _ hh h => h.of_heap hh) ownK started (by kernel_rfl) Tryd.func5
    (ChangeSpec.witness_shaped (enc := enc) (C := Tryd.checked) (os := os) (X := fun w _ => laidMetH Tryd.prog Rows.dumpBackRow.laid w) false (World.laidAll Tryd.prog os Rows.dumpBackRow.laid) #[.agg #[.int .i64 0, .int .i64 0, .int .i64 0, .slice none 0 0], .slice none 0 0] 8 (World.laidAll_os _ _ _)
      (World.shaped_of_ZipB (by kernel_rfl) (by kernel_rfl)) (by kernel_rfl) (by kernel_rfl) (by kernel_rfl)
      (by rw [MakeChecks.laidMetH_plain _ _ _ (by kernel_rfl)]; exact laidMet_laidAll _ (by kernel_rfl) (by kernel_rfl))) ?_
  intro W base args ds gs before hval0 hW hsz0 hLm hS
  have hLd : Laid W := laid_of hLm hS
  have hsz : (DataW.weightsEach Tryd.prog (Tryd.f5.params.toList ++ Rows.dumpBackSpec.plain.varTypes Tryd.prog) (ds ++ gs)).all (· ≤ reachBytes) = true := hsz0
  have hval : ∀ (j : Nat) t v, Tryd.f5.params[j]? = some t → args[j]? = some v → Value.okWide Tryd.prog W .any base t v := hval0
  have hW' := hW
  obtain ⟨p, q, hA0, hV, rfl, hfz, hnd⟩ := hW
  have hA : DataW.TrodAll enc Tryd.prog W 0 (fun _ => true) true Tryd.f5.params.toList args.toList ds p := hA0
  rw [Tryd.params5] at hA hval hsz
  obtain ⟨v0, vs0, d0, ds0, p0, q0, hargs, rfl, rfl, h0, r0⟩ := trodAll_cons hA
  obtain ⟨v1, vs1, d1, ds1, p1, q1, rfl, rfl, rfl, h1, r1⟩ := trodAll_cons r0
  obtain ⟨rfl, rfl, rfl⟩ := trodAll_nil r1
  obtain rfl : args = #[v0, v1] := by cases args; simp_all
  obtain ⟨rfl, rfl⟩ := trodVars_none hV
  have kk0 := h0
  have lt0 : ∀ x ∈ p0, x.block < W.heap.size := by obtain ⟨m, hm⟩ := kk0; exact DataW.trod_lt m _ _ _ hm
  have kk1 := h1
  have lt1 : ∀ x ∈ p1, x.block < W.heap.size := by obtain ⟨m, hm⟩ := kk1; exact DataW.trod_lt m _ _ _ hm
  obtain ⟨a0, b0, c0, A0, ps0, k0, rfl, hL0, hG0, hN0⟩ := rep_arg (hval 0 26 v0 rfl rfl) h0
  obtain ⟨A1, n1, k1, rfl⟩ := okWide_slice Tryd.underlying29 (hval 1 29 v1 rfl rfl)
  obtain ⟨B1, l1, c1, e1, hT1, hC1, hN1, hS1⟩ : ∃ A l c, (Value.slice A1 n1 k1) = .slice A (List.length l) c ∧ TRd W A l ∧ l.length ≤ c ∧ l.length ≤ maxLen ∧ ∀ x ∈ l, x.length ≤ maxLen := by
    obtain ⟨fuel, hf⟩ := h1
    exact strs_open hf
  injection e1 with ea1 eb1 ec1
  subst ea1 eb1 ec1
  clear hA0 hval0 hsz0 hsz
  have hrun := law_DumpBack a0 b0 c0 A0 k0 ps0 A1 k1 l1 W hLd hL0 hG0 hN0 hT1 hC1 hN1 hS1
  refine hrun.mono fun e W' ⟨he, kept⟩ => ?_
  have bel := kept.toBelow
  subst he
  exact ⟨_, rfl, _, _, _, [], _, [], hW', trodAll_mk1 (shut_bool Tryd.underlying4 _), (trodAll_cons_mk (Below.trod laidOut (by kernel_rfl) (of_decide_eq_true (by kernel_rfl)) kk0 bel lt0) (trodAll_cons_mk (Below.trod laidOut (by kernel_rfl) (of_decide_eq_true (by kernel_rfl)) kk1 bel lt1) trodAll_mk0)), rfl, bel.frame _, fun h => by cases h⟩

theorem dumpBack_over : Rows.dumpBackRow.holds Tryd.pinned (OpenSpec.ofChange Rows.dumpBackSpec) :=
  OpenClaim.holds_of_wide 5 Tryd.f5 rfl rfl rfl rfl rfl rfl rfl ⟨rfl, rfl, rfl, rfl, rfl⟩ rfl rfl rfl rfl rfl (by kernel_rfl) Tryd.func5 (by kernel_rfl)
    (of_decide_eq_true (by kernel_rfl)) (by unfold Func.isWrapper; first | (rw [if_pos (by decide +kernel)]; kernel_rfl) | (rw [if_neg (by decide +kernel)]; exact ⟨rfl, rfl⟩))
    (fun os started H enc _ => dumpBack_lifted os started H enc)
theorem dumpBack_card : Claim7.holds Tryd.pinned (.plain (OpenSpec.ofChange Rows.dumpBackSpec)) Rows.dumpBackCard :=
  Claim7.holds_tied_plain_at .later [] [.data, .data, .data, .data, .sentinel, .sentinel, .pinned] true (true, "41c964798728ae2bfafbe2ad6b1096e4a4fac281e17db632313a361155f2c90c") true
    dumpBack_over (fun _ h => by cases h) (by kernel_rfl) (fun _ h => by cases h) dumpBack_row_tie rfl ⟨rfl, rfl⟩ (by kernel_rfl) rfl
    (fun f fn hf hfn => by
      obtain rfl : f = 5 := Option.some.inj ((show Tryd.prog.funcNamed "oakum/oakumlaw20.DumpBack" = some 5 by kernel_rfl).symm.trans hf) |>.symm
      obtain rfl : fn = Tryd.f5 := (Option.some.inj (Tryd.func5.symm.trans hfn)).symm
      exact ⟨by kernel_rfl, fun j t ht => by
        rw [Tryd.params5] at ht
        have hm : t ∈ [26, 29] := by simpa using Array.mem_of_getElem? ht
        have hall : ([26, 29].all fun u => !Tryd.prog.wantsStandIn u) = true := by kernel_rfl
        exact (show Tryd.prog.wantsStandIn t = false by simpa using List.all_eq_true.1 hall t hm)⟩)
    (by kernel_rfl)
theorem DumpBack_proved : Rows.DumpBackCardSaid := dumpBack_card
#print axioms DumpBack_proved
end Go.Proofs.YtooplogodcadgaaDoor
