/- The law 'oakumlaw03.CrcByte' returns true for every input, and its arguments read behind the call as before: the given statement CrcByteSaid, with no condition. -/
import Derived.Test.YthdigddbhlakmaaRows
import Derived.Test.YthdigddbhlakmaaCrcH
import Derived.ProofKit
import Derived.OpenShut
import Derived.ShutString
import Derived.ChangeOld
import Derived.Below
import Derived.SizedLaws
import Derived.Carry
import Derived.Deep.Slices
namespace Go.Proofs.Ythdigddbhlakmaa
open Go.ChangeShapes Go.WideShapes Go.ChangeAt Go.RowKit
open Go.ChangeMaps (open_string shut_string)

theorem ownK : ownKnob Try.prog.godebug = none := by kernel_rfl
theorem laidOut : laidOutB Try.prog = true := by kernel_rfl
theorem pair_open {H : Type} {enc : TypeId × Value → H} {w : World} {base : Nat} {spare : Nat → Bool} {held : Bool} {fuel : Nat} {cs : List Value} {x : DataW H × List MemPlace} (hcs : cs.length = 2) (h : DataW.trod enc Try.prog w base spare held fuel 22 cs = some x) :
    ∃ x y : UInt8, cs = [bv x, bv y] := by
  match cs, hcs with
  | [c0, c1], _ =>
    obtain ⟨xs, m, _, _, _, hl, hg⟩ := DataW.trod_array Try.underlying22 h
    match xs, hl with
    | [y0, y1], _ =>
      have k1 : Try.prog.cellsOf 5 = 1 := by kernel_rfl
      have g0 := hg 0 (by decide)
      have g1 := hg 1 (by decide)
      simp [k1] at g0 g1
      obtain ⟨n0, e0, _, w0⟩ := DataW.trod_int Try.underlying5 g0
      obtain ⟨n1, e1, _, w1⟩ := DataW.trod_int Try.underlying5 g1
      injection e0 with e0
      injection e1 with e1
      have b0 := bounds_u8 w0
      have b1 := bounds_u8 w1
      refine ⟨UInt8.ofNat n0.toNat, UInt8.ofNat n1.toNat, ?_⟩
      have r : ∀ n : Int, 0 ≤ n → n ≤ 255 → bv (UInt8.ofNat n.toNat) = .int .u8 n := fun n h1 h2 => by
        simp only [bv, UInt8.toNat_ofNat']
        rw [show n.toNat % 2 ^ 8 = n.toNat by omega, Int.toNat_of_nonneg h1]
      rw [r n0 (by omega) (by omega), r n1 (by omega) (by omega), e0, e1]

set_option maxRecDepth 100000 in
theorem byte_lifted (os : Os) (started : os.Started) (H : Type) (enc : TypeId × Value → H) :
    ReturnsInHanded {} Try.checked os 3 .any (Rows.crcByteSpec.pre6 enc Try.prog Try.f3 Rows.crcByteRow.domain false) (Rows.crcByteSpec.post enc Try.prog Try.f3 false true false false) := by
  refine returnsInHanded_of_change_sized (C := Try.checked) ownK started (by kernel_rfl) Try.func3
    (ChangeSpec.witness6 (enc := enc) (C := Try.checked) false ⟨#[], #[.string ByteArray.empty, .int .i64 0, .agg #[.int .u8 0, .int .u8 0]], []⟩ 8 (by kernel_rfl) (by kernel_rfl) (by kernel_rfl) (by kernel_rfl)) ?_
  intro W base args ds gs before hval0 hW hcnd hsz0 _
  have hsz : (DataW.weightsEach Try.prog (Try.f3.params.toList ++ Rows.crcByteSpec.plain.varTypes Try.prog) (ds ++ gs)).all (· ≤ reachBytes) = true := hsz0
  have hval : ∀ (j : Nat) t v, Try.f3.params[j]? = some t → args[j]? = some v → Value.okWide Try.prog W .any base t v := hval0
  have hW' := hW
  obtain ⟨p, q, hA0, hV, rfl, hfz, hnd⟩ := hW
  have hA : DataW.TrodAll enc Try.prog W 0 (fun _ => true) true Try.f3.params.toList args.toList ds p := hA0
  rw [Try.params3] at hA hval hsz
  obtain ⟨v0, vs0, d0, ds0, p0, q0, hargs, rfl, rfl, h0, r0⟩ := trodAll_cons hA
  obtain ⟨v1, vs1, d1, ds1, p1, q1, rfl, rfl, rfl, h1, r1⟩ := trodAll_cons r0
  obtain ⟨v2, vs2, d2, ds2, p2, q2, rfl, rfl, rfl, h2, r2⟩ := trodAll_cons r1
  obtain ⟨rfl, rfl, rfl⟩ := trodAll_nil r2
  obtain rfl : args = #[v0, v1, v2] := by cases args; simp_all
  obtain ⟨rfl, rfl⟩ := trodVars_none hV
  have kk0 := h0
  have lt0 : ∀ x ∈ p0, x.block < W.heap.size := by obtain ⟨m, hm⟩ := kk0; exact DataW.trod_lt m _ _ _ hm
  have kk1 := h1
  have lt1 : ∀ x ∈ p1, x.block < W.heap.size := by obtain ⟨m, hm⟩ := kk1; exact DataW.trod_lt m _ _ _ hm
  have kk2 := h2
  have lt2 : ∀ x ∈ p2, x.block < W.heap.size := by obtain ⟨m, hm⟩ := kk2; exact DataW.trod_lt m _ _ _ hm
  obtain ⟨a0, rfl, rfl, rfl, y0⟩ := open_string Try.underlying9 (hval 0 9 v0 rfl rfl) h0
  have w0 : a0.size ≤ 140737488351232 := by
    have z := sized_string hsz (j := 0) (t := 9) rfl rfl
    rw [Array.length_toList] at z
    exact z
  obtain ⟨n, rfl⟩ := okWide_int Try.underlying3 (hval 1 3 v1 rfl rfl)
  obtain ⟨cs, rfl, hcs⟩ : ∃ cs, v2 = .agg cs ∧ cs.size = Try.prog.cellsOf 22 := by
    have h := hval 2 22 v2 rfl rfl
    simp only [Value.okWide, Try.underlying22] at h
    obtain ⟨cs, h1, h2, _⟩ := h
    exact ⟨cs, h1, h2⟩
  have k2 : Try.prog.cellsOf 22 = 2 := by kernel_rfl
  obtain ⟨x, y, hxy⟩ : ∃ x y : UInt8, cs = #[bv x, bv y] := by
    obtain ⟨fuel, hf⟩ := kk2
    obtain ⟨x, y, e⟩ := pair_open (by simp [Value.cells, hcs, k2]) hf
    exact ⟨x, y, by apply Array.ext'; simpa [Value.cells] using e⟩
  subst hxy
  clear hA0 hval0 hsz0 hsz
  have hrun := byte_run W a0.data.toList n x y (by rw [Array.length_toList]; exact w0)
  refine hrun.mono fun e W' ⟨he, kept⟩ => ?_
  have bel := kept.toBelow
  subst he
  exact ⟨_, rfl, _, _, _, [], _, [], hW', trodAll_mk1 (shut_bool Try.underlying4 _), (trodAll_cons_mk (Below.trod laidOut (by kernel_rfl) (of_decide_eq_true (by kernel_rfl)) kk0 bel lt0) (trodAll_cons_mk (Below.trod laidOut (by kernel_rfl) (of_decide_eq_true (by kernel_rfl)) kk1 bel lt1) (trodAll_cons_mk (Below.trod laidOut (by kernel_rfl) (of_decide_eq_true (by kernel_rfl)) kk2 bel lt2) trodAll_mk0))), rfl, bel.frame _, fun h => by cases h⟩

theorem byte_over : Rows.crcByteRow.holds Try.pinned (OpenSpec.ofChange Rows.crcByteSpec) :=
  OpenClaim.holds_of_wide 3 Try.f3 rfl rfl rfl rfl rfl rfl rfl ⟨rfl, rfl, rfl, rfl, rfl⟩ rfl rfl rfl rfl rfl (by kernel_rfl) Try.func3 (by kernel_rfl)
    (of_decide_eq_true (by kernel_rfl)) (by unfold Func.isWrapper; first | (rw [if_pos (by decide +kernel)]; kernel_rfl) | (rw [if_neg (by decide +kernel)]; exact ⟨rfl, rfl⟩))
    (fun os started H enc _ => byte_lifted os started H enc)
theorem CrcByte_proved : Rows.CrcByteSaid := byte_over
#print axioms CrcByte_proved
end Go.Proofs.Ythdigddbhlakmaa
