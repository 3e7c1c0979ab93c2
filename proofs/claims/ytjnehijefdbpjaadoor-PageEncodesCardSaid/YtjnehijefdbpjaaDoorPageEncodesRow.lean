/- The law 'oakumlaw06.PageEncodes' returns true for every input, and its arguments read behind the call as before: the given card PageEncodesCardSaid; its row lists two of Go's own tables as the program's text lays them (the tie is given). -/
import Derived.Test.YtjnehijefdbpjaaDoorCards
import Derived.Test.YtjnehijefdbpjaaDoorTie
import Derived.Test.YtjnehijefdbpjaaDoorBitD
import Derived.ProofKit
import Derived.OpenShut
import Derived.ShutString
import Derived.ChangeOld
import Derived.Below
import Derived.SizedLaws
import Derived.Carry
import Derived.Deep.Slices
import Derived.Lay
import Derived.LaidOnce
import Derived.SevenTiedAt
namespace Go.Proofs.YtjnehijefdbpjaaDoor
open Go.ChangeShapes Go.WideShapes Go.ChangeAt Go.RowKit
open Go.ChangeMaps (open_string shut_string)

theorem ownK : ownKnob Tryd.prog.godebug = none := by kernel_rfl
theorem laidOut : laidOutB Tryd.prog = true := by kernel_rfl
theorem spot_none {w : World} {a : Addr} {v : Value} (h : w.cell? a = some v) : a = ⟨a.block, a.off, none⟩ := by
  obtain ⟨b, o, s⟩ := a
  unfold World.cell? at h
  cases s with
  | none => rfl
  | some k => split at h <;> simp at h
theorem pick_list {α : Type} : ∀ {n : Nat} {p : Nat → α → Prop}, (∀ i, i < n → ∃ x, p i x) → ∃ l : List α, l.length = n ∧ ∀ i, (hi : i < l.length) → p i l[i]
  | 0, _, _ => ⟨[], rfl, fun i hi => absurd hi (Nat.not_lt_zero _)⟩
  | n + 1, p, h => by
    obtain ⟨l, hl, hp⟩ := pick_list (n := n) (p := p) (fun i hi => h i (by omega))
    obtain ⟨x, hx⟩ := h n (by omega)
    refine ⟨l ++ [x], by simp [hl], fun i hi => ?_⟩
    rcases Nat.lt_or_ge i l.length with h1 | h1
    · rw [List.getElem_append_left h1]
      exact hp i h1
    · have : i = n := by simp at hi; omega
      subst this
      simp [List.getElem_append_right h1, hl, hx]
theorem ints_open {H : Type} {enc : TypeId × Value → H} {w : World} {base : Nat} {spare : Nat → Bool} {held : Bool} {fuel : Nat} {v : Value} {y : DataW H × List MemPlace} (h : DataW.trod enc Tryd.prog w base spare held fuel 23 [v] = some y) :
    ∃ A zs c, v = .slice A (List.length zs) c ∧ Rd w w.heap.size 1 A zs.length (zs.map iv) := by
  rcases Go.Deep.open_slice1 Tryd.underlying23 (by kernel_rfl) h with ⟨hcs, _⟩ | ⟨a, len, cap, m, n, V, D, Pl, hcs, _, hl, hm, hmm, _, hx⟩
  · injection hcs with hcs
    exact ⟨none, [], 0, hcs, Rd.nil _ _ _ _⟩
  · injection hcs with hcs
    have hlm : len ≤ m := by rw [hmm]; split <;> omega
    obtain ⟨zs, hkl, hp⟩ := pick_list (n := len) (p := fun i (z : Int) => w.cell? (a.add i) = some (iv z)) (fun i hi => by
      obtain ⟨hc, ht⟩ := hx i (by omega)
      obtain ⟨b, hb, _⟩ := DataW.trod_int Tryd.underlying3 ht
      injection hb with hb
      exact ⟨b, by rw [hc, hb]; rfl⟩)
    subst hkl
    refine ⟨some a, zs, cap, hcs, by simp, fun hn => ?_⟩
    have h0 := hp 0 hn
    have ha : a = ⟨a.block, a.off, none⟩ := spot_none (by simpa [Addr.add] using h0)
    refine ⟨a.block, a.off, by rw [← ha], ?_, fun j u hu => ?_⟩
    · have := block_lt_of_cell h0
      simpa [Addr.add] using this
    · have hj : j < zs.length := by
        have := (List.getElem?_eq_some_iff.1 hu).1
        simpa using this
      have hi2 := hp j hj
      rw [ha, Addr.add_lit] at hi2
      rw [hi2, ← hu]
      simp [hj]

set_option maxRecDepth 100000 in
theorem encodes_lifted (os : Os) (started : os.Started) (H : Type) (enc : TypeId × Value → H) :
    ReturnsInHanded {} Tryd.checked os 3 .any (fun w args => (Rows.pageEncodesSpec.pre enc Tryd.prog Tryd.f3 [] false w args ∧ laidMetH Tryd.prog Rows.pageEncodesRow.laid w) ∧ sizedMet enc Tryd.prog Tryd.f3 (OpenSpec.ofChange Rows.pageEncodesSpec) false w args) (Rows.pageEncodesSpec.post enc Tryd.prog Tryd.f3 false true false false) := by
  refine returnsInHanded_of_change_and (C := Tryd.checked) (X := fun w _ => laidMetH Tryd.prog Rows.pageEncodesRow.laid w) (fun _ _ _ hh h => h.of_heap hh) ownK started (by kernel_rfl) Tryd.func3
    (ChangeSpec.witness_shaped (enc := enc) (C := Tryd.checked) (os := os) (X := fun w _ => laidMetH Tryd.prog Rows.pageEncodesRow.laid w) false (World.laidAll Tryd.prog os Rows.pageEncodesRow.laid) #[.int .u32 0, .slice none 0 0] 8 (World.laidAll_os _ _ _)
      (World.shaped_of_ZipB (by kernel_rfl) (by kernel_rfl)) (by kernel_rfl) (by kernel_rfl) (by kernel_rfl)
      (by rw [MakeChecks.laidMetH_plain _ _ _ (by kernel_rfl)]; exact laidMet_laidAll _ (by kernel_rfl) (by kernel_rfl))) ?_
  intro W base args ds gs before hval0 hW hcnd hsz0 _ _
  have hsz : (DataW.weightsEach Tryd.prog (Tryd.f3.params.toList ++ Rows.pageEncodesSpec.plain.varTypes Tryd.prog) (ds ++ gs)).all (· ≤ reachBytes) = true := hsz0
  have hval : ∀ (j : Nat) t v, Tryd.f3.params[j]? = some t → args[j]? = some v → Value.okWide Tryd.prog W .any base t v := hval0
  have hW' := hW
  obtain ⟨p, q, hA0, hV, rfl, hfz, hnd⟩ := hW
  have hA : DataW.TrodAll enc Tryd.prog W 0 (fun _ => true) true Tryd.f3.params.toList args.toList ds p := hA0
  rw [Tryd.params3] at hA hval hsz
  obtain ⟨v0, vs0, d0, ds0, p0, q0, hargs, rfl, rfl, h0, r0⟩ := trodAll_cons hA
  obtain ⟨v1, vs1, d1, ds1, p1, q1, rfl, rfl, rfl, h1, r1⟩ := trodAll_cons r0
  obtain ⟨rfl, rfl, rfl⟩ := trodAll_nil r1
  obtain rfl : args = #[v0, v1] := by cases args; simp_all
  obtain ⟨rfl, rfl⟩ := trodVars_none hV
  have kk0 := h0
  have lt0 : ∀ x ∈ p0, x.block < W.heap.size := by obtain ⟨m, hm⟩ := kk0; exact DataW.trod_lt m _ _ _ hm
  have kk1 := h1
  have lt1 : ∀ x ∈ p1, x.block < W.heap.size := by obtain ⟨m, hm⟩ := kk1; exact DataW.trod_lt m _ _ _ hm
  obtain ⟨n, rfl, hn⟩ : ∃ n : Nat, v0 = .int .u32 (n : Int) ∧ n < 4294967296 := by
    obtain ⟨n, rfl⟩ := okWide_int Tryd.underlying22 (hval 0 22 v0 rfl rfl)
    obtain ⟨fuel, hf⟩ := kk0
    obtain ⟨m, e, _, wf⟩ := DataW.trod_int Tryd.underlying22 hf
    simp only [Value.cells, List.cons.injEq, and_true] at e
    injection e with _ e
    subst e
    have bb := bounds_u32 wf
    exact ⟨n.toNat, by rw [Int.toNat_of_nonneg (by omega)], by omega⟩
  obtain ⟨A1, l, c1, rfl, R1⟩ : ∃ A zs c, v1 = .slice A (List.length zs) c ∧ Rd W W.heap.size 1 A zs.length (zs.map iv) := by
    obtain ⟨A, l, c, e⟩ := okWide_slice Tryd.underlying23 (hval 1 23 v1 rfl rfl)
    subst e
    obtain ⟨fuel, hf⟩ := kk1
    exact ints_open hf
  clear hA0 hval0 hsz0 hsz
  have hrun := encodes_run W n A1 c1 l R1 hn
  refine hrun.mono fun e W' ⟨he, kept⟩ => ?_
  have bel := kept.toBelow
  subst he
  exact ⟨_, rfl, _, _, _, [], _, [], hW', trodAll_mk1 (shut_bool Tryd.underlying4 _), (trodAll_cons_mk (Below.trod laidOut (by kernel_rfl) (of_decide_eq_true (by kernel_rfl)) kk0 bel lt0) (trodAll_cons_mk (Below.trod laidOut (by kernel_rfl) (of_decide_eq_true (by kernel_rfl)) kk1 bel lt1) trodAll_mk0)), rfl, bel.frame _, fun h => by cases h⟩

theorem encodes_over : Rows.pageEncodesRow.holds Tryd.pinned (OpenSpec.ofChange Rows.pageEncodesSpec) :=
  OpenClaim.holds_of_wide 3 Tryd.f3 rfl rfl rfl rfl rfl rfl rfl ⟨rfl, rfl, rfl, rfl, rfl⟩ rfl rfl rfl rfl rfl (by kernel_rfl) Tryd.func3 (by kernel_rfl)
    (of_decide_eq_true (by kernel_rfl)) (by unfold Func.isWrapper; first | (rw [if_pos (by decide +kernel)]; kernel_rfl) | (rw [if_neg (by decide +kernel)]; exact ⟨rfl, rfl⟩))
    (fun os started H enc _ => encodes_lifted os started H enc)
theorem encodes_card : Claim7.holds Tryd.pinned (.plain (OpenSpec.ofChange Rows.pageEncodesSpec)) Rows.pageEncodesCard :=
  Claim7.holds_tied_plain_at .later [] [.data, .pinned] true (true, "0b337010b6675e74c86bb0bfa6d8bd787e39c98fa842a1e2544ed47ab9b34ddb") true
    encodes_over (fun _ h => by cases h) (by kernel_rfl) (fun _ h => by cases h) pageEncodes_row_tie rfl ⟨rfl, rfl⟩ (by kernel_rfl) rfl
    (fun f fn hf hfn => by
      obtain rfl : f = 3 := Option.some.inj ((show Tryd.prog.funcNamed "oakum/oakumlaw06.PageEncodes" = some 3 by kernel_rfl).symm.trans hf) |>.symm
      obtain rfl : fn = Tryd.f3 := (Option.some.inj (Tryd.func3.symm.trans hfn)).symm
      exact ⟨by kernel_rfl, fun j t ht => by
        rw [Tryd.params3] at ht
        have hm : t ∈ [22, 23] := by simpa using Array.mem_of_getElem? ht
        have hall : ([22, 23].all fun u => !Tryd.prog.wantsStandIn u) = true := by kernel_rfl
        exact (show Tryd.prog.wantsStandIn t = false by simpa using List.all_eq_true.1 hall t hm)⟩)
    (by kernel_rfl)
theorem PageEncodes_proved : Rows.PageEncodesCardSaid := encodes_card
#print axioms PageEncodes_proved
end Go.Proofs.YtjnehijefdbpjaaDoor
