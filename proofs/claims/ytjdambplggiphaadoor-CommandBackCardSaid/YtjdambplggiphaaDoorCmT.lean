/- Commands: what an argument and the listed variables hold. -/
import Derived.Test.YtjdambplggiphaaDoorCmR
import Derived.Test.YtjdambplggiphaaDoorRows
import Derived.ProofKit
import Derived.OpenShut
import Derived.ShutString
import Derived.ChangeOld
import Derived.Below
import Derived.SizedLaws
import Derived.Carry
import Derived.Lib.SmallJoins
import Derived.Lib.LaidTab
import Derived.Stop.LaidErr
import Derived.MakeChecks
import Derived.Handed
namespace Go.Proofs.YtjdambplggiphaaDoor
open Go.ChangeShapes Go.WideShapes Go.ChangeAt Go.RowKit

theorem star_err : "*" ++ "errors.errorString" = "*errors.errorString" := by decide
theorem row_err (u : TypeId) (h : Tryd.prog.typeName? 3 u = some "*errors.errorString") : u = 111 :=
  typeName_ptr_named (nm := "errors.errorString") (by rw [star_err]; kernel_rfl) (by kernel_rfl) (by decide) u (by rw [star_err]; exact h)
theorem g_tab : Tryd.prog.globalNamed "internal/strconv.uint64pow10" = some 0 := by kernel_rfl
theorem g_es : Tryd.prog.globalNamed "strconv.ErrSyntax" = some 2 := by kernel_rfl
theorem g_er : Tryd.prog.globalNamed "strconv.ErrRange" = some 3 := by kernel_rfl
set_option maxRecDepth 100000 in
theorem laid_of {W : World} (h0 : laidMetH Tryd.prog Rows.commandPrintsRow.laid W) (hS : W.ShapedOpen Tryd.prog) : Laid W := by
  rw [MakeChecks.laidMetH_plain _ _ _ (by kernel_rfl)] at h0
  have h : laidMet Tryd.prog [("math/bits.deBruijn32tab", Rows.laid_math_bits_deBruijn32tab), ("math/bits.deBruijn64tab", Rows.laid_math_bits_deBruijn64tab), ("internal/strconv.uint64pow10", Rows.laid_internal_strconv_uint64pow10), ("unicode/utf8.acceptRanges", Rows.laid_unicode_utf8_acceptRanges), ("strconv.ErrRange", Rows.laid_strconv_ErrRange), ("strconv.ErrSyntax", Rows.laid_strconv_ErrSyntax), ("unicode/utf8.first", Rows.laid_unicode_utf8_first)] W := h0
  clear h0
  have h2 := h.tail.tail
  have h4 := h2.tail.tail
  have h5 := h4.tail
  obtain ⟨a4, _, v4, _⟩ := laid_sentinel h4 g_er (ti := 54) (by kernel_rfl) Tryd.underlying54 row_err Tryd.underlying111 Tryd.underlying113 rfl rfl Tryd.underlying9 (by kernel_rfl) (by kernel_rfl)
  obtain ⟨a5, _, v5, _⟩ := laid_sentinel h5 g_es (ti := 54) (by kernel_rfl) Tryd.underlying54 row_err Tryd.underlying111 Tryd.underlying113 rfl rfl Tryd.underlying9 (by kernel_rfl) (by kernel_rfl)
  obtain ⟨m, hm⟩ := Tryd.laysM146.s1_3 W hS
  exact ⟨Lib.tabIs_of_head (k := .u64) (zs := Lib.pow10Tab) g_tab (by kernel_rfl) Tryd.underlying93 Tryd.underlying74 (by kernel_rfl) (by kernel_rfl) h2, ⟨_, _, v5⟩, ⟨_, _, v4⟩, 1, m, rfl, hm⟩

section
variable {H : Type} {enc : TypeId × Value → H} {w : World} {base : Nat} {spare : Nat → Bool} {held : Bool}
theorem array5 {α : Type} {cs : Array α} (h : cs.size = 5) : ∃ c0 c1 c2 c3 c4, cs = #[c0, c1, c2, c3, c4] := by
  obtain ⟨l⟩ := cs
  match l, h with
  | [c0, c1, c2, c3, c4], _ => exact ⟨c0, c1, c2, c3, c4, rfl⟩
set_option maxRecDepth 100000 in
theorem cm_arg {r : Reach} {b0 : Nat} {v : Value} {d : DataW H} {p : List MemPlace} (hv : Value.okWide Tryd.prog w r b0 23 v) (h : DataW.Trod enc Tryd.prog w base spare held 23 v d p) :
    ∃ c : Cm, wfC c ∧ v = cmV c ∧ d = .agg [.lit (.string c.op), .lit (.int .i64 c.id), .lit (.int .i64 c.at_), .lit (.int .i64 c.n), .lit (.string c.data)] := by
  obtain ⟨cs, rfl, hsz⟩ := okWide_struct Tryd.underlying23 hv
  obtain ⟨c0, c1, c2, c3, c4, rfl⟩ := array5 (hsz.trans (by kernel_rfl))
  obtain ⟨fuel, hf⟩ := h
  obtain ⟨xs, n, _, hx, hl, hlen, hg⟩ := DataW.trod_struct Tryd.underlying23 hf
  match xs, hlen with
  | [y0, y1, y2, y3, y4], _ =>
    have k9 : Tryd.prog.cellsOf 9 = 1 := by kernel_rfl
    have k3 : Tryd.prog.cellsOf 3 = 1 := by kernel_rfl
    have t0 := hg 0 _ rfl
    have t1 := hg 1 _ rfl
    have t2 := hg 2 _ rfl
    have t3 := hg 3 _ rfl
    have t4 := hg 4 _ rfl
    simp [Value.cells, k9, k3] at t0 t1 t2 t3 t4
    obtain ⟨s0, e0, z0, _⟩ := DataW.trod_string Tryd.underlying9 t0
    obtain ⟨n1, e1, z1, w1⟩ := DataW.trod_int Tryd.underlying3 t1
    obtain ⟨n2, e2, z2, w2⟩ := DataW.trod_int Tryd.underlying3 t2
    obtain ⟨n3, e3, z3, w3⟩ := DataW.trod_int Tryd.underlying3 t3
    obtain ⟨s4, e4, z4, _⟩ := DataW.trod_string Tryd.underlying9 t4
    injection e0 with e0
    injection e1 with e1
    injection e2 with e2
    injection e3 with e3
    injection e4 with e4
    subst e0 e1 e2 e3 e4 z0 z1 z2 z3 z4
    simp only [Prod.mk.injEq] at hx
    obtain ⟨hx, _⟩ := hx
    exact ⟨⟨s0.data.toList, n1, n2, n3, s4.data.toList⟩, ⟨bounds_i64 w1, bounds_i64 w2, bounds_i64 w3⟩, rfl, hx⟩
end
theorem sized_cm {H : Type} {ts : List TypeId} {ds : List (DataW H)} (h : (DataW.weightsEach Tryd.prog ts ds).all (· ≤ reachBytes) = true) {j : Nat} {c : Cm} (ht : ts[j]? = some 23) (hd : ds[j]? = some (.agg [.lit (.string c.op), .lit (.int .i64 c.id), .lit (.int .i64 c.at_), .lit (.int .i64 c.n), .lit (.string c.data)])) : c.op.length ≤ 140737488351232 ∧ c.data.length ≤ 140737488351232 := by
  have k : ∀ n ∈ [c.op.length, c.data.length], n ∈ DataW.weights Tryd.prog 23 (.agg [.lit (.string c.op), .lit (.int .i64 c.id), .lit (.int .i64 c.at_), .lit (.int .i64 c.n), .lit (.string c.data)] : DataW H) := by
    intro n hn
    rw [DataW.weights, Tryd.underlying23]
    simpa [DataW.weightsEach, DataW.weights] using hn
  have h1 := List.all_eq_true.1 h _ (DataW.weights_mem_each ht hd c.op.length (k _ (by simp)))
  have h2 := List.all_eq_true.1 h _ (DataW.weights_mem_each ht hd c.data.length (k _ (by simp)))
  have z2 : reachBytes = 140737488351232 := rfl
  rw [z2] at h1 h2
  exact ⟨of_decide_eq_true h1, of_decide_eq_true h2⟩
section
variable {H : Type} {enc : TypeId × Value → H}
theorem handed_shaped {a : Assume} {C : Checked} {os : Os} {f : FuncId} {fn : Func} {s : ChangeSpec} {conds : List PathCond} {apart fresh handsOn again : Bool} {X : World → Array Value → Prop}
    (hX : ∀ (w w' : World) (args : Array Value), w.heap = w'.heap → X w args → X w' args)
    (own : ownKnob C.prog.godebug = none) (started : os.Started) (noInit : C.prog.inits.idxOf? f = none) (hfn : C.prog.funcs[f]? = some fn)
    (witness : ∃ (w : World) (tape : Tape) (i : Input), w.os = os ∧ (w.forCall tape i).Shaped C.prog ∧ i.vars = [] ∧ Input.okWide C.prog (w.forCall tape i) .any w.heap.size f i ∧
      ((s.pre enc C.prog fn conds apart (w.forCall tape i).memory i.args ∧ X (w.forCall tape i).memory i.args) ∧ sizedMet enc C.prog fn (OpenSpec.ofChange s) apart (w.forCall tape i).memory i.args) ∧ a.holds C.prog (lone (Frame.enter C.prog f i.args .normal) [] (w.forCall tape i)))
    (contract : ∀ (W : World) (base : Nat) (args : Array Value) (ds gs : List (DataW H)) (before : List MemPlace),
      (∀ (j : Nat) t v, fn.params[j]? = some t → args[j]? = some v → Value.okWide C.prog W .any base t v) →
      DataW.Whole enc C.prog fn.params.toList s.vars apart W args.toList ds gs before →
      (DataW.weightsEach C.prog (fn.params.toList ++ s.plain.varTypes C.prog) (ds ++ gs)).all (· ≤ reachBytes) = true → X W args → W.ShapedOpen C.prog →
      Calls C.prog f args W fun e W' => ∃ v, e = .returned v ∧ s.post enc C.prog fn apart fresh handsOn again W args v W') :
    ReturnsInHanded a C os f .any (fun w args => (s.pre enc C.prog fn conds apart w args ∧ X w args) ∧ sizedMet enc C.prog fn (OpenSpec.ofChange s) apart w args) (s.post enc C.prog fn apart fresh handsOn again) := by
  refine returnsInHanded_of_calls own started noInit witness ?_
  intro w tape i _ hsh _ hok hpre hholds
  obtain ⟨_, _, _, fn', hfn', _, _, _, _, hval⟩ := hok
  have e : fn' = fn := Option.some.inj (hfn'.symm.trans hfn)
  subst e
  obtain ⟨⟨⟨ds, gs, before, hw, hc⟩, hx⟩, hz⟩ := hpre
  have hw' := DataW.Whole.of_heap (w' := w.forCall tape i) (by rfl) hw
  refine (contract (w.forCall tape i) w.heap.size i.args ds gs before hval hw' (hz.weights hw) (hX _ _ _ (by rfl) hx) hsh).mono fun e W' ⟨v, he, hp⟩ => ?_
  subst he
  exact ChangeSpec.post_blind hp
end
end Go.Proofs.YtjdambplggiphaaDoor
