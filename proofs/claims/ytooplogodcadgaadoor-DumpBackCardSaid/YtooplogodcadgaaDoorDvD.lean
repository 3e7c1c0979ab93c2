/- Dumps: what the arguments and the listed variables hold. -/
import Derived.Test.YtooplogodcadgaaDoorDvC
import Derived.Test.YtooplogodcadgaaDoorRows
import Derived.ProofKit
import Derived.OpenShut
import Derived.ShutString
import Derived.ChangeOld
import Derived.Below
import Derived.SizedLaws
import Derived.Carry
import Derived.Deep.Slices
import Derived.Lib.SmallJoins
import Derived.Lib.LaidTab
import Derived.Stop.LaidErr
import Derived.MakeChecks
import Derived.Handed
namespace Go.Proofs.YtooplogodcadgaaDoor
open Go.ChangeShapes Go.WideShapes Go.ChangeAt Go.RowKit

theorem spot_none {w : World} {a : Addr} {v : Value} (h : w.cell? a = some v) : a = ⟨a.block, a.off, none⟩ := by
  obtain ⟨b, o, s⟩ := a
  unfold World.cell? at h
  cases s with
  | none => rfl
  | some k => split at h <;> simp at h
theorem pick_list {α : Type} : ∀ {n : Nat} {p : Nat → α → Prop}, (∀ i, i < n → ∃ x, p i x) → ∃ l : List α, l.length = n ∧ ∀ i, (hi : i < l.length) → p i l[i]
  | 0, _, _ => ⟨[], rfl, fun i hi => absurd hi (Nat.not_lt_zero _)⟩
  | n + 1, p, h => by
    obtain ⟨l, hl, hp⟩ := pick_list (n := n) (p := p) (fun i hi => h i (by omega))
    obtain ⟨x, hx⟩ := h n (by omega)
    refine ⟨l ++ [x], by simp [hl], fun i hi => ?_⟩
    rcases Nat.lt_or_ge i l.length with h1 | h1
    · rw [List.getElem_append_left h1]
      exact hp i h1
    · have : i = n := by simp at hi; omega
      subst this
      simp [List.getElem_append_right h1, hl, hx]
theorem star_err : "*" ++ "errors.errorString" = "*errors.errorString" := by decide
theorem row_err (u : TypeId) (h : Tryd.prog.typeName? 3 u = some "*errors.errorString") : u = 149 :=
  typeName_ptr_named (nm := "errors.errorString") (by rw [star_err]; kernel_rfl) (by kernel_rfl) (by decide) u (by rw [star_err]; exact h)
theorem g_tab : Tryd.prog.globalNamed "internal/strconv.uint64pow10" = some 3 := by kernel_rfl
theorem g_es : Tryd.prog.globalNamed "strconv.ErrSyntax" = some 4 := by kernel_rfl
theorem g_er : Tryd.prog.globalNamed "strconv.ErrRange" = some 5 := by kernel_rfl
set_option maxRecDepth 100000 in
theorem laid_of {W : World} (h0 : laidMetH Tryd.prog Rows.dumpLinesRow.laid W) (hS : W.ShapedOpen Tryd.prog) : Laid W := by
  rw [MakeChecks.laidMetH_plain _ _ _ (by kernel_rfl)] at h0
  have h : laidMet Tryd.prog [("math/bits.deBruijn32tab", Rows.laid_math_bits_deBruijn32tab), ("math/bits.deBruijn64tab", Rows.laid_math_bits_deBruijn64tab), ("internal/strconv.uint64pow10", Rows.laid_internal_strconv_uint64pow10), ("unicode/utf8.acceptRanges", Rows.laid_unicode_utf8_acceptRanges), ("strconv.ErrRange", Rows.laid_strconv_ErrRange), ("strconv.ErrSyntax", Rows.laid_strconv_ErrSyntax), ("unicode/utf8.first", Rows.laid_unicode_utf8_first)] W := h0
  clear h0
  have h2 := h.tail.tail
  have h4 := h2.tail.tail
  have h5 := h4.tail
  obtain ⟨a4, _, v4, _⟩ := laid_sentinel h4 g_er (ti := 98) (by kernel_rfl) Tryd.underlying98 row_err Tryd.underlying149 Tryd.underlying151 rfl rfl Tryd.underlying9 (by kernel_rfl) (by kernel_rfl)
  obtain ⟨a5, _, v5, _⟩ := laid_sentinel h5 g_es (ti := 98) (by kernel_rfl) Tryd.underlying98 row_err Tryd.underlying149 Tryd.underlying151 rfl rfl Tryd.underlying9 (by kernel_rfl) (by kernel_rfl)
  obtain ⟨m, hm⟩ := Tryd.laysM146.s1_3 W hS
  exact ⟨Lib.tabIs_of_head (k := .u64) (zs := Lib.pow10Tab) g_tab (by kernel_rfl) Tryd.underlying137 Tryd.underlying123 (by kernel_rfl) (by kernel_rfl) h2, ⟨_, _, v5⟩, ⟨_, _, v4⟩, 0, m, rfl, hm⟩

section
variable {H : Type} {enc : TypeId × Value → H} {w : World} {base : Nat} {spare : Nat → Bool} {held : Bool}
theorem en_open {fuel : Nat} {cs : List Value} {x : DataW H × List MemPlace} (hcs : cs.length = 2) (h : DataW.trod enc Tryd.prog w base spare held fuel 56 cs = some x) : ∃ a : En, cs = entC a := by
  match cs, hcs with
  | [c0, c1], _ =>
    obtain ⟨xs, m, _, _, _, hl, hg⟩ := DataW.trod_struct Tryd.underlying56 h
    match xs, hl with
    | [y0, y1], _ =>
      have k2 : Tryd.prog.cellsOf 3 = 1 := by kernel_rfl
      have g0 := hg 0 _ rfl
      have g1 := hg 1 _ rfl
      simp [k2] at g0 g1
      obtain ⟨n0, e0, _, w0⟩ := DataW.trod_int Tryd.underlying3 g0
      obtain ⟨n1, e1, _, w1⟩ := DataW.trod_int Tryd.underlying3 g1
      injection e0 with e0
      injection e1 with e1
      exact ⟨⟨n0, n1⟩, by rw [entC, e0, e1]⟩
theorem ents_open {fuel : Nat} {v : Value} {y : DataW H × List MemPlace} (h : DataW.trod enc Tryd.prog w base spare held fuel 52 [v] = some y) :
    ∃ l : List En, ERd w v l := by
  rcases Go.Deep.open_slice Tryd.underlying52 h with ⟨hcs, hy⟩ | ⟨a, len, cap, m, n, D, Pl, hcs, _, hl, hm, hmm, hy, hx⟩
  · injection hcs with hcs
    exact ⟨[], none, 0, hcs, Rd.nil _ _ _ _⟩
  · injection hcs with hcs
    have hlm : len ≤ m := by rw [hmm]; split <;> omega
    have k5 : Tryd.prog.cellsOf 56 = 2 := by kernel_rfl
    rw [k5] at hx
    obtain ⟨l, hll, hp⟩ := pick_list (n := len) (p := fun i (x : En) => ∀ j, j < 2 → w.cell? ((a.add (i * 2)).add j) = (entC x)[j]?) (fun i hi => by
      obtain ⟨cs', hc, ht⟩ := hx i (by omega)
      obtain ⟨_, hlen, hat⟩ := World.cells?_some hc
      obtain ⟨x, rfl⟩ := en_open hlen ht
      exact ⟨x, hat⟩)
    subst hll
    refine ⟨l, some a, cap, hcs, by rw [flatMap_len 2 entC entC_len], fun hn => ?_⟩
    have h0 := (hp 0 hn) 0 (by omega)
    have ha : a = ⟨a.block, a.off, none⟩ := spot_none (v := .int .i64 l[0].o) (by simpa [Addr.add, entC] using h0)
    have hb : a.block < w.heap.size := block_lt_of_cell (a := a) (v := .int .i64 l[0].o) (by simpa [Addr.add, entC] using h0)
    refine ⟨a.block, a.off, by rw [← ha], hb, fun j u hu => ?_⟩
    have hj : j < l.length * 2 := by
      have := (List.getElem?_eq_some_iff.1 hu).1
      rwa [flatMap_len 2 entC entC_len] at this
    have e : j = j / 2 * 2 + j % 2 := by omega
    have h2 := (hp (j / 2) (by omega)) (j % 2) (by omega)
    rw [ha] at h2
    simp only [Addr.add_lit] at h2
    rw [e, flatMap_at 2 entC entC_len l (j / 2) (j % 2) (by omega) (by omega)] at hu
    rw [hu] at h2
    rw [show a.off + j = a.off + j / 2 * 2 + j % 2 by omega]
    exact h2
set_option maxRecDepth 100000 in
theorem line_open {fuel : Nat} {cs : List Value} {x : DataW H × List MemPlace} (hcs : cs.length = 8) (h : DataW.trod enc Tryd.prog w base spare held fuel 54 cs = some x) : ∃ p : Pr, cs = pc p ∧ in32 p.1.gen = true ∧ ERd w p.2 p.1.ents := by
  match cs, hcs with
  | [c0, c1, c2, c3, c4, c5, c6, c7], _ =>
    obtain ⟨xs, m, _, _, _, hl, hg⟩ := DataW.trod_struct Tryd.underlying54 h
    match xs, hl with
    | [y0, y1, y2, y3, y4], _ =>
      have k1 : Tryd.prog.cellsOf 3 = 1 := by kernel_rfl
      have k4 : Tryd.prog.cellsOf 51 = 4 := by kernel_rfl
      have kb : Tryd.prog.cellsOf 4 = 1 := by kernel_rfl
      have ke : Tryd.prog.cellsOf 52 = 1 := by kernel_rfl
      have g0 := hg 0 _ rfl
      have g1 := hg 1 _ rfl
      have g2 := hg 2 _ rfl
      have g3 := hg 3 _ rfl
      have g4 := hg 4 _ rfl
      simp [k1, k4, kb, ke] at g0 g1 g2 g3 g4
      obtain ⟨n0, e0, _, _⟩ := DataW.trod_int Tryd.underlying3 g0
      obtain ⟨n2, e2, _, _⟩ := DataW.trod_int Tryd.underlying3 g2
      obtain ⟨b3, e3, _⟩ := DataW.trod_bool Tryd.underlying4 g3
      obtain ⟨es, hE⟩ := ents_open g4
      obtain ⟨zs, m2, _, _, _, hl2, hg2⟩ := DataW.trod_struct Tryd.underlying51 g1
      match zs, hl2 with
      | [z0, z1, z2], _ =>
        have ks : Tryd.prog.cellsOf 46 = 1 := by kernel_rfl
        have kx : Tryd.prog.cellsOf 48 = 2 := by kernel_rfl
        have ku : Tryd.prog.cellsOf 49 = 1 := by kernel_rfl
        have f0 := hg2 0 _ rfl
        have f1 := hg2 1 _ rfl
        have f2 := hg2 2 _ rfl
        simp [ks, kx, ku] at f0 f1 f2
        obtain ⟨s0, u0, _, _⟩ := DataW.trod_int Tryd.underlying46 f0
        obtain ⟨s2, u2, _, w2⟩ := DataW.trod_int Tryd.underlying49 f2
        obtain ⟨vs, m3, _, _, _, hl3, hg3⟩ := DataW.trod_struct Tryd.underlying48 f1
        match vs, hl3 with
        | [v0, v1], _ =>
          have q0 := hg3 0 _ rfl
          have q1 := hg3 1 _ rfl
          simp [k1] at q0 q1
          obtain ⟨t0, r0, _, _⟩ := DataW.trod_int Tryd.underlying3 q0
          obtain ⟨t1, r1, _, _⟩ := DataW.trod_int Tryd.underlying3 q1
          injection e0 with e0
          injection e2 with e2
          injection e3 with e3
          injection u0 with u0
          injection u2 with u2
          injection r0 with r0
          injection r1 with r1
          refine ⟨(⟨n0, t0, t1, s2, n2, s0, b3, es⟩, c7), ?_, ?_, hE⟩
          · rw [e0, u0, r0, r1, u2, e2, e3]
            rfl
          · have hb := bounds_u32 w2
            rw [in32_iff]
            show 0 ≤ s2 ∧ s2 ≤ 4294967295
            omega
set_option maxRecDepth 100000 in
theorem lines_open {fuel : Nat} {v : Value} {y : DataW H × List MemPlace} (h : DataW.trod enc Tryd.prog w base spare held fuel 24 [v] = some y) :
    ∃ A ps c, v = .slice A (List.length ps) c ∧ LRd w A ps ∧ (∀ p ∈ ps, in32 p.1.gen = true) ∧ ps.length ≤ maxLen := by
  rcases Go.Deep.open_slice Tryd.underlying24 h with ⟨hcs, hy⟩ | ⟨a, len, cap, m, n, D, Pl, hcs, _, hl, hm, hmm, hy, hx⟩
  · injection hcs with hcs
    exact ⟨none, [], 0, hcs, ⟨Rd.nil _ _ _ _, fun _ h => by cases h⟩, (fun _ h => by cases h), Nat.zero_le _⟩
  · injection hcs with hcs
    have hlm : len ≤ m := by rw [hmm]; split <;> omega
    have k5 : Tryd.prog.cellsOf 54 = 8 := by kernel_rfl
    rw [k5] at hx
    obtain ⟨l, hll, hp⟩ := pick_list (n := len) (p := fun i (x : Pr) => (in32 x.1.gen = true ∧ ERd w x.2 x.1.ents) ∧ ∀ j, j < 8 → w.cell? ((a.add (i * 8)).add j) = (pc x)[j]?) (fun i hi => by
      obtain ⟨cs', hc, ht⟩ := hx i (by omega)
      obtain ⟨_, hlen, hat⟩ := World.cells?_some hc
      obtain ⟨x, rfl, hg, hE⟩ := line_open hlen ht
      exact ⟨x, ⟨hg, hE⟩, hat⟩)
    subst hll
    refine ⟨some a, l, cap, hcs, ⟨⟨by rw [flatMap_len 8 pc pc_len], fun hn => ?_⟩, fun x hxl => ?_⟩, fun x hxl => ?_, Nat.le_trans hl hm⟩
    · have h0 := (hp 0 hn).2 0 (by omega)
      have ha : a = ⟨a.block, a.off, none⟩ := spot_none (v := .int .i64 l[0].1.id) (by simpa [Addr.add, pc, lineC] using h0)
      have hb : a.block < w.heap.size := block_lt_of_cell (a := a) (v := .int .i64 l[0].1.id) (by simpa [Addr.add, pc, lineC] using h0)
      refine ⟨a.block, a.off, by rw [← ha], hb, fun j u hu => ?_⟩
      have hj : j < l.length * 8 := by
        have := (List.getElem?_eq_some_iff.1 hu).1
        rwa [flatMap_len 8 pc pc_len] at this
      have e : j = j / 8 * 8 + j % 8 := by omega
      have h2 := (hp (j / 8) (by omega)).2 (j % 8) (by omega)
      rw [ha] at h2
      simp only [Addr.add_lit] at h2
      rw [e, flatMap_at 8 pc pc_len l (j / 8) (j % 8) (by omega) (by omega)] at hu
      rw [hu] at h2
      rw [show a.off + j = a.off + j / 8 * 8 + j % 8 by omega]
      exact h2
    · obtain ⟨i, hi, rfl⟩ := List.getElem_of_mem hxl
      exact (hp i hi).1.2
    · obtain ⟨i, hi, rfl⟩ := List.getElem_of_mem hxl
      exact (hp i hi).1.1
theorem array4 {α : Type} {cs : Array α} (h : cs.size = 4) : ∃ c0 c1 c2 c3, cs = #[c0, c1, c2, c3] := by
  obtain ⟨l⟩ := cs
  match l, h with
  | [c0, c1, c2, c3], _ => exact ⟨c0, c1, c2, c3, rfl⟩
set_option maxRecDepth 100000 in
theorem rep_arg {r : Reach} {b0 : Nat} {v : Value} {d : DataW H} {p : List MemPlace} (hv : Value.okWide Tryd.prog w r b0 26 v) (h : DataW.Trod enc Tryd.prog w base spare held 26 v d p) :
    ∃ a b c A ps cA, v = repV a b c (.slice A (List.length ps) cA) ∧ LRd w A ps ∧ (∀ p ∈ ps, in32 p.1.gen = true) ∧ ps.length ≤ maxLen := by
  obtain ⟨cs, rfl, hsz⟩ := okWide_struct Tryd.underlying26 hv
  obtain ⟨c0, c1, c2, c3, rfl⟩ := array4 (hsz.trans (by kernel_rfl))
  obtain ⟨fuel, hf⟩ := h
  obtain ⟨xs, n, _, hx, hl, hlen, hg⟩ := DataW.trod_struct Tryd.underlying26 hf
  match xs, hlen with
  | [y0, y1], _ =>
    have k3 : Tryd.prog.cellsOf 23 = 3 := by kernel_rfl
    have k1 : Tryd.prog.cellsOf 24 = 1 := by kernel_rfl
    have g0 := hg 0 _ rfl
    have g1 := hg 1 _ rfl
    simp [Value.cells, k3, k1] at g0 g1
    obtain ⟨A, ps, cA, e3, hL, hG, hN⟩ := lines_open g1
    obtain ⟨zs, m2, _, _, _, hl2, hg2⟩ := DataW.trod_struct Tryd.underlying23 g0
    match zs, hl2 with
    | [z0, z1, z2], _ =>
      have ki : Tryd.prog.cellsOf 3 = 1 := by kernel_rfl
      have f0 := hg2 0 _ rfl
      have f1 := hg2 1 _ rfl
      have f2 := hg2 2 _ rfl
      simp [ki] at f0 f1 f2
      obtain ⟨a, e0, _, _⟩ := DataW.trod_int Tryd.underlying3 f0
      obtain ⟨b, e1, _, _⟩ := DataW.trod_int Tryd.underlying3 f1
      obtain ⟨c, e2, _, _⟩ := DataW.trod_int Tryd.underlying3 f2
      injection e0 with e0
      injection e1 with e1
      injection e2 with e2
      exact ⟨a, b, c, A, ps, cA, by rw [e0, e1, e2, e3]; rfl, hL, hG, hN⟩
theorem strs_open {fuel : Nat} {v : Value} {y : DataW H × List MemPlace} (h : DataW.trod enc Tryd.prog w base spare held fuel 29 [v] = some y) :
    ∃ A l c, v = .slice A (List.length l) c ∧ TRd w A l ∧ l.length ≤ c ∧ l.length ≤ maxLen ∧ ∀ x ∈ l, x.length ≤ maxLen := by
  rcases Go.Deep.open_slice Tryd.underlying29 h with ⟨hcs, hy⟩ | ⟨a, len, cap, m, n, D, Pl, hcs, _, hl, hm, hmm, hy, hx⟩
  · injection hcs with hcs
    exact ⟨none, [], 0, hcs, Rd.nil _ _ _ _, Nat.le_refl _, Nat.zero_le _, (fun _ h => by cases h)⟩
  · injection hcs with hcs
    have hlm : len ≤ m := by rw [hmm]; split <;> omega
    have k5 : Tryd.prog.cellsOf 9 = 1 := by kernel_rfl
    rw [k5] at hx
    obtain ⟨l, hll, hp⟩ := pick_list (n := len) (p := fun i (x : Bs) => x.length ≤ maxLen ∧ w.cell? (a.add (i * 1)) = some (sV x)) (fun i hi => by
      obtain ⟨cs', hc, ht⟩ := hx i (by omega)
      obtain ⟨s, rfl, _, hs⟩ := DataW.trod_string Tryd.underlying9 ht
      obtain ⟨_, _, hat⟩ := World.cells?_some hc
      have h0 := hat 0 (by decide)
      exact ⟨s.data.toList, by rw [Array.length_toList]; exact hs, by simpa [Addr.add, sV] using h0⟩)
    subst hll
    refine ⟨some a, l, cap, hcs, ⟨by simp, fun hn => ?_⟩, hl, Nat.le_trans hl hm, fun x hxl => ?_⟩
    · have h0 := (hp 0 hn).2
      have ha : a = ⟨a.block, a.off, none⟩ := spot_none (v := sV l[0]) (by simpa [Addr.add] using h0)
      have hb : a.block < w.heap.size := block_lt_of_cell (a := a) (v := sV l[0]) (by simpa [Addr.add] using h0)
      refine ⟨a.block, a.off, by rw [← ha], hb, fun j u hu => ?_⟩
      rw [List.getElem?_map] at hu
      obtain ⟨x, hx1, rfl⟩ := Option.map_eq_some_iff.1 hu
      obtain ⟨hj, hx2⟩ := List.getElem?_eq_some_iff.1 hx1
      have h2 := (hp j hj).2
      rw [ha, hx2] at h2
      simp only [Nat.mul_one, Addr.add_lit] at h2
      exact h2
    · obtain ⟨i, hi, rfl⟩ := List.getElem_of_mem hxl
      exact (hp i hi).1
end
section
variable {H : Type} {enc : TypeId × Value → H}
theorem handed_shaped {a : Assume} {C : Checked} {os : Os} {f : FuncId} {fn : Func} {s : ChangeSpec} {conds : List PathCond} {apart fresh handsOn again : Bool} {X : World → Array Value → Prop}
    (hX : ∀ (w w' : World) (args : Array Value), w.heap = w'.heap → X w args → X w' args)
    (own : ownKnob C.prog.godebug = none) (started : os.Started) (noInit : C.prog.inits.idxOf? f = none) (hfn : C.prog.funcs[f]? = some fn)
    (witness : ∃ (w : World) (tape : Tape) (i : Input), w.os = os ∧ (w.forCall tape i).Shaped C.prog ∧ i.vars = [] ∧ Input.okWide C.prog (w.forCall tape i) .any w.heap.size f i ∧
      ((s.pre enc C.prog fn conds apart (w.forCall tape i).memory i.args ∧ X (w.forCall tape i).memory i.args) ∧ sizedMet enc C.prog fn (OpenSpec.ofChange s) apart (w.forCall tape i).memory i.args) ∧ a.holds C.prog (lone (Frame.enter C.prog f i.args .normal) [] (w.forCall tape i)))
    (contract : ∀ (W : World) (base : Nat) (args : Array Value) (ds gs : List (DataW H)) (before : List MemPlace),
      (∀ (j : Nat) t v, fn.params[j]? = some t → args[j]? = some v → Value.okWide C.prog W .any base t v) →
      DataW.Whole enc C.prog fn.params.toList s.vars apart W args.toList ds gs before →
      (DataW.weightsEach C.prog (fn.params.toList ++ s.plain.varTypes C.prog) (ds ++ gs)).all (· ≤ reachBytes) = true → X W args → W.ShapedOpen C.prog →
      Calls C.prog f args W fun e W' => ∃ v, e = .returned v ∧ s.post enc C.prog fn apart fresh handsOn again W args v W') :
    ReturnsInHanded a C os f .any (fun w args => (s.pre enc C.prog fn conds apart w args ∧ X w args) ∧ sizedMet enc C.prog fn (OpenSpec.ofChange s) apart w args) (s.post enc C.prog fn apart fresh handsOn again) := by
  refine returnsInHanded_of_calls own started noInit witness ?_
  intro w tape i _ hsh _ hok hpre hholds
  obtain ⟨_, _, _, fn', hfn', _, _, _, _, hval⟩ := hok
  have e : fn' = fn := Option.some.inj (hfn'.symm.trans hfn)
  subst e
  obtain ⟨⟨⟨ds, gs, before, hw, hc⟩, hx⟩, hz⟩ := hpre
  have hw' := DataW.Whole.of_heap (w' := w.forCall tape i) (by rfl) hw
  refine (contract (w.forCall tape i) w.heap.size i.args ds gs before hval hw' (hz.weights hw) (hX _ _ _ (by rfl) hx) hsh).mono fun e W' ⟨v, he, hp⟩ => ?_
  subst he
  exact ChangeSpec.post_blind hp
end
end Go.Proofs.YtooplogodcadgaaDoor
