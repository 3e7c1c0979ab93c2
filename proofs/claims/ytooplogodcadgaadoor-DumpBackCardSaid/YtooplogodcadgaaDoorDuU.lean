/- Dumps: the program's Parse: it stops, and recovers. -/
import Derived.Test.YtooplogodcadgaaDoorDuT
import Derived.Deep.RegionWith
import Derived.Defers
import Derived.Recover
namespace Go.Proofs.YtooplogodcadgaaDoor
open Go.RowKit Go.Lib

theorem LOw.down {T n₀ n₁ : Nat} {w : World} {V : Value} {ps : List Pr} (h : LOw T n₀ w V ps) (hn : n₁ ≤ n₀) : LOw T n₁ w V ps :=
  ⟨own_down h.row hn, fun p hp => own_down (h.ents p hp) hn, h.apart⟩
theorem run_bad (w : World) : (Instr.typeAssert (.iface 67 (.agg #[])) 20 67 true).run Tryd.prog w = .ok (.tuple #[.agg #[], .bool true]) w := by
  simp [Instr.typeAssert, go_sem]
set_option maxHeartbeats 2000000 in
theorem prec_cut (X E : Nat) (older : List PanicEntry) (w : World) (hX : Blk w X 26 #[.int .i64 0, .int .i64 0, .int .i64 0, .slice none 0 0]) (hE : Blk w E 30 #[.int .i64 0]) :
    CallsD Tryd.prog 22 #[.pointer (some ⟨X, 0, none⟩), .pointer (some ⟨E, 0, none⟩)] (.panicking (badV :: older)) w fun e u' w' =>
      e = .returned (.tuple #[]) ∧ u' = .panicking ({ badV with recovered := true } :: older) ∧ Blk w' X 26 #[.int .i64 0, .int .i64 0, .int .i64 0, .slice none 0 0] ∧ Blk w' E 30 #[.int .i64 32] ∧ Kept [X, E] w w' := by
  have hta := run_bad
  refine callsD_of_wpS Tryd.func22 rfl fun c₀ cs hu => ?_
  simp only [Tryd.ntmps22, List.size_toArray, List.length_cons, List.length_nil, Nat.reduceAdd, Nat.reduceSub, Array.replicate_succ, Array.replicate_zero, List.push_toArray, List.append_toArray, List.nil_append, List.cons_append]
  apply wpS_seq
  apply wpS_region
  simp [wpOpsS, go_sem, recoverD, hu, badV, Exit.thenS]
  refine wpS_of_wp ?_
  have HX := Lib.hid (hX.alloc (.cells #[] 67))
  have HE := Lib.hid (hE.alloc (.cells #[] 67))
  obtain ⟨e0, e1, e2, e3⟩ := blk4 HX.out
  obtain ⟨f0, f1, f2, f3⟩ := frz4 HX.out
  have g0 := HE.out.cell 0
  have i0 := HE.out.frozen 0
  have hne : ¬ X = E := fun h => hX.ne_ hE (by decide) h
  have hne2 : ¬ E = X := fun h => hne h.symm
  have hn3 : ¬ w.heap.size = X := fun h => by have := hX.lt; omega
  have hn4 : ¬ w.heap.size = E := fun h => by have := hE.lt; omega
  clear hX hE
  go_wp2_with fail
  have R1 := (blk4_set HX.out (.int .i64 0) (.int .i64 0) (.int .i64 0) (.slice none 0 0)).far (p := ⟨E, 0, none⟩) hne (.int .i64 32)
  have S1 := ((((HE.out.far (p := ⟨X, 0, none⟩) hne2 (.int .i64 0)).far (p := ⟨X, 1, none⟩) hne2 (.int .i64 0)).far (p := ⟨X, 2, none⟩) hne2 (.int .i64 0)).far (p := ⟨X, 3, none⟩) hne2 (.slice none 0 0)).set_ 0 (.int .i64 32)
  have K := (kept4 (g := X) ((Kept.refl [X, E] w).alloc (.cells #[] 67)) (.inl (by simp)) (.int .i64 0) (.int .i64 0) (.int .i64 0) (.slice none 0 0)).setCell (p := ⟨E, 0, none⟩) (.inl (by simp)) (.int .i64 32)
  exact ⟨rfl, _, rfl, .tuple #[], by simp [results, Tryd.results22], rfl, rfl, R1, S1, K⟩
set_option maxHeartbeats 2000000 in
theorem prec_idle (X E : Nat) (w : World) :
    CallsD Tryd.prog 22 #[.pointer (some ⟨X, 0, none⟩), .pointer (some ⟨E, 0, none⟩)] .returning w fun e u' w' => e = .returned (.tuple #[]) ∧ u' = .returning ∧ w' = w := by
  refine callsD_of_wpS Tryd.func22 rfl fun c₀ cs hu => ?_
  simp only [Tryd.ntmps22, List.size_toArray, List.length_cons, List.length_nil, Nat.reduceAdd, Nat.reduceSub, Array.replicate_succ, Array.replicate_zero, List.push_toArray, List.append_toArray, List.nil_append, List.cons_append]
  apply wpS_seq
  apply wpS_region
  simp [wpOpsS, go_sem, recoverD, hu, Exit.thenS]
  refine wpS_of_wp ?_
  go_wp2_with fail
  cases c₀
  simp_all [bodyPostS, results, Tryd.results22]
set_option maxRecDepth 8000 in
set_option maxHeartbeats 4000000 in
theorem dump_Parse (A : Option Addr) (c : Nat) (l : List Bs) (w : World) (hL : Laid w) (hl : TRd w A l) (hc : l.length ≤ c) (hn : l.length ≤ 100000) (hs : ∀ x ∈ l, x.length ≤ 100000) : Calls Tryd.prog 13 #[.slice A l.length c] w (PPost 54 32 l w) := by
  have HX0 := Lib.hid ((Blk.new w 26 #[.int .i64 0, .int .i64 0, .int .i64 0, .slice none 0 0]).alloc (.cells #[.int .i64 0] 30))
  have HE0 : Hid (Blk ((w.alloc (.cells #[.int .i64 0, .int .i64 0, .int .i64 0, .slice none 0 0] 26)).alloc (.cells #[.int .i64 0] 30)) (w.heap.size + 1) 30 #[.int .i64 0]) := by
    have h := (Blk.new (w.alloc (.cells #[.int .i64 0, .int .i64 0, .int .i64 0, .slice none 0 0] 26)) 30 #[.int .i64 0])
    rwa [show (w.alloc (.cells #[.int .i64 0, .int .i64 0, .int .i64 0, .slice none 0 0] 26)).heap.size = w.heap.size + 1 by simp] at h
  have HK0 := ((Kept.refl [] w).alloc (.cells #[.int .i64 0, .int .i64 0, .int .i64 0, .slice none 0 0] 26)).alloc (.cells #[.int .i64 0] 30)
  have HPr := Lib.hid (dump_parse A c l _ (hL.kept HK0) (hl.kept HK0) hc hn hs)
  unfold PPPost at HPr
  have hsz := HK0.size
  replace HK0 := Lib.hid HK0
  have HNo : Hid (∀ w', parseD l = none → Kept [] w w' → PPost 54 32 l w (.returned (.tuple #[repV 0 0 0 nilE, .int .i64 32])) w') := fun w' h k => ⟨k, .inl ⟨h, rfl⟩⟩
  have HYes : Hid (∀ w' r V ps, parseD l = some r → ps.map (·.1) = r.lines → ps.length ≤ l.length → LOw 54 w.heap.size w' V ps → Kept [] w w' → PPost 54 32 l w (.returned (.tuple #[repV r.sec r.org r.chk V, .int .i64 0])) w') := fun w' r V ps h h2 h4 h3 k => ⟨k, .inr ⟨r, V, ps, h, rfl, h2, h4, h3⟩⟩
  generalize PPost 54 32 l w = Q at *
  clear hL hl hs
  go_enter_defers Tryd.func13, Tryd.ntmps13
  go_wp2_with fail
  refine HPr.out.mono ?_
  rintro e w1 ⟨k1, ⟨hno, rfl⟩ | ⟨r, V, ps, hy, rfl, hps, hpl, o1⟩⟩
  · have K1 := Lib.hid (HK0.out.trans k1)
    have HX1 := HX0.out.kept k1 (fun h => by cases h)
    have HE1 := HE0.out.kept k1 (fun h => by cases h)
    replace hno := Lib.hid hno
    go_wp2_with fail
    refine leaves_cons (f := 22) (args := #[.pointer (some ⟨w.heap.size, 0, none⟩), .pointer (some ⟨w.heap.size + 1, 0, none⟩)]) (by simp) (by simp [go_sem]) ?_
    refine (prec_cut w.heap.size (w.heap.size + 1) [] _ HX1 HE1).mono ?_
    rintro e u' w'' ⟨rfl, rfl, hX, hE, k⟩
    obtain ⟨c0, c1, c2, c3⟩ := blk4 hX
    have c4 := hE.cell 0
    simp [Leaves, settle, results, Tryd.results13, go_sem, c0, c1, c2, c3, c4]
    exact HNo.out _ hno.out (K1.out.trans' k (fun x hx => .inr (by simp at hx; omega)))
  · obtain ⟨AV, cV, rfl⟩ := o1.slice
    have K1 := Lib.hid (HK0.out.trans k1)
    have HX1 := Lib.hid (HX0.out.kept k1 (fun h => by cases h))
    have HE1 := Lib.hid (HE0.out.kept k1 (fun h => by cases h))
    have O1 := Lib.hid (o1.down (show w.heap.size ≤ _ from hsz))
    replace hy := Lib.hid hy
    replace hps := Lib.hid hps
    obtain ⟨e0, e1, e2, e3⟩ := blk4 HX1.out
    obtain ⟨f0, f1, f2, f3⟩ := frz4 HX1.out
    have g0 := HE1.out.cell 0
    have i0 := HE1.out.frozen 0
    have n1 : ¬ w.heap.size + 1 = w.heap.size := by omega
    have n2 : ¬ w.heap.size = w.heap.size + 1 := by omega
    clear o1 k1
    unfold repV
    have HX9 := (blk4_set HX1.out (.int .i64 r.sec) (.int .i64 r.org) (.int .i64 r.chk) (.slice AV ps.length cV)).far (p := ⟨w.heap.size + 1, 0, none⟩) n2 (.int .i64 0)
    have HE8 := ((((HE1.out.far (p := ⟨w.heap.size, 0, none⟩) n1 (.int .i64 r.sec)).far (p := ⟨w.heap.size, 1, none⟩) n1 (.int .i64 r.org)).far (p := ⟨w.heap.size, 2, none⟩) n1 (.int .i64 r.chk)).far (p := ⟨w.heap.size, 3, none⟩) n1 (.slice AV ps.length cV))
    have HE9 := HE8.set_ 0 (.int .i64 0)
    have O9 := (far4 O1.out HX1.out (by decide) (by decide) (.int .i64 r.sec) (.int .i64 r.org) (.int .i64 r.chk) (.slice AV ps.length cV)).far (p := ⟨w.heap.size + 1, 0, none⟩) HE8 (by decide) (by decide) (.int .i64 0)
    have K9 := (kept4 (g := w.heap.size) K1.out (.inr (Nat.le_refl _)) (.int .i64 r.sec) (.int .i64 r.org) (.int .i64 r.chk) (.slice AV ps.length cV)).setCell (p := ⟨w.heap.size + 1, 0, none⟩) (.inr (Nat.le_succ _)) (.int .i64 0)
    replace HX9 := Lib.hid HX9
    replace HE9 := Lib.hid HE9
    replace O9 := Lib.hid O9
    replace K9 := Lib.hid K9
    clear HE8
    go_wp2_with fail
    refine leaves_cons (f := 22) (args := #[.pointer (some ⟨w.heap.size, 0, none⟩), .pointer (some ⟨w.heap.size + 1, 0, none⟩)]) (by simp) (by simp [go_sem]) ?_
    refine (prec_idle w.heap.size (w.heap.size + 1) _).mono ?_
    rintro e u' w'' ⟨rfl, rfl, rfl⟩
    obtain ⟨c0, c1, c2, c3⟩ := blk4 HX9.out
    have c4 := HE9.out.cell 0
    unfold w4 at c0 c1 c2 c3
    simp at c4
    simp [Leaves, settle, results, Tryd.results13, go_sem, c0, c1, c2, c3, c4]
    exact HYes.out _ r _ ps hy.out hps.out hpl O9.out K9.out
end Go.Proofs.YtooplogodcadgaaDoor
