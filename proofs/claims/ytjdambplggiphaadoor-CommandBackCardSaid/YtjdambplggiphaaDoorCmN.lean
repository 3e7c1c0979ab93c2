/- Commands: the program's forms: a map of its own. -/
import Derived.Test.YtjdambplggiphaaDoorCmM
import Derived.MapKept
import Derived.Deep.RegionWith
namespace Go.Proofs.YtjdambplggiphaaDoor
open Go.RowKit Go.Lib

theorem run_upd {w : World} {clock : Nat} {es : Array MapEntry} {key : ByteArray} (val : Value) (hf : Instr.findNow .string (.string key) es.toList 0 = some none) :
    (Instr.mapUpdate 34 (.map (some w.heap.size)) (.string key) val).run Tryd.prog (w.alloc (.map es clock)) = .ok () (w.alloc (.map (es.push ⟨.string key, val, clock⟩) (clock + 1))) := by
  have hb : (w.alloc (.map es clock)).heap[w.heap.size]? = some (.map es clock) := heap_alloc_new w _
  have hc : (Instr.checkKey false 10000 9 (.string key)).run Tryd.prog (w.alloc (.map es clock)) = .ok () (w.alloc (.map es clock)) := MapKept.run_checkKey (k := .string key) Tryd.underlying9 (by simp [MapKept.IsKey]) false 9999
  have hw : { w.alloc (.map es clock) with heap := (w.alloc (.map es clock)).heap.setIfInBounds w.heap.size (.map (es.push ⟨.string key, val, clock⟩) (clock + 1)) } = w.alloc (.map (es.push ⟨.string key, val, clock⟩) (clock + 1)) := by
    have e : (w.alloc (.map es clock)).heap.setIfInBounds w.heap.size (.map (es.push ⟨.string key, val, clock⟩) (clock + 1)) = (w.alloc (.map (es.push ⟨.string key, val, clock⟩) (clock + 1))).heap := by
      show (w.heap.push _).setIfInBounds w.heap.size _ = w.heap.push _
      apply Array.ext_getElem?
      intro i
      rw [Array.getElem?_setIfInBounds, Array.getElem?_push, Array.getElem?_push]
      by_cases h : w.heap.size = i
      · subst h
        simp
      · rw [if_neg h, if_neg (fun e => h e.symm), if_neg (fun e => h e.symm)]
    rw [e]
    rfl
  rw [← hw]
  simp [Instr.mapUpdate, run_underlying Tryd.underlying34, MapKept.run_getObj_map hb, hc, MapKept.run_findKey Tryd.underlying9 hf, MapKept.run_setObj_map _ hb, Result.andThen]
def formsE : Array MapEntry := #[⟨.string ⟨#[114, 101, 97, 100]⟩, .string ⟨#[105, 97, 110]⟩, 0⟩, ⟨.string ⟨#[119, 114, 105, 116, 101]⟩, .string ⟨#[105, 97, 100]⟩, 1⟩, ⟨.string ⟨#[99, 114, 101, 97, 116, 101]⟩, .string ⟨#[110]⟩, 2⟩, ⟨.string ⟨#[100, 101, 108, 101, 116, 101]⟩, .string ⟨#[105]⟩, 3⟩, ⟨.string ⟨#[109, 101, 114, 103, 101]⟩, .string ⟨#[105]⟩, 4⟩, ⟨.string ⟨#[115, 116, 101, 112]⟩, .string ⟨#[]⟩, 5⟩]
set_option maxRecDepth 8000 in
set_option maxHeartbeats 2000000 in
theorem cmd_forms (w : World) : Calls Tryd.prog 11 #[] w fun e w' => e = .returned (.map (some w.heap.size)) ∧ w' = w.alloc (.map formsE 6) := by
  have h0 := run_upd (w := w) (clock := 0) (es := #[]) (key := ⟨#[114, 101, 97, 100]⟩) (.string ⟨#[105, 97, 110]⟩) (by kernel_rfl)
  have h1 := run_upd (w := w) (clock := 1) (es := #[⟨.string ⟨#[114, 101, 97, 100]⟩, .string ⟨#[105, 97, 110]⟩, 0⟩]) (key := ⟨#[119, 114, 105, 116, 101]⟩) (.string ⟨#[105, 97, 100]⟩) (by kernel_rfl)
  have h2 := run_upd (w := w) (clock := 2) (es := #[⟨.string ⟨#[114, 101, 97, 100]⟩, .string ⟨#[105, 97, 110]⟩, 0⟩, ⟨.string ⟨#[119, 114, 105, 116, 101]⟩, .string ⟨#[105, 97, 100]⟩, 1⟩]) (key := ⟨#[99, 114, 101, 97, 116, 101]⟩) (.string ⟨#[110]⟩) (by kernel_rfl)
  have h3 := run_upd (w := w) (clock := 3) (es := #[⟨.string ⟨#[114, 101, 97, 100]⟩, .string ⟨#[105, 97, 110]⟩, 0⟩, ⟨.string ⟨#[119, 114, 105, 116, 101]⟩, .string ⟨#[105, 97, 100]⟩, 1⟩, ⟨.string ⟨#[99, 114, 101, 97, 116, 101]⟩, .string ⟨#[110]⟩, 2⟩]) (key := ⟨#[100, 101, 108, 101, 116, 101]⟩) (.string ⟨#[105]⟩) (by kernel_rfl)
  have h4 := run_upd (w := w) (clock := 4) (es := #[⟨.string ⟨#[114, 101, 97, 100]⟩, .string ⟨#[105, 97, 110]⟩, 0⟩, ⟨.string ⟨#[119, 114, 105, 116, 101]⟩, .string ⟨#[105, 97, 100]⟩, 1⟩, ⟨.string ⟨#[99, 114, 101, 97, 116, 101]⟩, .string ⟨#[110]⟩, 2⟩, ⟨.string ⟨#[100, 101, 108, 101, 116, 101]⟩, .string ⟨#[105]⟩, 3⟩]) (key := ⟨#[109, 101, 114, 103, 101]⟩) (.string ⟨#[105]⟩) (by kernel_rfl)
  have h5 := run_upd (w := w) (clock := 5) (es := #[⟨.string ⟨#[114, 101, 97, 100]⟩, .string ⟨#[105, 97, 110]⟩, 0⟩, ⟨.string ⟨#[119, 114, 105, 116, 101]⟩, .string ⟨#[105, 97, 100]⟩, 1⟩, ⟨.string ⟨#[99, 114, 101, 97, 116, 101]⟩, .string ⟨#[110]⟩, 2⟩, ⟨.string ⟨#[100, 101, 108, 101, 116, 101]⟩, .string ⟨#[105]⟩, 3⟩, ⟨.string ⟨#[109, 101, 114, 103, 101]⟩, .string ⟨#[105]⟩, 4⟩]) (key := ⟨#[115, 116, 101, 112]⟩) (.string ⟨#[]⟩) (by kernel_rfl)
  simp only [List.push_toArray, List.nil_append, List.cons_append, Nat.reduceAdd] at h0 h1 h2 h3 h4 h5
  have hmm : (Instr.makeMap 34 none).run Tryd.prog w = .ok (.map (some w.heap.size)) (w.alloc (.map #[] 0)) := rfl
  unfold formsE
  go_enter Tryd.func11, Tryd.ntmps11
  go_wp2_with fail
  go_ret
  exact ⟨rfl, rfl⟩
theorem find_form (op : Bs) : Instr.findNow .string (.string ⟨op.toArray⟩) formsE.toList 0 = some ((frm op).map fun f => ((if op = [114, 101, 97, 100] then 0 else if op = [119, 114, 105, 116, 101] then 1 else if op = [99, 114, 101, 97, 116, 101] then 2 else if op = [100, 101, 108, 101, 116, 101] then 3 else if op = [109, 101, 114, 103, 101] then 4 else 5 : Nat), Value.string ⟨f.toArray⟩)) := by
  by_cases h0 : op = [114, 101, 97, 100]
  · subst h0
    kernel_rfl
  · by_cases h1 : op = [119, 114, 105, 116, 101]
    · subst h1
      kernel_rfl
    · by_cases h2 : op = [99, 114, 101, 97, 116, 101]
      · subst h2
        kernel_rfl
      · by_cases h3 : op = [100, 101, 108, 101, 116, 101]
        · subst h3
          kernel_rfl
        · by_cases h4 : op = [109, 101, 114, 103, 101]
          · subst h4
            kernel_rfl
          · by_cases h5 : op = [115, 116, 101, 112]
            · subst h5
              kernel_rfl
            · have hn : frm op = none := by unfold frm; rw [if_neg h0, if_neg h1, if_neg h2, if_neg h3, if_neg h4, if_neg h5]
              have b0 : ((⟨op.toArray⟩ : ByteArray) == ⟨#[114, 101, 97, 100]⟩) = false := by
                show ((op.toArray == #[114, 101, 97, 100]) = false)
                simpa using h0
              have b1 : ((⟨op.toArray⟩ : ByteArray) == ⟨#[119, 114, 105, 116, 101]⟩) = false := by
                show ((op.toArray == #[119, 114, 105, 116, 101]) = false)
                simpa using h1
              have b2 : ((⟨op.toArray⟩ : ByteArray) == ⟨#[99, 114, 101, 97, 116, 101]⟩) = false := by
                show ((op.toArray == #[99, 114, 101, 97, 116, 101]) = false)
                simpa using h2
              have b3 : ((⟨op.toArray⟩ : ByteArray) == ⟨#[100, 101, 108, 101, 116, 101]⟩) = false := by
                show ((op.toArray == #[100, 101, 108, 101, 116, 101]) = false)
                simpa using h3
              have b4 : ((⟨op.toArray⟩ : ByteArray) == ⟨#[109, 101, 114, 103, 101]⟩) = false := by
                show ((op.toArray == #[109, 101, 114, 103, 101]) = false)
                simpa using h4
              have b5 : ((⟨op.toArray⟩ : ByteArray) == ⟨#[115, 116, 101, 112]⟩) = false := by
                show ((op.toArray == #[115, 116, 101, 112]) = false)
                simpa using h5
              rw [hn]
              simp [formsE, Instr.findNow, Instr.sameNow, b0, b1, b2, b3, b4, b5]
theorem run_form {V : World} {r : Nat} (op : Bs) (hb : V.heap[r]? = some (.map formsE 6)) :
    (Instr.lookup 34 (.map (some r)) (.string ⟨op.toArray⟩) true).run Tryd.prog V = .ok (.tuple #[.string ⟨((frm op).getD []).toArray⟩, .bool (frm op).isSome]) V := by
  have hc : (Instr.checkKey (Array.isEmpty formsE) 10000 9 (.string ⟨op.toArray⟩)).run Tryd.prog V = .ok () V := MapKept.run_checkKey (k := .string ⟨op.toArray⟩) Tryd.underlying9 (by simp [MapKept.IsKey]) _ 9999
  have hz : (zeroValue 9).run Tryd.prog V = .ok (.string ByteArray.empty) V := by
    exact Tryd.zeroValue9 V
  have hf := MapKept.run_findKey (w := V) Tryd.underlying9 (find_form op)
  cases hq : frm op with
  | none =>
    rw [hq] at hf
    simp [Instr.lookup, run_underlying Tryd.underlying34, MapKept.run_getObj_map hb, hc, hf, hz, Result.andThen]
    rfl
  | some f =>
    rw [hq] at hf
    simp [Instr.lookup, run_underlying Tryd.underlying34, MapKept.run_getObj_map hb, hc, hf, hz, Result.andThen]
end Go.Proofs.YtjdambplggiphaaDoor
