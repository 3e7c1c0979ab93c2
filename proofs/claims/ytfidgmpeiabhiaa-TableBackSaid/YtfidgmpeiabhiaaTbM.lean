/- A new entry of a map in two steps: the place first, its value later. -/
import Derived.Test.YtfidgmpeiabhiaaBase
import Derived.Maps.OwnSet
import Derived.Maps.OwnOps
import Derived.WideKeyEntry
namespace Go.Proofs.Ytfidgmpeiabhiaa
open Go.RowKit Go.ChangeMaps Go.WideMaps Go.WideElems Go.Maps

section
variable {H : Type} {P : Program} {w : World} {t k e : TypeId} {R : Value → Option (DataW H × List MemPlace)} {b n : Nat} {D : DataW H}
theorem absent_of {es : Array MapEntry} {clock : Nat} (K : Keyed P k) (F : WideElems.Fit P k R es clock) {key : Value} {kl : Lit} (hkey : keyOf P k key = some kl) (hno : Maps.has (.map ((es.toList.map (rg P k R)).foldr DataW.insert [])) kl = false) :
    ∀ x ∈ es.toList, x.key ≠ key := by
  intro x hx e
  obtain ⟨y, hy⟩ := F.reads x hx
  have h1 := rd_key hy
  rw [e, hkey] at h1
  injection h1 with h1
  have h2 : y ∈ (es.toList.map (rg P k R)).foldr DataW.insert [] := by
    rw [mem_sorted]
    exact List.mem_map.2 ⟨x, hx, rg_of hy⟩
  rw [Maps.has_eq] at hno
  have h3 := List.any_eq_false.1 hno y h2
  apply h3
  rw [← h1]
  exact WideAt.sameKey_self (K.key hkey)
theorem push_find {es : Array MapEntry} {clock : Nat} (hs : MapKept.Stamped es clock) (key z : Value) : (es.push ⟨key, z, clock⟩).findIdx? (fun e => ((e.born : Nat) : Int) == ((clock : Nat) : Int)) = some es.size := by
  obtain ⟨s1, s2, _⟩ := hs
  rw [findIdx_arr]
  refine findIdx_born (l := (es.push ⟨key, z, clock⟩).toList) (j := es.size) (e0 := ⟨key, z, clock⟩) ?_ (by simp)
  simp only [Array.toList_push, List.map_append, List.map_cons, List.map_nil]
  refine List.nodup_append.2 ⟨s2, by simp, fun a ha c hc e1 => ?_⟩
  simp only [List.mem_singleton] at hc
  obtain ⟨x, hx, rfl⟩ := List.mem_map.1 ha
  have := s1 x hx
  omega
theorem push_mod {es : Array MapEntry} {key z val : Value} {clock : Nat} : (es.push ⟨key, z, clock⟩).modify es.size (fun e => { e with val := val }) = es.push ⟨key, val, clock⟩ := by
  apply Array.ext'
  rw [Array.toList_modify, Array.toList_push, Array.toList_push, ← Array.length_toList, modify_last]
/-- a map that waits for the value of its newest entry -/
def Waits (P : Program) (k : TypeId) (R : Value → Option (DataW H × List MemPlace)) (n : Nat) (D : DataW H) (kl : Lit) (t : TypeId) (st : Nat) (o1 : Obj) : Prop :=
  ∀ (b : Nat) (w2 : World) (val : Value) (d : DataW H) (ps : List MemPlace), w2.heap[b]? = some o1 → R val = some (d, ps) → ∃ o2, (Instr.entryStore t (.map (some b)) (goInt st) val).run P w2 = .ok () (setBlock w2 b o2) ∧ (setBlock w2 b o2).ownsMap P k R b (n + 1) (D.put kl d)
theorem entry_new (h : w.ownsMap P k R b n D) (K : Keyed P k) (ht : P.underlying t = some (.map k e)) {z : Value} (hz : (zeroValue e).run P w = .ok z w) (hn : n < maxLen) {key : Value} {kl : Lit} (hkey : keyOf P k key = some kl) (hno : Maps.has D kl = false) :
    ∃ (st : Nat) (o1 : Obj), (Instr.mapEntry t (.map (some b)) key).run P w = .ok (.tuple #[z, goInt st]) (setBlock w b o1) ∧ Waits P k R n D kl t st o1 ∧ ∃ es c, o1 = .map es c := by
  obtain ⟨es, clock, hb, F, hs, rfl⟩ := h
  have habs := absent_of K F hkey hno
  have hfind : (Instr.findKey k key es.toList).run P w = .ok none w := by
    rcases K.find w hkey es.toList F.keys with ⟨h1, _⟩ | ⟨j, e0, _, h2, h3⟩
    · exact h1
    · exact absurd h3 (habs e0 (List.mem_of_getElem? h2))
  refine ⟨clock, .map (es.push ⟨key, z, clock⟩) (clock + 1), ?_, ?_, _, _, rfl⟩
  · simp [Instr.mapEntry, run_underlying ht, MapKept.run_getObj_map hb, K.check w false hkey, hfind, hz, MapKept.run_setObj_map _ hb, Result.andThen, setBlock]
  · intro b2 w2 val d ps hw2 hv
    obtain ⟨es', clock', hrun, F', hput, _⟩ := Maps.fit_store (R' := R) K ht hb F (Nat.lt_of_le_of_lt hs hn) (fun _ _ _ _ hz => hz) hkey hv
    have hrun2 : (Instr.mapUpdate t (.map (some b)) key val).run P w = .ok () (setBlock w b (.map (es.push ⟨key, val, clock⟩) (clock + 1))) := by
      simp [Instr.mapUpdate, run_underlying ht, MapKept.run_getObj_map hb, K.check w false hkey, hfind, MapKept.run_setObj_map _ hb, Result.andThen, setBlock]
    rw [hrun2] at hrun
    injection hrun with _ hrun
    have e1 := heap_setBlock_same hb (.map (es.push ⟨key, val, clock⟩) (clock + 1))
    rw [hrun, heap_setBlock_same hb] at e1
    injection e1 with e1
    injection e1 with e1 e2
    refine ⟨.map (es.push ⟨key, val, clock⟩) (clock + 1), ?_, es', clock', ?_, F', ?_, ?_⟩
    · simp [Instr.entryStore, MapKept.run_getObj_map hw2, asInt, asIntOf, goInt, push_find F.stamped, push_mod, MapKept.run_setObj_map _ hw2, Result.andThen, setBlock]
    · rw [heap_setBlock_same hw2, e1, e2]
    · rw [e1]
      simp
      omega
    · rw [DataW.put_eq, hput]
end
theorem step_entry {P : Program} {w : World} {ops : Array Oper} {o : Oper} {a : Act} {K : Act → World → Prop} {Q : Exit → Act → World → Prop} {E : Prop} (hgd : o.guard = none) (m x : Operand) (t : TypeId) (ho : o.op = .mapEntry t m x) (vm vx : Value) (hm : a.eval m = vm) (hx : a.eval x = vx) {R : Value → World → Prop}
    (hrun : ∃ v' w', (Instr.mapEntry t vm vx).run P w = .ok v' w' ∧ R v' w') (h : ∀ v' w', R v' w' → K (a.put o.dst v') w') : if Region.wanted o (yielded ops a.tmps) = true then Oper.wp P o a w K Q else E := by
  have hw : Region.wanted o (yielded ops a.tmps) = true := by simp [Region.wanted, hgd]
  rw [if_pos hw]
  obtain ⟨v', w', hr, hR⟩ := hrun
  unfold Oper.wp
  simp [execOp, ho, hm, hx, hr, Result.andThen]
  exact h v' w' hR
theorem step_entryStore {P : Program} {w : World} {ops : Array Oper} {o : Oper} {a : Act} {K : Act → World → Prop} {Q : Exit → Act → World → Prop} {E : Prop} (hgd : o.guard = none) (m s x : Operand) (t : TypeId) (ho : o.op = .entryStore t m s x) (vm vs vx : Value) (hm : a.eval m = vm) (hs : a.eval s = vs) (hx : a.eval x = vx) {R : World → Prop}
    (hrun : ∃ w', (Instr.entryStore t vm vs vx).run P w = .ok () w' ∧ R w') (h : ∀ w', R w' → K (a.put o.dst undef) w') : if Region.wanted o (yielded ops a.tmps) = true then Oper.wp P o a w K Q else E := by
  have hw : Region.wanted o (yielded ops a.tmps) = true := by simp [Region.wanted, hgd]
  rw [if_pos hw]
  obtain ⟨w', hr, hR⟩ := hrun
  unfold Oper.wp
  simp [execOp, ho, hm, hs, hx, hr, Result.andThen]
  simpa [Oper.upon] using h w' hR
end Go.Proofs.Ytfidgmpeiabhiaa
