/- A region that draws its order, walked once: an invariant that each operation keeps, and what each slot holds then. -/
import Derived.Test.YthdigddbhlakmaaCopy
import Derived.RegionTactic
import Derived.Orders
namespace Go.Proofs.Ythdigddbhlakmaa
open Go.RowKit
section
variable {P : Program} {ops : Array Oper} {Q : Exit → Act → World → Prop} {md : Region.Mode}

theorem ready_iff {listed : Array Bool} {i : Nat} (h : i ∈ Region.ready md ops listed) :
    i < ops.size ∧ listed.getD i true = false ∧ ∀ o, ops[i]? = some o → ∀ e ∈ o.after, Region.binds md e = true → listed.getD e.on false = true := by
  unfold Region.ready at h
  rw [List.mem_filter] at h
  obtain ⟨h1, h2⟩ := h
  have h1 : i < ops.size := by simpa using h1
  simp only [Bool.and_eq_true, Bool.not_eq_true'] at h2
  refine ⟨h1, h2.1, fun o ho e he hb => ?_⟩
  have h3 := h2.2
  rw [ho] at h3
  simp only [Option.map_some, Option.getD_some] at h3
  have h4 := Array.all_eq_true_iff_forall_mem.1 h3 e he
  simpa [hb] using h4
theorem ready_of {listed : Array Bool} {i : Nat} {o : Oper} (ho : ops[i]? = some o) (hl : listed.getD i true = false) (h : ∀ e ∈ o.after, listed.getD e.on false = true) : i ∈ Region.ready md ops listed := by
  unfold Region.ready
  rw [List.mem_filter]
  have hi := (Array.getElem?_eq_some_iff.1 ho).1
  refine ⟨by simpa using hi, ?_⟩
  simp only [Bool.and_eq_true, Bool.not_eq_true', hl, true_and, ho, Option.map_some, Option.getD_some]
  exact Array.all_eq_true_iff_forall_mem.2 fun e he => by simp [h e he]
/-- where each operation waits for earlier ones alone, nothing is left once nothing is ready -/
theorem ready_nil {listed : Array Bool} (hs : listed.size = ops.size) (hB : (List.range ops.size).all (fun i => ((ops[i]?).map (·.after.all fun e => decide (e.on < i))).getD true) = true) (h : Region.ready md ops listed = []) :
    ∀ i, i < ops.size → listed[i]? = some true := by
  intro i
  induction i using Nat.strongRecOn with
  | ind i ih =>
    intro hi
    have hl : i < listed.size := by omega
    rw [Array.getElem?_eq_getElem hl]
    cases hv : listed[i] with
    | true => rfl
    | false =>
      exfalso
      have hB1 := List.all_eq_true.1 hB i (by simpa using hi)
      have ho : ops[i]? = some ops[i] := Array.getElem?_eq_getElem hi
      rw [ho] at hB1
      simp only [Option.map_some, Option.getD_some] at hB1
      have hm : i ∈ Region.ready md ops listed := by
        refine ready_of ho ?_ fun e he => ?_
        · rw [Array.getD_eq_getD_getElem?, Array.getElem?_eq_getElem hl, hv]; rfl
        · have hlt := Array.all_eq_true_iff_forall_mem.1 hB1 e he
          have hlt : e.on < i := by simpa using hlt
          have := ih e.on hlt (by omega)
          rw [Array.getD_eq_getD_getElem?, this]
          rfl
      rw [h] at hm
      cases hm
theorem count_turn {l : Array Bool} {i : Nat} (h : l.getD i true = false) : ((l.setIfInBounds i true).toList.count false) + 1 = l.toList.count false := by
  have hi : i < l.size := by
    rcases Nat.lt_or_ge i l.size with h1 | h1
    · exact h1
    · rw [Array.getD_eq_getD_getElem?, Array.getElem?_eq_none h1] at h
      cases h
  have hv : l.toList[i]'(by simpa using hi) = false := by
    rw [Array.getD_eq_getD_getElem?, Array.getElem?_eq_getElem hi] at h
    simpa using h
  have hpos : 0 < l.toList.count false := List.count_pos_iff.2 (List.mem_of_getElem (h := by simpa using hi) hv)
  rw [Array.toList_setIfInBounds, List.count_set (by simpa using hi)]
  simp [hv]
  rw [← Array.count_toList] 
  omega
/-- a region in whatever order: an invariant that each operation, once it is ready, keeps -/
theorem wpAny_inv {I : Array Bool → Act → World → Prop}
    (hstep : ∀ listed a w i, I listed a w → i ∈ Region.ready md ops listed → wpOp P ops Q i (I (listed.setIfInBounds i true)) a w)
    (hdone : ∀ listed a w, I listed a w → Region.ready md ops listed = [] → Q .normal a w) :
    ∀ (fuel : Nat) (listed : Array Bool) (a : Act) (w : World), listed.toList.count false ≤ fuel → I listed a w → wpAny P md ops Q fuel listed a w
  | 0, listed, a, w, hc, hI => by
    have hr : Region.ready md ops listed = [] := by
      rw [List.eq_nil_iff_forall_not_mem]
      intro i hi
      have := count_turn (ready_iff hi).2.1
      omega
    exact ⟨hr, hdone _ _ _ hI hr⟩
  | fuel + 1, listed, a, w, hc, hI => by
    refine ⟨fun hr => hdone _ _ _ hI hr, fun i hi => ?_⟩
    have hl := count_turn (ready_iff hi).2.1
    exact wpOp_mono (fun a' w' h => wpAny_inv hstep hdone fuel _ a' w' (by omega) h) (hstep _ _ _ i hI hi)
end

/-- what each operation that is done has left in its slot; the slots that no operation writes -/
structure TabI (n N : Nat) (base : List (Nat × Value)) (dst : Nat → Nat) (F : Nat → Value → World → Prop) (w0 : World) (listed : Array Bool) (a : Act) (w : World) : Prop where
  ls : listed.size = n
  ts : a.tmps.size = N
  df : a.defers = []
  kept : Kept [] w0 w
  base : ∀ p ∈ base, a.tmps[p.1]? = some p.2
  done : ∀ j, listed[j]? = some true → ∃ v, a.tmps[dst j]? = some v ∧ F j v w

theorem eval_of {a : Act} {t : Nat} {v : Value} (h : a.tmps[t]? = some v) : a.eval (.tmp t) = v := by
  simp [Act.eval, Array.getD_eq_getD_getElem?, h]

section
variable {P : Program} {ops : Array Oper} {Q : Exit → Act → World → Prop} {n N : Nat} {base : List (Nat × Value)} {dst : Nat → Nat} {F : Nat → Value → World → Prop} {w0 w w' : World} {listed : Array Bool} {a : Act} {i : Nat} {v : Value}
theorem TabI.put (h : TabI n N base dst F w0 listed a w) (hmono : ∀ j v w w', Kept [] w w' → F j v w → F j v w') (hb : ∀ p ∈ base, ∀ j, j < n → p.1 ≠ dst j) (hd : ∀ j k, j < n → k < n → j ≠ k → dst j ≠ dst k) (hN : ∀ j, j < n → dst j < N)
    (hi : i < n) (hF : F i v w') (hk : Kept [] w w') (d : Option Tmp) (hdst : d = some (dst i)) : TabI n N base dst F w0 (listed.setIfInBounds i true) (a.put d v) w' := by
  rw [hdst]
  refine ⟨by simp [h.ls], by simp [Act.put, h.ts], h.df, h.kept.trans hk, fun p hp => ?_, fun j hj => ?_⟩
  · show (a.tmps.setIfInBounds (dst i) v)[p.1]? = _
    rw [Array.getElem?_setIfInBounds_ne (fun e => hb p hp i hi e.symm)]
    exact h.base p hp
  · show ∃ u, (a.tmps.setIfInBounds (dst i) v)[dst j]? = some u ∧ F j u w'
    by_cases hij : i = j
    · subst hij
      refine ⟨v, ?_, hF⟩
      rw [Array.getElem?_setIfInBounds_self_of_lt (by rw [h.ts]; exact hN i hi)]
    · rw [Array.getElem?_setIfInBounds_ne hij] at hj
      obtain ⟨u, hu, hFu⟩ := h.done j hj
      have hjs : j < n := by
        rw [← h.ls]
        rcases Nat.lt_or_ge j listed.size with h1 | h1
        · exact h1
        · rw [Array.getElem?_eq_none h1] at hj; cases hj
      exact ⟨u, by rw [Array.getElem?_setIfInBounds_ne (hd i j hi hjs hij)]; exact hu, hmono j u w w' hk hFu⟩
theorem TabI.read (h : TabI n N base dst F w0 listed a w) {j : Nat} (hj : listed.getD j false = true) : ∃ v, a.tmps[dst j]? = some v ∧ F j v w := by
  refine h.done j ?_
  rw [Array.getD_eq_getD_getElem?] at hj
  cases hv : listed[j]? with
  | none => rw [hv] at hj; cases hj
  | some b => rw [hv] at hj; rw [← hj]; rfl
theorem ready_dep {md : Region.Mode} (hr : i ∈ Region.ready md ops listed) {o : Oper} (ho : ops[i]? = some o) (k : Nat) (hk : (o.after.any fun e => Region.binds md e && e.on == k) = true) : listed.getD k false = true := by
  obtain ⟨n, hn, hb⟩ := Array.any_eq_true.1 hk
  have he := Array.getElem_mem hn
  generalize o.after[n] = e at *
  simp only [Bool.and_eq_true, beq_iff_eq] at hb
  rw [← hb.2]
  exact (ready_iff hr).2.2 o ho e he hb.1
theorem pure_step {o : Oper} {K : Act → World → Prop} {E : Prop} (hw : Region.wanted o (yielded ops a.tmps) = true) (hrun : (execOp a.eval o).run P w = .ok (.value v) w') (h : K (a.put o.dst v) w') :
    if Region.wanted o (yielded ops a.tmps) = true then Oper.wp P o a w K Q else E := by
  rw [if_pos hw]
  unfold Oper.wp
  rw [hrun]
  exact h
theorem wanted_none {o : Oper} (h : o.guard = none) (y : Nat → Option Bool) : Region.wanted o y = true := by simp [Region.wanted, h]
theorem wanted_some {o : Oper} {g : Nat} {b : Bool} (h : o.guard = some (g, b)) {t : Nat} (ht : ((ops[g]?).bind (·.dst)) = some t) (hv : a.tmps[t]? = some (.bool b)) : Region.wanted o (yielded ops a.tmps) = true := by
  simp [Region.wanted, h, yielded, ht, hv]
end
end Go.Proofs.Ythdigddbhlakmaa
