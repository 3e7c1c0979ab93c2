/- Tables: one number set at a free place; what Load asks for. -/
import Derived.Test.YtfidgmpeiabhiaaTbO
namespace Go.Proofs.Ytfidgmpeiabhiaa
open Go.RowKit Go.Maps Go.ChangeMaps

theorem MapAt.putAt {W : World} {bm : Nat} {p : List Int} {o : Int} {i : Nat} {n : Nat} {D : DataW Unit} (hown : W.ownsMap Try.prog 3 (plainElem Try.prog 3) bm (n + 1) (D.put (.int .i64 o) (.lit (.int .i64 (i : Int))))) (hn : n = lenP p) (ht : Tidy D)
    (hs : Maps.size D = lenP p) (h1 : ∀ o : Int, (Lit.int .i64 o).wf = true → Maps.has D (.int .i64 o) = (decide (0 ≤ o) && (findP o p).isSome)) (h2 : ∀ (o : Int) (i : Nat) (z : DataW Unit), 0 ≤ o → findP o p = some i → D.atKey (.int .i64 o) z = .lit (.int .i64 i))
    (ho : rightB o = true) (hno : findP o p = none) (hil : i < p.length) (hif : p[i] = -1) : MapAt W bm (p.set i o) := by
  have hr := ho
  simp only [rightB, Bool.and_eq_true, decide_eq_true_eq] at hr
  have hw : (Lit.int .i64 o).wf = true := wfI (by omega)
  have hk : WideAt.IsKeyLit (.int .i64 o) := lawI.key (keyOf_int_mk Try.underlying3 hw)
  have hnone : Maps.has D (.int .i64 o) = false := by rw [h1 o hw, hno]; simp
  have hls : lenP (p.set i o) = lenP p + 1 := by
    have := lenP_set hil o
    rw [hif, if_neg (by omega), if_pos hr.1] at this
    omega
  refine ⟨n + 1, _, hown, by omega, ?_, fun x hx => ?_, fun x j z hx0 hx => ?_⟩
  · rw [size_put ht, hnone, hs]
    simp
    omega
  · by_cases hxo : x = o
    · subst hxo
      rw [has_put_same ht.isMap hk, find_put hno hil hif x hr.1, if_pos rfl]
      simp [hr.1]
    · rw [has_put_other (by intro e; injection e with _ e; exact hxo e), h1 x hx]
      by_cases h0 : 0 ≤ x
      · rw [find_put hno hil hif x h0, if_neg hxo]
      · simp [h0]
  · rw [find_put hno hil hif x hx0] at hx
    by_cases hxo : x = o
    · subst hxo
      rw [if_pos rfl] at hx
      injection hx with hx
      subst hx
      exact atKey_put_same ht.isMap hk _ _
    · rw [if_neg hxo] at hx
      rw [atKey_put_other (by intro e; injection e with _ e; exact hxo e)]
      exact h2 x j z hx0 hx
theorem put_run (W : World) (n₀ : Nat) (t : Tb) (p : List Int) (o : Int) (i g c : Nat) (h : TbAt n₀ W t p) (hv : t.v = .slice (some ⟨g, 0, none⟩) p.length c) (hr : rightB o = true) (hq : findP o p = none) (hil : i < p.length) (hif : p[i] = -1) :
    ∃ (st : Nat) (W2 W3 : World), (Instr.mapEntry 57 (.map (some t.bm)) (.int .i64 o)).run Try.prog (W.setCell ⟨g, i, none⟩ (.int .i64 o)).drew = .ok (.tuple #[.int .i64 0, .int .i64 (st : Int)]) W2 ∧
      (Instr.entryStore 57 (.map (some t.bm)) (.int .i64 (st : Int)) (.int .i64 (i : Int))).run Try.prog W2 = .ok () W3 ∧ TbAt n₀ W3 t (p.set i o) ∧ Kept (t.bm :: t.v.ownBlock.toList) W W3 := by
  have hr2 := hr
  simp only [rightB, Bool.and_eq_true, decide_eq_true_eq] at hr2
  have hwf : (Lit.int .i64 o).wf = true := wfI (by omega)
  obtain ⟨n, D, hown, hn, hs, h1, h2⟩ := h.mp
  have hpl := hv ▸ h.pl
  have d0 := own_cellS hpl i (iv p[i]) (by simp [hil])
  rw [Nat.zero_add] at d0
  rw [hif] at d0
  have hgb : g ≠ t.bm := fun e => by
    subst e
    obtain ⟨es, cl, hb2, _⟩ := hown
    have hlt := block_lt_of_cell d0
    rw [World.cell?, hb2] at d0
    cases d0
  have hown1 : ((W.setCell ⟨g, i, none⟩ (.int .i64 o)).drew).ownsMap Try.prog 3 (plainElem Try.prog 3) t.bm n D := World.ownsMap.setCell hown (fun e => hgb e.symm) _
  have hnone : Maps.has D (.int .i64 o) = false := by rw [h1 o hwf, hq]; simp
  obtain ⟨st, o1, hE1, hWt, es1, cl1, ho1⟩ := entry_new hown1 lawI Try.underlying57 (zeroI _) (by have := lenP_le p; have := h.len; simp only [maxLen]; omega) (keyOf_int_mk Try.underlying3 hwf) hnone
  have hb1 : ∃ es cl, ((W.setCell ⟨g, i, none⟩ (.int .i64 o)).drew).heap[t.bm]? = some (.map es cl) := by
    obtain ⟨es, cl, hb2, _⟩ := hown1
    exact ⟨es, cl, hb2⟩
  obtain ⟨esb, clb, hb1⟩ := hb1
  have hb2 : (setBlock ((W.setCell ⟨g, i, none⟩ (.int .i64 o)).drew) t.bm o1).heap[t.bm]? = some o1 := heap_setBlock_same hb1 _
  obtain ⟨o2, hE2, hown3⟩ := hWt t.bm _ (.int .i64 i) _ _ hb2 (plainElem_int Try.underlying3 (wfI (by have := h.len; omega)))
  have K1 : Kept [g] W ((W.setCell ⟨g, i, none⟩ (.int .i64 o)).drew) := ((Kept.refl [g] W).setCell (.inl (by simp)) _).drew
  have K3 : Kept [t.bm] ((W.setCell ⟨g, i, none⟩ (.int .i64 o)).drew) (setBlock (setBlock ((W.setCell ⟨g, i, none⟩ (.int .i64 o)).drew) t.bm o1) t.bm o2) := (kept_setBlock _ _ _).trans (kept_setBlock _ _ _)
  have HM := MapAt.putAt hown3 hn (hown.tidy lawI) hs h1 h2 hr hq hil hif
  have HP := own_put hpl (k := i) (.int .i64 o)
  have kk : Kept (t.bm :: t.v.ownBlock.toList) W (setBlock (setBlock ((W.setCell ⟨g, i, none⟩ (.int .i64 o)).drew) t.bm o1) t.bm o2) := (K1.mono fun z hz => .inl (by simp at hz; simp [hv, Value.ownBlock, hz])).trans (K3.mono fun z hz => .inl (by simp at hz; simp [hz]))
  refine ⟨st, _, _, hE1, hE2, ?_, kk⟩
  have hgt : g ≠ t.tb := own_ne hpl h.tb (by decide) g rfl
  have hbt : t.tb ≠ t.bm := fun e => by
    obtain ⟨n, D, ⟨es, cl, hb2, _⟩, _⟩ := h.mp
    have := h.tb
    unfold Blk at this
    rw [e, hb2] at this
    cases this
  refine ⟨h.tb.kept kk (by simp [hv, Value.ownBlock]; exact ⟨hbt, fun e => hgt e.symm⟩), ?_, HM, h.lo, h.ok.put hr hq hil, by simpa using h.len⟩
  have h3 := K3.owns (World.ownsRow.drew HP) (fun j hj hm => by cases hj; simp at hm; exact hgb hm)
  rw [hv, List.length_set, List.map_set]
  exact h3
/-- are the pages right in their size? -/
def sizeL (n : Int) (l : List Int) : Prop := 0 ≤ n ∧ n ≤ 1048576 ∧ l.length = 13 * ((n.toNat + 12) / 13)
/-- are the numbers right? -/
def goodL (n : Nat) (l : List Int) : Prop := (∀ j, (hj : j < l.length) → l[j] = -1 ∨ (rightB l[j] = true ∧ j < n)) ∧ ∀ i j, (hi : i < l.length) → (hj : j < l.length) → i < j → l[i] = l[j] → l[i] < 0
/-- k of them have been loaded -/
structure Ld (n : Nat) (l : List Int) (k : Nat) (p : List Int) : Prop where
  len : p.length = n
  lt : ∀ j, (hj : j < p.length) → (hl : j < l.length) → j < k → p[j] = l[j]
  ge : ∀ j, (hj : j < p.length) → k ≤ j → p[j] = -1
  ok : ∀ j, (hj : j < l.length) → j < k → l[j] = -1 ∨ (rightB l[j] = true ∧ j < n)
  one : ∀ i j, (hi : i < l.length) → (hj : j < l.length) → i < j → j < k → l[i] = l[j] → l[i] < 0
theorem Ld.start (n : Nat) (l : List Int) : Ld n l 0 (freshP n) :=
  ⟨fresh_length n, fun j _ _ h => by omega, fun j hj _ => List.eq_of_mem_replicate (List.getElem_mem hj), fun j _ h => by omega, fun i j _ _ _ h => by omega⟩
theorem rightB_iff {o : Int} : rightB o = true ↔ 0 ≤ o ∧ o ≤ 2147483646 := by simp [rightB]
theorem Ld.skip {n k : Nat} {l p : List Int} (h : Ld n l k p) (hk : k < l.length) (hx : l[k] = -1) : Ld n l (k + 1) p := by
  refine ⟨h.len, fun j hj hl hjk => ?_, fun j hj hjk => h.ge j hj (by omega), fun j hj hjk => ?_, fun i j hi hj hij hjk e => ?_⟩
  · rcases Nat.lt_or_ge j k with h1 | h1
    · exact h.lt j hj hl h1
    · obtain rfl : j = k := by omega
      rw [hx]
      exact h.ge j hj (Nat.le_refl _)
  · rcases Nat.lt_or_ge j k with h1 | h1
    · exact h.ok j hj h1
    · obtain rfl : j = k := by omega
      exact .inl hx
  · rcases Nat.lt_or_ge j k with h1 | h1
    · exact h.one i j hi hj hij h1 e
    · obtain rfl : j = k := by omega
      omega
theorem Ld.put {n k : Nat} {l p : List Int} (h : Ld n l k p) (hk : k < l.length) (hr : rightB l[k] = true) (hf : findP l[k] p = none) (hn : k < n) : Ld n l (k + 1) (p.set k l[k]) := by
  have hr2 := rightB_iff.1 hr
  refine ⟨by rw [List.length_set]; exact h.len, fun j hj hl hjk => ?_, fun j hj hjk => ?_, fun j hj hjk => ?_, fun i j hi hj hij hjk e => ?_⟩
  · rw [List.getElem_set]
    split
    · rename_i e
      subst e
      rfl
    · rw [List.length_set] at hj
      exact h.lt j hj hl (by omega)
  · rw [List.getElem_set, if_neg (by omega)]
    rw [List.length_set] at hj
    exact h.ge j hj (by omega)
  · rcases Nat.lt_or_ge j k with h1 | h1
    · exact h.ok j hj h1
    · obtain rfl : j = k := by omega
      exact .inr ⟨hr, hn⟩
  · rcases Nat.lt_or_ge j k with h1 | h1
    · exact h.one i j hi hj hij h1 e
    · obtain rfl : j = k := by omega
      have hip : i < p.length := by rw [h.len]; omega
      have h2 := h.lt i hip hi hij
      have h3 := findP_none hf p[i] (List.getElem_mem _)
      exact absurd (h2.trans e) h3
theorem Ld.dup {n k i : Nat} {l p : List Int} (h : Ld n l k p) (hk : k < l.length) (hr : rightB l[k] = true) (hf : findP l[k] p = some i) : ¬ goodL n l := by
  have hr2 := rightB_iff.1 hr
  obtain ⟨h1, h2, _⟩ := findP_some hf
  have hik : i < k := by
    rcases Nat.lt_or_ge i k with h3 | h3
    · exact h3
    · have := h.ge i h1 h3
      omega
  intro hg
  have h3 := h.lt i h1 (by omega) hik
  have := hg.2 i k (by omega) hk hik (by omega)
  omega
theorem Ld.end_ {n : Nat} {l p : List Int} (h : Ld n l l.length p) (hln : n ≤ l.length) : p = l.take n ∧ goodL n l := by
  refine ⟨List.ext_getElem (by rw [h.len, List.length_take]; omega) fun j h1 h2 => ?_, fun j hj => h.ok j hj hj, fun i j hi hj hij e => h.one i j hi hj hij hj e⟩
  rw [List.getElem_take]
  rw [List.length_take] at h2
  exact h.lt j h1 (by omega) (by omega)
end Go.Proofs.Ytfidgmpeiabhiaa
