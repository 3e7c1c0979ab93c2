/- Tables: exceptions, sorted: the call. -/
import Derived.Test.YtfidgmpeiabhiaaTbI
namespace Go.Proofs.Ytfidgmpeiabhiaa
open Go.RowKit Go.Sort Go.Shelf Go.Lib

set_option maxHeartbeats 1000000 in
theorem clos (x y : En) (W : World) : Calls Try.prog 39 #[.agg #[.int .i64 x.org, .int .i64 x.idx], .agg #[.int .i64 y.org, .int .i64 y.idx]] W fun e w' => e = .returned (.int .i64 (Lib.compareInt x.org y.org)) ∧ ∃ q os', w' = grow (W.drewN q) os' := by
  have hcon := fun W' => Try.cmp_Compare_int x.org y.org W'
  generalize Lib.compareInt x.org y.org = r at hcon ⊢
  go_enter Try.func39, Try.ntmps39
  go_wp2_with (go_at_call 40; refine (hcon _).mono ?_; rintro e w' ⟨rfl, rfl⟩)
  go_ret
  exact ⟨rfl, 0, _, by rw [alloc_eq_grow, alloc_eq_grow, grow_grow]; rfl⟩
theorem lays (blk off size : Nat) (w : World) : CmpLays Try.prog 39 #[] enE 2 (fun x y => Lib.compareInt x.org y.org) blk off size w :=
  fun _ _ _ _ x y => clos x y _
theorem ltO (x y : En) : ltOf (fun x y : En => Lib.compareInt x.org y.org) x y = decide (x.org < y.org) := by
  unfold ltOf Lib.compareInt
  by_cases h1 : x.org < y.org
  · simp [h1]
  · by_cases h2 : y.org < x.org <;> simp [h1, h2]
theorem swoO : SWO (ltOf fun x y : En => Lib.compareInt x.org y.org) where
  irrefl x := by rw [ltO]; simp
  trans x y z h1 h2 := by rw [ltO] at *; simp at *; omega
  ntrans x y z h1 h2 := by rw [ltO] at *; simp at *; omega
theorem aggE (w : World) : (isAgg 55).run Try.prog w = .ok true w := by kernel_rfl
theorem sizE (w : World) : (Go.sizeOf 55).run Try.prog w = .ok 2 w := by kernel_rfl
theorem sort_E (w : World) (base : Nat) (v : Value) (l : List En) (hn : l.length ≤ 1048576) (h : w.ownsRow base 55 2 v l.length (l.flatMap enE)) :
    Calls Try.prog 38 #[v, .func (.func 39) #[] #[]] w fun e w' => e = .returned (.tuple #[]) ∧ ∃ l' : List En, l'.Perm l ∧ l'.Pairwise (fun x y => x.org ≤ y.org) ∧ w'.ownsRow base 55 2 v l.length (l'.flatMap enE) ∧ Kept v.ownBlock.toList w w' := by
  by_cases h0 : l.length = 0
  · have hl : l = [] := List.eq_nil_of_length_eq_zero h0
    subst hl
    obtain ⟨A, c, rfl, _⟩ := own_slice h
    refine (AnyF.slices_SortFunc_none { Try.sortE with } A c _ w).mono ?_
    rintro e w' ⟨rfl, rfl⟩
    exact ⟨rfl, [], List.Perm.refl _, List.Pairwise.nil, h, Kept.refl _ _⟩
  · obtain ⟨g, c, rfl, _⟩ := own_some h (by omega)
    have hlt := (h.lt g rfl).2
    have eg : ∀ args w, (callFunc 39 args).run Try.prog w = .ok (.enter 39 args) w := enters_of Try.func39 (by kernel_rfl) rfl
    have hcon := AnyQ.slices_SortFunc Try.sortE 2 aggE sizE enE enE_len (fun x v hv => by simp [enE] at hv; rcases hv with rfl | rfl <;> rfl) (fun x y => Lib.compareInt x.org y.org) swoO 39 #[] g 0 c l.toArray w eg (lays g 0 _ w) (holds_own h) hlt (by simp; omega)
    refine hcon.mono ?_
    rintro e w' ⟨rfl, d', n, os, hp, hs, rfl⟩
    have hsz : d'.toList.length = l.length := by have := hp.1; simpa using this
    have e1 : d'.toList.toArray = d' := by simp
    obtain ⟨f1, f2⟩ := own_sorted (n := n) (os := os) hsz h
    rw [e1] at f1 f2
    refine ⟨rfl, d'.toList, ?_, ?_, f1, f2⟩
    · have h3 := hp.2.2
      have e2 : d'.extract 0 l.toArray.size = d' := by
        rw [← hp.1]
        simp
      rw [e2] at h3
      simpa using h3
    · rw [List.pairwise_iff_getElem]
      intro i j hi hj hij
      have h4 := hs i j (Nat.zero_le _) hij (by rw [← hp.1]; simpa using hj)
      rw [ltO] at h4
      rw [getElem!_pos d' j (by simpa using hj), getElem!_pos d' i (by simpa using hi)] at h4
      simp only [Array.getElem_toList]
      simpa using h4
end Go.Proofs.Ytfidgmpeiabhiaa
