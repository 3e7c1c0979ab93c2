/- Exceptions in runs: the document's answer: all of them. -/
import Derived.Test.YtgbicbeofgpinaaRnH
namespace Go.Proofs.Ytgbicbeofgpinaa
open Go.RowKit

theorem own_up {w : World} {base e size n : Nat} {v : Value} {xs : List Value} (h : w.ownsRow 0 e size v n xs) (hb : ∀ k, v.ownBlock = some k → base ≤ k) : w.ownsRow base e size v n xs := by
  refine ⟨h.1, ?_⟩
  rcases h.2 with h2 | ⟨g, cap, cur, rfl, _, h3⟩
  · exact .inl h2
  · exact .inr ⟨g, cap, cur, rfl, hb g rfl, h3⟩
theorem own_put {w : World} {base e n g c k : Nat} {xs : List Value} (h : w.ownsRow base e 1 (.slice (some ⟨g, 0, none⟩) n c) n xs) (u : Value) : (w.setCell ⟨g, k, none⟩ u).ownsRow base e 1 (.slice (some ⟨g, 0, none⟩) n c) n (xs.set k u) := by
  refine ⟨by simpa using h.1, ?_⟩
  rcases h.2 with ⟨h2, _⟩ | ⟨g', cap, cur, e', hb, hh, h1, h2, h3, h4⟩
  · cases h2
  · injection e' with e1 _ e3
    injection e1 with e1
    injection e1 with e1
    subst e1
    subst e3
    refine .inr ⟨g, c, cur.setIfInBounds k u, rfl, hb, Blk.set_ (show Blk w g e cur from hh) k u, h1, h2, by simpa using h3, ?_⟩
    rw [← h4, Array.toList_setIfInBounds, List.take_set]
theorem split_runs {xs : List Rn} {R : List (List En)} {r : List En} (h : xs.map (·.r) = R ++ [r]) : ∃ xs0 x, xs = xs0 ++ [x] ∧ xs0.map (·.r) = R ∧ x.r = r := by
  obtain ⟨a, b, e, h1, h2⟩ := List.map_eq_append_iff.1 h
  obtain ⟨x, t, e2, h3, h4⟩ := List.map_eq_cons_iff.1 h2
  have : t = [] := by simpa using h4
  subst this
  exact ⟨a, x, by rw [e, e2], h1, h3⟩
theorem emptyRow (w : World) (t : TypeId) (size : Nat) : (w.alloc (.cells #[] t)).ownsRow 0 t size (.slice (some ⟨w.heap.size, 0, none⟩) 0 0) 0 [] := ⟨by simp, .inr ⟨w.heap.size, 0, #[], rfl, Nat.zero_le _, heap_alloc_new w _, Nat.le_refl _, Nat.zero_le _, by simp, by simp⟩⟩
/-- one exception of its own -/
theorem oneRow (w : World) (y : En) : (w.alloc (.cells #[.int .i64 y.org, .int .i64 y.idx] 36)).ownsRow 0 36 2 (.slice (some ⟨w.heap.size, 0, none⟩) 1 1) 1 ([y].flatMap enE) := ⟨by simp [enE], .inr ⟨w.heap.size, 1, _, rfl, Nat.zero_le _, heap_alloc_new w _, Nat.le_refl _, by simp [maxLen], by simp, by simp [enE]⟩⟩
theorem RnOk.kept {n₀ : Nat} {x : Rn} {W W' : World} {ls : List Nat} (h : RnOk n₀ x W) (k : Kept ls W W') (hg : x.g ∉ ls) : RnOk n₀ x W' := ⟨k.owns h.1 (fun j hj => by cases hj; exact hg), h.2⟩
theorem own_cell1 {w : World} {base e n g c : Nat} {xs : List Value} (h : w.ownsRow base e 1 (.slice (some ⟨g, 0, none⟩) n c) n xs) (j : Nat) (u : Value) (hu : xs[j]? = some u) : w.cell? ⟨g, j, none⟩ = some u := by
  have := h.cells (g := g) rfl j u hu
  rwa [Addr.add_lit, Nat.zero_add] at this
theorem own_frozen {w : World} {base e size n g c : Nat} {xs : List Value} (h : w.ownsRow base e size (.slice (some ⟨g, 0, none⟩) n c) n xs) (j : Nat) : w.frozen? ⟨g, j, none⟩ = false := by
  rcases h.2 with ⟨h2, _⟩ | ⟨g', cap, cur, e', hb, hh, _⟩
  · cases h2
  · injection e' with e1
    injection e1 with e1
    injection e1 with e1
    subst e1
    exact Blk.frozen (show Blk w g e cur from hh) j
/-- a run of its own behind the others -/
theorem fin_app {w wr W2 : World} {A' : Option Addr} {C : Nat} {xs : List Rn} {y : En} {v' : Value} (HO : wr.ownsRow w.heap.size 22 1 (.slice A' xs.length C) xs.length (xs.map rnV)) (HX : ∀ x ∈ xs, RnOk w.heap.size x wr) (HK : Kept [] w wr)
    (h2 : W2.ownsRow 0 22 1 v' (xs.length + 1) (xs.map rnV ++ [.slice (some ⟨wr.heap.size, 0, none⟩) 1 1]))
    (h3 : ((wr.alloc (.cells #[.int .i64 y.org, .int .i64 y.idx] 36)).alloc (.cells #[.slice (some ⟨wr.heap.size, 0, none⟩) 1 1] 22)).grownBy W2 (Value.slice A' xs.length C).ownBlock)
    (h4 : v'.ownBlock = (Value.slice A' xs.length C).ownBlock ∨ v'.ownBlock = some ((wr.alloc (.cells #[.int .i64 y.org, .int .i64 y.idx] 36)).alloc (.cells #[.slice (some ⟨wr.heap.size, 0, none⟩) 1 1] 22)).heap.size) :
    W2.ownsRow w.heap.size 22 1 v' (xs ++ [(⟨[y], wr.heap.size, 1⟩ : Rn)]).length ((xs ++ [(⟨[y], wr.heap.size, 1⟩ : Rn)]).map rnV) ∧ (∀ x ∈ xs ++ [(⟨[y], wr.heap.size, 1⟩ : Rn)], RnOk w.heap.size x W2) ∧ Kept [] w W2 := by
  have hz := HK.size
  have k2 : Kept (Value.slice A' xs.length C).ownBlock.toList wr W2 := (((Kept.refl _ wr).alloc _).alloc _).grown h3 (fun k e => .inl (by simp [e]))
  have k3 : Kept (Value.slice A' xs.length C).ownBlock.toList (wr.alloc (.cells #[.int .i64 y.org, .int .i64 y.idx] 36)) W2 := ((Kept.refl _ _).alloc _).grown h3 (fun k e => .inl (by simp [e]))
  have hlo : ∀ k, (Value.slice A' xs.length C).ownBlock = some k → w.heap.size ≤ k := fun k hk => (HO.lt k hk).1
  refine ⟨?_, ?_, HK.trans' k2 (fun z hm => .inr (hlo z (by simpa using hm)))⟩
  · have e1 : (xs ++ [(⟨[y], wr.heap.size, 1⟩ : Rn)]).length = xs.length + 1 := by simp
    have e2 : (xs ++ [(⟨[y], wr.heap.size, 1⟩ : Rn)]).map rnV = xs.map rnV ++ [.slice (some ⟨wr.heap.size, 0, none⟩) 1 1] := by simp [rnV]
    rw [e1, e2]
    refine own_up h2 (fun k hk => ?_)
    rcases h4 with h4 | h4
    · exact hlo k (h4 ▸ hk)
    · rw [h4] at hk
      injection hk with hk
      subst hk
      simp
      omega
  · intro x hx
    rcases List.mem_append.1 hx with hx | hx
    · exact (HX x hx).kept k2 (fun hm => own_own_ne (HX x hx).1 HO (by decide) x.g rfl (by simpa using hm))
    · obtain rfl := List.mem_singleton.1 hx
      have h5 := oneRow wr y
      refine ⟨own_up (k3.owns h5 (fun k hk => fun hm => own_own_ne h5 (HO.alloc (.cells #[.int .i64 y.org, .int .i64 y.idx] 36)) (by decide) k hk (by simpa using hm))) (fun k hk => by cases hk; exact hz), by simp⟩
/-- the last run, longer by one -/
theorem fin_put {w wr W2 : World} {G C g2 c2 : Nat} {xs : List Rn} {x : Rn} {r2 : List En} (HO : wr.ownsRow w.heap.size 22 1 (.slice (some ⟨G, 0, none⟩) (xs.length + 1) C) (xs.length + 1) (xs.map rnV ++ [rnV x])) (HX : ∀ z ∈ xs ++ [x], RnOk w.heap.size z wr) (HK : Kept [] w wr) (k2 : Kept [] wr W2)
    (h2 : W2.ownsRow 0 36 2 (.slice (some ⟨g2, 0, none⟩) r2.length c2) r2.length (r2.flatMap enE)) (hne : r2 ≠ []) (hg : w.heap.size ≤ g2) :
    (W2.setCell ⟨G, xs.length, none⟩ (.slice (some ⟨g2, 0, none⟩) r2.length c2)).ownsRow w.heap.size 22 1 (.slice (some ⟨G, 0, none⟩) (xs.length + 1) C) (xs ++ [(⟨r2, g2, c2⟩ : Rn)]).length ((xs ++ [(⟨r2, g2, c2⟩ : Rn)]).map rnV) ∧
    (∀ z ∈ xs ++ [(⟨r2, g2, c2⟩ : Rn)], RnOk w.heap.size z (W2.setCell ⟨G, xs.length, none⟩ (.slice (some ⟨g2, 0, none⟩) r2.length c2))) ∧ Kept [] w (W2.setCell ⟨G, xs.length, none⟩ (.slice (some ⟨g2, 0, none⟩) r2.length c2)) := by
  have hlo : w.heap.size ≤ G := (HO.lt G rfl).1
  have HO2 := k2.owns HO (fun _ _ h => by cases h)
  refine ⟨?_, ?_, (HK.trans k2).setCell (.inr hlo) _⟩
  · have e1 : (xs ++ [(⟨r2, g2, c2⟩ : Rn)]).length = xs.length + 1 := by simp
    have e2 : (xs ++ [(⟨r2, g2, c2⟩ : Rn)]).map rnV = (xs.map rnV ++ [rnV x]).set xs.length (.slice (some ⟨g2, 0, none⟩) r2.length c2) := by
      rw [List.set_append_right _ _ (by simp)]
      simp [rnV]
    rw [e1, e2]
    exact own_put HO2 _
  · intro z hz
    rcases List.mem_append.1 hz with hz | hz
    · have h3 := (HX z (List.mem_append_left _ hz)).kept k2 (fun h => by cases h)
      exact ⟨own_set h3.1 (fun k hk e => own_own_ne h3.1 HO2 (by decide) k hk (by simp [Value.ownBlock, e])) _, h3.2⟩
    · obtain rfl := List.mem_singleton.1 hz
      exact ⟨own_set (own_up h2 (fun k hk => by cases hk; exact hg)) (fun k hk e => own_own_ne h2 HO2 (by decide) k hk (by simp [Value.ownBlock, e])) _, hne⟩
end Go.Proofs.Ytgbicbeofgpinaa
