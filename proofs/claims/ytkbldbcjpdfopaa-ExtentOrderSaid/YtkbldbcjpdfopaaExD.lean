/- Extents, sorted. -/
import Derived.Test.YtkbldbcjpdfopaaExC
import Derived.Test.YtkbldbcjpdfopaaShelf
import Derived.Test.YtkbldbcjpdfopaaSort
import Derived.Shelf.SlSortCmp.NoneTotal
import Derived.Sort.OwnSorted
namespace Go.Proofs.Ytkbldbcjpdfopaa
open Go.RowKit Go.Sort Go.Shelf Go.Lib

theorem own_cellS {w : World} {base e size n g c : Nat} {xs : List Value} (h : w.ownsRow base e size (.slice (some ⟨g, 0, none⟩) n c) n xs) (j : Nat) (u : Value) (hu : xs[j]? = some u) : w.cell? ⟨g, 0 + j, none⟩ = some u := by
  have := h.cells (g := g) rfl j u hu
  rwa [Addr.add_lit] at this
theorem own_frozen {w : World} {base e size n g c : Nat} {xs : List Value} (h : w.ownsRow base e size (.slice (some ⟨g, 0, none⟩) n c) n xs) (j : Nat) : w.frozen? ⟨g, j, none⟩ = false := by
  rcases h.2 with ⟨h2, _⟩ | ⟨g', cap, cur, e', hb, hh, _⟩
  · cases h2
  · injection e' with e1
    injection e1 with e1
    injection e1 with e1
    subst e1
    exact Blk.frozen (show Blk w g e cur from hh) j
instance : Inhabited Ex := ⟨⟨0, 0⟩⟩
theorem flat_is (l : List Ex) : (flatK exE 2 l.toArray).toList = l.flatMap exE := by
  apply List.ext_getElem?
  intro j
  by_cases hj : j < l.length * 2
  · have e : j = j / 2 * 2 + j % 2 := by omega
    have h2 := flatMap_at 2 exE exE_len l (j / 2) (j % 2) (by omega) (by omega)
    rw [← e] at h2
    rw [h2]
    simp only [flatK, Array.toList_map, Array.toList_range, List.getElem?_map, List.size_toArray]
    rw [List.getElem?_range hj]
    simp only [Option.map_some]
    rw [List.getElem!_toArray, getElem!_pos l (j / 2) (by omega)]
    have h3 : j % 2 = 0 ∨ j % 2 = 1 := by omega
    rcases h3 with h3 | h3 <;> rw [h3] <;> rfl
  · rw [List.getElem?_eq_none (by simp [flatK]; omega), List.getElem?_eq_none (by rw [flatMap_len 2 exE exE_len]; omega)]
theorem holds_own {w : World} {base g cap : Nat} {l : List Ex} (h : w.ownsRow base 23 2 (.slice (some ⟨g, 0, none⟩) l.length cap) l.length (l.flatMap exE)) : HoldsK exE 2 w g 0 l.toArray := by
  intro j hj
  have hj2 : j < (l.flatMap exE).length := by
    rw [← flat_is, Array.length_toList]
    exact hj
  have hc := own_cellS h j (l.flatMap exE)[j] (List.getElem?_eq_getElem hj2)
  refine ⟨?_, by rw [Nat.zero_add]; exact own_frozen h j⟩
  rw [hc]
  congr 1
  have e : (flatK exE 2 l.toArray)[j]! = (flatK exE 2 l.toArray).toList[j]! := by
    rw [getElem!_pos _ j hj, getElem!_pos _ j (by rw [Array.length_toList]; exact hj), Array.getElem_toList]
  show _ = id _
  rw [id, e, flat_is, getElem!_pos _ j hj2]
theorem own_sorted {w : World} {base g cap n : Nat} {os : Array Obj} {l l' : List Ex} (hl : l'.length = l.length) (h : w.ownsRow base 23 2 (.slice (some ⟨g, 0, none⟩) l.length cap) l.length (l.flatMap exE)) :
    (sortWorldK exE 2 w g 0 n l'.toArray os).ownsRow base 23 2 (.slice (some ⟨g, 0, none⟩) l.length cap) l.length (l'.flatMap exE) ∧ Kept [g] w (sortWorldK exE 2 w g 0 n l'.toArray os) := by
  refine ⟨?_, rfl, rfl, rfl, by simp [sortWorldK, putRowK, Sort.ahead], fun k hk hne => ?_⟩
  · refine ⟨by rw [flatMap_len 2 exE exE_len, hl], ?_⟩
    rcases h.2 with ⟨h2, _⟩ | ⟨g', cap', cur, e', hb, hh, h1, h2, h3, h4⟩
    · cases h2
    · injection e' with e1 _ e3
      injection e1 with e1
      injection e1 with e1
      subst e1
      subst e3
      have hg : g < w.heap.size := (Array.getElem?_eq_some_iff.1 hh).1
      refine .inr ⟨g, cap, putCells id 0 (flatK exE 2 l'.toArray) cur, rfl, hb, ?_, h1, h2, by simp [putCells, h3], ?_⟩
      · unfold sortWorldK putRowK
        rw [heap_grow_old _ _ (by simpa [putRow, mapBlock, Sort.ahead] using hg)]
        simp [putRow, mapBlock, Sort.ahead, Array.getElem?_modify, hh, onCells]
      · apply List.ext_getElem?
        intro j
        by_cases hj : j < l.length * 2
        · have hjf : j < (flatK exE 2 l'.toArray).size := by simp [hl]; omega
          rw [List.getElem?_take_of_lt hj, Array.getElem?_toList, ← flat_is, Array.getElem?_toList, Array.getElem?_eq_getElem hjf]
          have hjc : j < cur.size := by rw [h3]; omega
          simp only [putCells, Array.getElem?_mapIdx, Array.getElem?_eq_getElem hjc, Option.map_some, Nat.zero_le, true_and, Nat.zero_add, hjf, if_true, Nat.sub_zero, id]
          rw [getElem!_pos _ j hjf]
        · rw [List.getElem?_take_eq_none (by omega), List.getElem?_eq_none (by rw [flatMap_len 2 exE exE_len, hl]; omega)]
  · unfold sortWorldK putRowK
    rw [heap_grow_old _ _ (by simpa [putRow, mapBlock, Sort.ahead] using hk)]
    have : g ≠ k := fun e => hne (by simp [e])
    simp [putRow, mapBlock, Sort.ahead, Array.getElem?_modify, this]
set_option maxHeartbeats 1000000 in
theorem clos (x y : Ex) (W : World) : Calls Try.prog 27 #[.agg #[.int .i64 x.st, .int .i64 x.len], .agg #[.int .i64 y.st, .int .i64 y.len]] W fun e w' => e = .returned (.int .i64 (Lib.compareInt x.st y.st)) ∧ ∃ q os', w' = grow (W.drewN q) os' := by
  have hcon := fun W' => Try.cmp_Compare_int x.st y.st W'
  generalize Lib.compareInt x.st y.st = r at hcon ⊢
  go_enter Try.func27, Try.ntmps27
  go_wp2_with (go_at_call 28; refine (hcon _).mono ?_; rintro e w' ⟨rfl, rfl⟩)
  go_ret
  exact ⟨rfl, 0, _, by rw [alloc_eq_grow, alloc_eq_grow, grow_grow]; rfl⟩
theorem lays (blk off size : Nat) (w : World) : CmpLays Try.prog 27 #[] exE 2 (fun x y => Lib.compareInt x.st y.st) blk off size w :=
  fun _ _ _ _ x y => clos x y _
theorem ltO (x y : Ex) : ltOf (fun x y : Ex => Lib.compareInt x.st y.st) x y = decide (x.st < y.st) := by
  unfold ltOf Lib.compareInt
  by_cases h1 : x.st < y.st
  · simp [h1]
  · by_cases h2 : y.st < x.st <;> simp [h1, h2]
theorem swoO : SWO (ltOf fun x y : Ex => Lib.compareInt x.st y.st) where
  irrefl x := by rw [ltO]; simp
  trans x y z h1 h2 := by rw [ltO] at *; simp at *; omega
  ntrans x y z h1 h2 := by rw [ltO] at *; simp at *; omega
theorem aggX (w : World) : (isAgg 23).run Try.prog w = .ok true w := by kernel_rfl
theorem sizX (w : World) : (Go.sizeOf 23).run Try.prog w = .ok 2 w := by kernel_rfl
theorem sort_X (w : World) (base : Nat) (v : Value) (l : List Ex) (hn : l.length ≤ 8796093022208) (h : w.ownsRow base 23 2 v l.length (l.flatMap exE)) :
    Calls Try.prog 29 #[v, .func (.func 27) #[] #[]] w fun e w' => e = .returned (.tuple #[]) ∧ ∃ l' : List Ex, l'.Perm l ∧ l'.Pairwise (fun x y => x.st ≤ y.st) ∧ w'.ownsRow base 23 2 v l.length (l'.flatMap exE) ∧ Kept v.ownBlock.toList w w' := by
  by_cases h0 : l.length = 0
  · have hl : l = [] := List.eq_nil_of_length_eq_zero h0
    subst hl
    obtain ⟨A, c, rfl, _⟩ := own_slice h
    refine (AnyF.slices_SortFunc_none { Try.sortE with } A c _ w).mono ?_
    rintro e w' ⟨rfl, rfl⟩
    exact ⟨rfl, [], List.Perm.refl _, List.Pairwise.nil, h, Kept.refl _ _⟩
  · obtain ⟨g, c, rfl, _⟩ := own_some h (by omega)
    have hlt := (h.lt g rfl).2
    have eg : ∀ args w, (callFunc 27 args).run Try.prog w = .ok (.enter 27 args) w := enters_of Try.func27 (by kernel_rfl) rfl
    have hcon := AnyQ.slices_SortFunc Try.sortE 2 aggX sizX exE exE_len (fun x v hv => by simp [exE] at hv; rcases hv with rfl | rfl <;> rfl) (fun x y => Lib.compareInt x.st y.st) swoO 27 #[] g 0 c l.toArray w eg (lays g 0 _ w) (holds_own h) hlt (by simp; omega)
    refine hcon.mono ?_
    rintro e w' ⟨rfl, d', n, os, hp, hs, rfl⟩
    have hsz : d'.toList.length = l.length := by have := hp.1; simpa using this
    have e1 : d'.toList.toArray = d' := by simp
    obtain ⟨f1, f2⟩ := own_sorted (n := n) (os := os) hsz h
    rw [e1] at f1 f2
    refine ⟨rfl, d'.toList, ?_, ?_, f1, f2⟩
    · have h3 := hp.2.2
      have e2 : d'.extract 0 l.toArray.size = d' := by
        rw [← hp.1]
        simp
      rw [e2] at h3
      simpa using h3
    · rw [List.pairwise_iff_getElem]
      intro i j hi hj hij
      have h4 := hs i j (Nat.zero_le _) hij (by rw [← hp.1]; simpa using hj)
      rw [ltO] at h4
      rw [getElem!_pos d' j (by simpa using hj), getElem!_pos d' i (by simpa using hi)] at h4
      simp only [Array.getElem_toList]
      simpa using h4
def valV (b : Nat) : Value := .func (.func 30) #[] #[.pointer (some ⟨b, 0, none⟩)]
theorem slices_Values (A : Option Addr) (n c : Nat) (w : World) : Calls Try.prog 26 #[.slice A n c] w fun e w' => e = .returned (valV w.heap.size) ∧ w' = w.alloc (.cells #[.slice A n c] 24) := by
  go_enter Try.func26, Try.ntmps26
  go_wp2_with fail
  go_ret
  exact ⟨rfl, rfl⟩
def sortV : Value := .func (.func 27) #[] #[]
def SortPost (l : List Ex) (W : World) (e : Ending) (w' : World) : Prop := ∃ (A : Option Addr) (c : Nat) (l' : List Ex), e = .returned (.slice A l'.length c) ∧ l'.Perm l ∧ l'.Pairwise (fun x y => x.st ≤ y.st) ∧ w'.ownsRow W.heap.size 23 2 (.slice A l'.length c) l'.length (l'.flatMap exE) ∧ Kept [] W w'
theorem slices_SortedFunc (W : World) (n₀ b : Nat) (A : Option Addr) (c : Nat) (l : List Ex) (hn0 : n₀ ≤ W.heap.size) (hln : l.length ≤ 8796093022208) (hL : Blk W b 24 #[.slice A l.length c]) (hA : RdX n₀ W A l) :
    Calls Try.prog 25 #[valV b, sortV] W (SortPost l W) := by
  have H := collect_seq 30 #[.pointer (some ⟨b, 0, none⟩)] n₀ (fun xs => xs = l) (fun pre => pre <+: l) l.length W hn0 hln (enters_of Try.func30 (by kernel_rfl) rfl)
    (fun W' own k ho => values_seq l A c 3 b n₀ W' hln (Nat.le_trans hn0 k.size) (hL.kept k (fun h => by cases h)) (hA.kept k hn0) (by decide) own ho)
  clear hL hA
  unfold valV sortV
  go_enter Try.func25, Try.ntmps25
  go_wp2_with fail
  refine H.mono ?_
  rintro e w1 ⟨v, xs, rfl, rfl, ho, k1⟩
  obtain ⟨A1, c1, rfl, _⟩ := own_slice ho
  go_wp2_with fail
  refine (sort_X w1 W.heap.size _ xs hln ho).mono ?_
  rintro e w2 ⟨rfl, l', hp, hs, ho2, k2⟩
  go_wp2_with fail
  go_ret
  have hl := hp.length_eq
  rw [← hl]
  rw [← hl] at ho2
  exact ⟨A1, c1, l', rfl, hp, hs, ho2, k1.trans' k2 (fun z hz => .inr ((ho.lt z (Option.mem_toList.1 hz)).1))⟩
theorem ext_sorted (W : World) (n₀ : Nat) (A : Option Addr) (c : Nat) (l : List Ex) (hn0 : n₀ ≤ W.heap.size) (hln : l.length ≤ 8796093022208) (hA : RdX n₀ W A l) :
    Calls Try.prog 20 #[.slice A l.length c] W (SortPost l W) := by
  have K := (Kept.refl [] W).alloc (.cells #[.slice A l.length c] 24)
  have H := slices_SortedFunc (W.alloc (.cells #[.slice A l.length c] 24)) n₀ W.heap.size A c l (Nat.le_trans hn0 K.size) hln (Blk.new W _ _) (hA.kept K hn0)
  clear hA
  go_enter Try.func20, Try.ntmps20
  go_wp2_with fail
  refine (slices_Values A l.length c W).mono ?_
  rintro e w1 ⟨rfl, rfl⟩
  go_wp2_with fail
  refine H.mono ?_
  rintro e w2 ⟨A1, c1, l', rfl, hp, hs, ho, k⟩
  go_wp2_with fail
  go_ret
  exact ⟨A1, c1, l', rfl, hp, hs, own_down ho K.size, K.trans k⟩
end Go.Proofs.Ytkbldbcjpdfopaa
