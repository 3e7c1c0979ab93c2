/- Tables: exceptions, sorted: the library's sort in this seat's words. -/
import Derived.Test.YtfidgmpeiabhiaaTbH
import Derived.Test.YtfidgmpeiabhiaaSort
import Derived.Shelf.SlSortCmp.NoneTotal
import Derived.Sort.OwnSorted
namespace Go.Proofs.Ytfidgmpeiabhiaa
open Go.RowKit Go.Sort Go.Shelf Go.Lib

def enE (x : En) : List Value := [.int .i64 x.org, .int .i64 x.idx]
theorem enE_len (x : En) : (enE x).length = 2 := rfl
instance : Inhabited En := ⟨⟨0, 0⟩⟩
theorem flat_is (l : List En) : (flatK enE 2 l.toArray).toList = l.flatMap enE := by
  apply List.ext_getElem?
  intro j
  by_cases hj : j < l.length * 2
  · have e : j = j / 2 * 2 + j % 2 := by omega
    have h2 := flatMap_at 2 enE enE_len l (j / 2) (j % 2) (by omega) (by omega)
    rw [← e] at h2
    rw [h2]
    simp only [flatK, Array.toList_map, Array.toList_range, List.getElem?_map, List.size_toArray]
    rw [List.getElem?_range hj]
    simp only [Option.map_some]
    rw [List.getElem!_toArray, getElem!_pos l (j / 2) (by omega)]
    have h3 : j % 2 = 0 ∨ j % 2 = 1 := by omega
    rcases h3 with h3 | h3 <;> rw [h3] <;> rfl
  · rw [List.getElem?_eq_none (by simp [flatK]; omega), List.getElem?_eq_none (by rw [flatMap_len 2 enE enE_len]; omega)]
theorem holds_own {w : World} {base g cap : Nat} {l : List En} (h : w.ownsRow base 55 2 (.slice (some ⟨g, 0, none⟩) l.length cap) l.length (l.flatMap enE)) : HoldsK enE 2 w g 0 l.toArray := by
  intro j hj
  have hj2 : j < (l.flatMap enE).length := by
    rw [← flat_is, Array.length_toList]
    exact hj
  have hc := own_cellS h j (l.flatMap enE)[j] (List.getElem?_eq_getElem hj2)
  refine ⟨?_, by rw [Nat.zero_add]; exact own_frozen h j⟩
  rw [hc]
  congr 1
  have e : (flatK enE 2 l.toArray)[j]! = (flatK enE 2 l.toArray).toList[j]! := by
    rw [getElem!_pos _ j hj, getElem!_pos _ j (by rw [Array.length_toList]; exact hj), Array.getElem_toList]
  show _ = id _
  rw [id, e, flat_is, getElem!_pos _ j hj2]
theorem own_sorted {w : World} {base g cap n : Nat} {os : Array Obj} {l l' : List En} (hl : l'.length = l.length) (h : w.ownsRow base 55 2 (.slice (some ⟨g, 0, none⟩) l.length cap) l.length (l.flatMap enE)) :
    (sortWorldK enE 2 w g 0 n l'.toArray os).ownsRow base 55 2 (.slice (some ⟨g, 0, none⟩) l.length cap) l.length (l'.flatMap enE) ∧ Kept [g] w (sortWorldK enE 2 w g 0 n l'.toArray os) := by
  refine ⟨?_, rfl, rfl, rfl, by simp [sortWorldK, putRowK, Sort.ahead], fun k hk hne => ?_⟩
  · refine ⟨by rw [flatMap_len 2 enE enE_len, hl], ?_⟩
    rcases h.2 with ⟨h2, _⟩ | ⟨g', cap', cur, e', hb, hh, h1, h2, h3, h4⟩
    · cases h2
    · injection e' with e1 _ e3
      injection e1 with e1
      injection e1 with e1
      subst e1
      subst e3
      have hg : g < w.heap.size := (Array.getElem?_eq_some_iff.1 hh).1
      refine .inr ⟨g, cap, putCells id 0 (flatK enE 2 l'.toArray) cur, rfl, hb, ?_, h1, h2, by simp [putCells, h3], ?_⟩
      · unfold sortWorldK putRowK
        rw [heap_grow_old _ _ (by simpa [putRow, mapBlock, Sort.ahead] using hg)]
        simp [putRow, mapBlock, Sort.ahead, Array.getElem?_modify, hh, onCells]
      · apply List.ext_getElem?
        intro j
        by_cases hj : j < l.length * 2
        · have hjf : j < (flatK enE 2 l'.toArray).size := by simp [hl]; omega
          rw [List.getElem?_take_of_lt hj, Array.getElem?_toList, ← flat_is, Array.getElem?_toList, Array.getElem?_eq_getElem hjf]
          have hjc : j < cur.size := by rw [h3]; omega
          simp only [putCells, Array.getElem?_mapIdx, Array.getElem?_eq_getElem hjc, Option.map_some, Nat.zero_le, true_and, Nat.zero_add, hjf, if_true, Nat.sub_zero, id]
          rw [getElem!_pos _ j hjf]
        · rw [List.getElem?_take_eq_none (by omega), List.getElem?_eq_none (by rw [flatMap_len 2 enE enE_len, hl]; omega)]
  · unfold sortWorldK putRowK
    rw [heap_grow_old _ _ (by simpa [putRow, mapBlock, Sort.ahead] using hk)]
    have : g ≠ k := fun e => hne (by simp [e])
    simp [putRow, mapBlock, Sort.ahead, Array.getElem?_modify, this]
end Go.Proofs.Ytfidgmpeiabhiaa
