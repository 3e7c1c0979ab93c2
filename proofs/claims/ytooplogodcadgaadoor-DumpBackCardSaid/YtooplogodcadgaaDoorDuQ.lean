/- Dumps: a slot's line in memory; what a store of a whole line wants. -/
import Derived.Test.YtooplogodcadgaaDoorDuD
import Derived.Deep.RegionHeld3
namespace Go.Proofs.YtooplogodcadgaaDoor
open Go.RowKit Go.Lib

def nilE : Value := .slice none 0 0
def lineC (x : Sl) (E : Value) : Array Value := #[.int .i64 x.id, .int .i64 x.state, .int .i64 x.st, .int .i64 x.len, .int .u32 x.gen, .int .i64 x.room, .bool x.inv, E]
def lineV (x : Sl) : Value := .agg (lineC x nilE)
def noS : Sl := ⟨0, 0, 0, 0, 0, 0, false, []⟩
/-- a block of eight cells: what a store of a whole line wants, and leaves -/
theorem blk8 {w : World} {g t : Nat} {c0 c1 c2 c3 c4 c5 c6 c7 : Value} (h : Blk w g t #[c0, c1, c2, c3, c4, c5, c6, c7]) : w.cell? ⟨g, 0, none⟩ = some c0 ∧ w.cell? ⟨g, 1, none⟩ = some c1 ∧ w.cell? ⟨g, 2, none⟩ = some c2 ∧ w.cell? ⟨g, 3, none⟩ = some c3 ∧ w.cell? ⟨g, 4, none⟩ = some c4 ∧ w.cell? ⟨g, 5, none⟩ = some c5 ∧ w.cell? ⟨g, 6, none⟩ = some c6 ∧ w.cell? ⟨g, 7, none⟩ = some c7 := by
  refine ⟨h.cell 0, h.cell 1, h.cell 2, h.cell 3, h.cell 4, h.cell 5, h.cell 6, h.cell 7⟩
theorem frz8 {w : World} {g t : Nat} {cs : Array Value} (h : Blk w g t cs) : w.frozen? ⟨g, 0, none⟩ = false ∧ w.frozen? ⟨g, 1, none⟩ = false ∧ w.frozen? ⟨g, 2, none⟩ = false ∧ w.frozen? ⟨g, 3, none⟩ = false ∧ w.frozen? ⟨g, 4, none⟩ = false ∧ w.frozen? ⟨g, 5, none⟩ = false ∧ w.frozen? ⟨g, 6, none⟩ = false ∧ w.frozen? ⟨g, 7, none⟩ = false := ⟨h.frozen 0, h.frozen 1, h.frozen 2, h.frozen 3, h.frozen 4, h.frozen 5, h.frozen 6, h.frozen 7⟩
def w8 (w : World) (g : Nat) (d0 d1 d2 d3 d4 d5 d6 d7 : Value) : World := (((((((w.setCell ⟨g, 0, none⟩ d0).setCell ⟨g, 1, none⟩ d1).setCell ⟨g, 2, none⟩ d2).setCell ⟨g, 3, none⟩ d3).setCell ⟨g, 4, none⟩ d4).setCell ⟨g, 5, none⟩ d5).setCell ⟨g, 6, none⟩ d6).setCell ⟨g, 7, none⟩ d7
theorem blk8_set {w : World} {g t : Nat} {c0 c1 c2 c3 c4 c5 c6 c7 : Value} (h : Blk w g t #[c0, c1, c2, c3, c4, c5, c6, c7]) (d0 d1 d2 d3 d4 d5 d6 d7 : Value) : Blk (w8 w g d0 d1 d2 d3 d4 d5 d6 d7) g t #[d0, d1, d2, d3, d4, d5, d6, d7] := by
  unfold w8
  replace h := h.set_ 0 d0
  simp only [List.setIfInBounds_toArray, List.set_cons_zero] at h
  replace h := h.set_ 1 d1
  simp only [List.setIfInBounds_toArray, List.set_cons_zero, List.set_cons_succ] at h
  replace h := h.set_ 2 d2
  simp only [List.setIfInBounds_toArray, List.set_cons_zero, List.set_cons_succ] at h
  replace h := h.set_ 3 d3
  simp only [List.setIfInBounds_toArray, List.set_cons_zero, List.set_cons_succ] at h
  replace h := h.set_ 4 d4
  simp only [List.setIfInBounds_toArray, List.set_cons_zero, List.set_cons_succ] at h
  replace h := h.set_ 5 d5
  simp only [List.setIfInBounds_toArray, List.set_cons_zero, List.set_cons_succ] at h
  replace h := h.set_ 6 d6
  simp only [List.setIfInBounds_toArray, List.set_cons_zero, List.set_cons_succ] at h
  replace h := h.set_ 7 d7
  simp only [List.setIfInBounds_toArray, List.set_cons_zero, List.set_cons_succ] at h
  exact h
theorem kept8 {l : List Nat} {w0 w : World} (k : Kept l w0 w) {g : Nat} (hg : g ∈ l ∨ w0.heap.size ≤ g) (d0 d1 d2 d3 d4 d5 d6 d7 : Value) : Kept l w0 (w8 w g d0 d1 d2 d3 d4 d5 d6 d7) := (((((((k.setCell hg _).setCell hg _).setCell hg _).setCell hg _).setCell hg _).setCell hg _).setCell hg _).setCell hg _
end Go.Proofs.YtooplogodcadgaaDoor
