/- The reference's disk, its walks (first part). -/
import Derived.Test.YtdifolhkbkaamaaDiskA
namespace Go.Proofs.Ytdifolhkbkaamaa
open Go.RowKit

def str (l : List UInt8) : Value := .string ⟨l.toArray⟩

/-- the reference's disk in memory, its fields' values named -/
structure RDx (w : World) (g : Nat) (vS vP : Value) (d : D) : Prop where
  ok : d.ok
  blk : Blk w g 93 #[vS, vP, .int .i64 d.fuse, .bool d.dead]
  secs : w.ownsRow 0 9 1 vS d.ss.length (d.ss.map str)
  pend : w.ownsRow 0 119 2 vP d.ps.length (d.ps.flatMap pcells)

def RD (w : World) (g : Nat) (F : List Nat) (d : D) : Prop :=
  ∃ vS vP, RDx w g vS vP d ∧ F = g :: (vS.ownBlock.toList ++ vP.ownBlock.toList)

theorem RDx.lt {w : World} {g : Nat} {vS vP : Value} {d : D} (h : RDx w g vS vP d) : ∀ x ∈ g :: (vS.ownBlock.toList ++ vP.ownBlock.toList), x < w.heap.size := by
  intro x hx
  simp only [List.mem_cons, List.mem_append, Option.mem_toList] at hx
  rcases hx with rfl | hx | hx
  · exact h.blk.lt
  · exact own_lt h.secs x hx
  · exact own_lt h.pend x hx
theorem RDx.kept {w w' : World} {g : Nat} {vS vP : Value} {d : D} {l : List Nat} (h : RDx w g vS vP d) (hk : Kept l w w') (hl : ∀ x ∈ g :: (vS.ownBlock.toList ++ vP.ownBlock.toList), x ∉ l) : RDx w' g vS vP d :=
  ⟨h.ok, h.blk.kept hk (hl g (by simp)), hk.owns h.secs (fun k e => hl k (by simp [e])), hk.owns h.pend (fun k e => hl k (by simp [e]))⟩
theorem RD.lt {w : World} {g : Nat} {F : List Nat} {d : D} (h : RD w g F d) : ∀ x ∈ F, x < w.heap.size := by
  obtain ⟨vS, vP, h, rfl⟩ := h
  exact h.lt
theorem RD.mem_self {w : World} {g : Nat} {F : List Nat} {d : D} (h : RD w g F d) : g ∈ F := by
  obtain ⟨vS, vP, _, rfl⟩ := h
  simp
theorem RD.ok {w : World} {g : Nat} {F : List Nat} {d : D} (h : RD w g F d) : d.ok := by
  obtain ⟨vS, vP, h, rfl⟩ := h
  exact h.ok
theorem RD.kept {w w' : World} {g : Nat} {F l : List Nat} {d : D} (h : RD w g F d) (hk : Kept l w w') (hl : ∀ x ∈ F, x ∉ l) : RD w' g F d := by
  obtain ⟨vS, vP, h, rfl⟩ := h
  exact ⟨vS, vP, h.kept hk hl, rfl⟩
theorem RD.setDead {w : World} {g : Nat} {F : List Nat} {d : D} (h : RD w g F d) (b : Bool) : RD (w.setCell ⟨g, 3, none⟩ (.bool b)) g F { d with dead := b } := by
  obtain ⟨vS, vP, ⟨ok, hg, hS, hP⟩, rfl⟩ := h
  have hs := hg.set_ 3 (.bool b)
  simp at hs
  exact ⟨vS, vP, ⟨⟨ok.s64, ok.few, ok.p64, ok.pat, ok.fuse⟩, hs, own_set hS (own_ne hS hg (by decide)) _, own_set hP (own_ne hP hg (by decide)) _⟩, rfl⟩
theorem RD.setFuse {w : World} {g : Nat} {F : List Nat} {d : D} (h : RD w g F d) (f : Int) (h1 : -1 ≤ f) (h2 : f ≤ 9223372036854775807) : RD (w.setCell ⟨g, 2, none⟩ (.int .i64 f)) g F { d with fuse := f } := by
  obtain ⟨vS, vP, ⟨ok, hg, hS, hP⟩, rfl⟩ := h
  have hs := hg.set_ 2 (.int .i64 f)
  simp at hs
  exact ⟨vS, vP, ⟨⟨ok.s64, ok.few, ok.p64, ok.pat, ⟨h1, h2⟩⟩, hs, own_set hS (own_ne hS hg (by decide)) _, own_set hP (own_ne hP hg (by decide)) _⟩, rfl⟩
theorem RD.open {w : World} {g : Nat} {F : List Nat} {d : D} (h : RD w g F d) : ∃ A a B b, w.cell? ⟨g, 0, none⟩ = some (.slice A d.ss.length a) ∧ w.cell? ⟨g, 1, none⟩ = some (.slice B d.ps.length b) ∧ w.cell? ⟨g, 2, none⟩ = some (.int .i64 d.fuse) ∧
    w.cell? ⟨g, 3, none⟩ = some (.bool d.dead) ∧ (∀ i, w.frozen? ⟨g, i, none⟩ = false) := by
  obtain ⟨vS, vP, ⟨ok, hg, hS, hP⟩, rfl⟩ := h
  obtain ⟨A, a, rfl, _⟩ := own_slice hS
  obtain ⟨B, b, rfl, _⟩ := own_slice hP
  exact ⟨A, a, B, b, hg.cell 0, hg.cell 1, hg.cell 2, hg.cell 3, hg.frozen⟩

def thereB (L : Nat) (at_ n : Int) : Bool := decide (thereE L at_ n = 0)
theorem thereB_yes {L : Nat} {at_ n : Int} (h : 0 ≤ at_ ∧ 0 ≤ n ∧ at_ + n ≤ L) : thereB L at_ n = true := by
  unfold thereB thereE
  rw [if_neg (by omega)]; rfl
theorem thereB_no {L : Nat} {at_ n : Int} (h : ¬ (0 ≤ at_ ∧ 0 ≤ n ∧ at_ + n ≤ L)) : thereB L at_ n = false := by
  unfold thereB thereE
  rw [if_pos (by omega)]; rfl

end Go.Proofs.Ytdifolhkbkaamaa
