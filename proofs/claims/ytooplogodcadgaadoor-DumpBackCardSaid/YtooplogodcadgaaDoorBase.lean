/- Small words on memory that the walks of this seat share: which blocks a step may change, a block known whole, a slice that is only read. -/
import Derived.Test.YtooplogodcadgaaDoorProg
import Derived.WalkKit
import Derived.WalkSpells
import Derived.WalkLawsBesides
import Derived.Deep.LoopGhost
import Derived.Deep.QuietTactic
import Derived.BigQuiet
import Derived.Deep.Draws
import Derived.Deep.AppendLies
import Derived.Maps.AppendAt
import Derived.Lib.Hide
namespace Go.Proofs.YtooplogodcadgaaDoor
open Go.RowKit

/-- Outside the blocks of 'l' all is as it was; new blocks may have come. -/
structure Kept (l : List Nat) (w w' : World) : Prop where
  os : w'.os = w.os
  tape : w'.tape = w.tape
  output : w'.output = w.output
  size : w.heap.size ≤ w'.heap.size
  block : ∀ k, k < w.heap.size → k ∉ l → w'.heap[k]? = w.heap[k]?

namespace Kept
theorem refl (l : List Nat) (w : World) : Kept l w w := ⟨rfl, rfl, rfl, Nat.le_refl _, fun _ _ _ => rfl⟩
theorem trans' {l m : List Nat} {a b c : World} (h : Kept l a b) (k : Kept m b c) (hm : ∀ x, x ∈ m → x ∈ l ∨ a.heap.size ≤ x) : Kept l a c :=
  ⟨k.os.trans h.os, k.tape.trans h.tape, k.output.trans h.output, Nat.le_trans h.size k.size, fun i hi hl =>
    (k.block i (Nat.lt_of_lt_of_le hi h.size) (fun hx => by rcases hm i hx with h1 | h1; exact hl h1; omega)).trans (h.block i hi hl)⟩
theorem trans {l : List Nat} {a b c : World} (h : Kept l a b) (k : Kept l b c) : Kept l a c := h.trans' k fun _ hx => .inl hx
theorem nil_trans {l : List Nat} {a b c : World} (h : Kept l a b) (k : Kept [] b c) : Kept l a c := h.trans' k fun _ hx => by cases hx
theorem mono {l m : List Nat} {a b : World} (h : Kept l a b) (hl : ∀ x, x ∈ l → x ∈ m ∨ a.heap.size ≤ x) : Kept m a b := (refl m a).trans' h hl
theorem drew {l : List Nat} {a b : World} (h : Kept l a b) : Kept l a b.drew := ⟨h.os, h.tape, h.output, h.size, h.block⟩
theorem drewN {l : List Nat} {a b : World} (h : Kept l a b) (n : Nat) : Kept l a (b.drewN n) := ⟨h.os, h.tape, h.output, h.size, h.block⟩
theorem alloc {l : List Nat} {a b : World} (h : Kept l a b) (o : Obj) : Kept l a (b.alloc o) :=
  h.nil_trans ⟨rfl, rfl, rfl, by simp, fun k hk _ => Below.heap_alloc _ _ _ hk⟩
theorem setCell {l : List Nat} {a b : World} (h : Kept l a b) {p : Addr} (hp : p.block ∈ l ∨ a.heap.size ≤ p.block) (u : Value) : Kept l a (b.setCell p u) :=
  h.trans' (m := [p.block]) ⟨rfl, rfl, rfl, by simp [World.setCell], fun k _ hk => Below.heap_setCell _ _ _ _ (by simpa using hk)⟩ (fun x hx => by simp at hx; subst hx; exact hp)
theorem grown {l : List Nat} {a b c : World} {row : Option Nat} (h : Kept l a b) (hg : b.grownBy c row) (hr : ∀ k, row = some k → k ∈ l ∨ a.heap.size ≤ k) : Kept l a c :=
  h.trans' (m := row.toList) ⟨hg.os, hg.tape, hg.output, hg.size, fun k hk hl => hg.block k hk (fun e => hl (by simp [← e]))⟩ (fun x hx => hr x (by simpa using hx))
theorem below {l : List Nat} {a b : World} (h : Kept l a b) {B : Nat} (hB : B ≤ a.heap.size) (hl : ∀ x, x ∈ l → B ≤ x) : Below B a b :=
  ⟨h.os, h.tape, h.output, h.size, fun k hk => h.block k (by omega) (fun hx => by have := hl k hx; omega)⟩
theorem toBelow {a b : World} (h : Kept [] a b) : Below a.heap.size a b := h.below (Nat.le_refl _) (fun _ hx => by cases hx)
theorem ofBelow {a b : World} (h : Below a.heap.size a b) : Kept [] a b := ⟨h.os, h.tape, h.output, h.size, fun k hk _ => h.block k hk⟩
theorem heap {l : List Nat} {a b : World} (h : Kept l a b) {k : Nat} {o : Obj} (hk : a.heap[k]? = some o) (hl : k ∉ l) : b.heap[k]? = some o :=
  (h.block k (by rcases Nat.lt_or_ge k a.heap.size with h1 | h1; exact h1; rw [Array.getElem?_eq_none h1] at hk; cases hk) hl).trans hk
theorem cell {l : List Nat} {a b : World} (h : Kept l a b) {p : Addr} {v : Value} (hc : a.cell? p = some v) (hl : p.block ∉ l) : b.cell? p = some v :=
  (World.cell?_of_block (w := a) (w' := b) (h.block p.block (block_lt_of_cell hc) hl)).trans hc
theorem frozen {l : List Nat} {a b : World} (h : Kept l a b) {p : Addr} (hp : p.block < a.heap.size) (hl : p.block ∉ l) : b.frozen? p = a.frozen? p :=
  World.frozen?_of_block (w := a) (w' := b) (h.block p.block hp hl)
theorem owns {l : List Nat} {a b : World} (h : Kept l a b) {base e size n : Nat} {v : Value} {xs : List Value} (ho : a.ownsRow base e size v n xs) (hl : ∀ k, v.ownBlock = some k → k ∉ l) : b.ownsRow base e size v n xs := by
  refine ⟨ho.1, ?_⟩
  rcases ho.2 with hn | ⟨g, cap, cur, rfl, hb, hg, rest⟩
  · exact .inl hn
  · exact .inr ⟨g, cap, cur, rfl, hb, h.heap hg (hl g rfl), rest⟩
end Kept

/-- Block g holds just these cells of type t, none of them frozen. -/
def Blk (w : World) (g : Nat) (t : TypeId) (cs : Array Value) : Prop := w.heap[g]? = some (.cells cs t (0, 0))
namespace Blk
variable {w w' : World} {g : Nat} {t : TypeId} {cs : Array Value}
theorem lt (h : Blk w g t cs) : g < w.heap.size := by
  rcases Nat.lt_or_ge g w.heap.size with h1 | h1
  · exact h1
  · unfold Blk at h; rw [Array.getElem?_eq_none h1] at h; cases h
theorem cell (h : Blk w g t cs) (i : Nat) : w.cell? ⟨g, i, none⟩ = cs[i]? := cell_of_row w g i cs t (0, 0) h
theorem frozen (h : Blk w g t cs) (i : Nat) : w.frozen? ⟨g, i, none⟩ = false := frozen_of_row w g i cs t h
theorem new (w : World) (t : TypeId) (cs : Array Value) : Blk (w.alloc (.cells cs t)) w.heap.size t cs := heap_alloc_new w _
theorem kept {l : List Nat} (h : Blk w g t cs) (hk : Kept l w w') (hl : g ∉ l) : Blk w' g t cs := hk.heap h hl
theorem alloc (h : Blk w g t cs) (o : Obj) : Blk (w.alloc o) g t cs := (Below.heap_alloc w o g h.lt).trans h
theorem set_ (h : Blk w g t cs) (i : Nat) (u : Value) : Blk (w.setCell ⟨g, i, none⟩ u) g t (cs.setIfInBounds i u) := by
  unfold Blk at h ⊢
  simp [World.setCell, Array.getElem?_modify, h]
theorem far (h : Blk w g t cs) {p : Addr} (hp : g ≠ p.block) (u : Value) : Blk (w.setCell p u) g t cs := (Below.heap_setCell w p u g hp).trans h
theorem ne_ {g' t' : Nat} {cs' : Array Value} (h : Blk w g t cs) (h' : Blk w g' t' cs') (hne : t ≠ t') : g ≠ g' := by
  rintro rfl
  unfold Blk at h h'
  rw [h] at h'
  injection h' with h'
  injection h' with _ ht
  exact hne ht
end Blk

/-- A slice value with address A and n elements, each 'size' cells, reads the cells xs, all below block B. -/
def Rd (w : World) (B size : Nat) (A : Option Addr) (n : Nat) (xs : List Value) : Prop :=
  xs.length = n * size ∧ (0 < n → ∃ b o, A = some ⟨b, o, none⟩ ∧ b < B ∧ ∀ j u, xs[j]? = some u → w.cell? ⟨b, o + j, none⟩ = some u)
namespace Rd
variable {w w' : World} {B B' size n : Nat} {A : Option Addr} {xs : List Value}
theorem nil (w : World) (B size : Nat) (A : Option Addr) : Rd w B size A 0 [] := ⟨by simp, fun h => absurd h (by omega)⟩
theorem keep (h : Rd w B size A n xs) (hk : ∀ p : Addr, p.block < B → w'.cell? p = w.cell? p) : Rd w' B size A n xs :=
  ⟨h.1, fun hn => by
    obtain ⟨b, o, e, hb, hc⟩ := h.2 hn
    exact ⟨b, o, e, hb, fun j u hu => (hk _ hb).trans (hc j u hu)⟩⟩
theorem more (h : Rd w B size A n xs) (hB : B ≤ B') : Rd w B' size A n xs :=
  ⟨h.1, fun hn => by
    obtain ⟨b, o, e, hb, hc⟩ := h.2 hn
    exact ⟨b, o, e, by omega, hc⟩⟩
theorem below (h : Rd w B size A n xs) (hb : Below B w w') : Rd w' B size A n xs := h.keep fun _ hp => hb.cell hp
theorem kept {l : List Nat} (h : Rd w B size A n xs) (hk : Kept l w w') (hB : B ≤ w.heap.size) (hl : ∀ x, x ∈ l → B ≤ x) : Rd w' B size A n xs := h.below (hk.below hB hl)
theorem of_own {base e c : Nat} (h : w.ownsRow base e size (.slice A n c) n xs) : Rd w w.heap.size size A n xs := by
  refine ⟨h.1, fun hn => ?_⟩
  obtain ⟨g, cap, hv, _, hlt⟩ := h.form hn
  injection hv with hA
  subst hA
  refine ⟨g, 0, rfl, hlt, fun j u hu => ?_⟩
  have := h.cells (g := g) rfl j u hu
  rw [Addr.add_lit] at this
  simpa using this
end Rd

theorem flatMap_at {α β : Type} (m : Nat) (f : α → List β) (hf : ∀ x, (f x).length = m) : ∀ (l : List α) (k j : Nat) (hk : k < l.length), j < m → (l.flatMap f)[k * m + j]? = (f l[k])[j]?
  | [], k, j, hk, _ => by cases hk
  | x :: l, 0, j, _, hj => by simp [List.getElem?_append, hf x, hj]
  | x :: l, k + 1, j, hk, hj => by
    have := flatMap_at m f hf l k j (by simpa using hk) hj
    rw [List.flatMap_cons, List.getElem?_append_right (by rw [hf x, Nat.succ_mul]; omega), hf x]
    simpa [Nat.succ_mul, show k * m + m + j - m = k * m + j by omega] using this
theorem flatMap_len {α β : Type} (m : Nat) (f : α → List β) (hf : ∀ x, (f x).length = m) (l : List α) : (l.flatMap f).length = l.length * m := by
  induction l with
  | nil => simp
  | cons x l ih => simp [ih, hf x, Nat.succ_mul]; omega
/-- the cells of element k of an owned row -/
theorem own_at {w : World} {base e n g c m : Nat} {α : Type} {f : α → List Value} {l : List α} (h : w.ownsRow base e m (.slice (some ⟨g, 0, none⟩) n c) n (l.flatMap f)) (hf : ∀ x, (f x).length = m) (k j : Nat) (hk : k < l.length) (hj : j < m) {u : Value} (hu : (f l[k])[j]? = some u) :
    w.cell? ⟨g, k * m + j, none⟩ = some u := by
  have := h.cells (g := g) rfl (k * m + j) u (by rw [flatMap_at m f hf l k j hk hj]; exact hu)
  rwa [Addr.add_lit, Nat.zero_add] at this
theorem own_some {w : World} {base e size n : Nat} {v : Value} {xs : List Value} (h : w.ownsRow base e size v n xs) (hn : 0 < n) : ∃ g c, v = .slice (some ⟨g, 0, none⟩) n c ∧ n ≤ c := by
  rcases h.2 with ⟨rfl, rfl⟩ | ⟨g, cap, cur, rfl, _, _, hc, _⟩
  · cases hn
  · exact ⟨g, cap, rfl, hc⟩
theorem own_slice {w : World} {base e size n : Nat} {v : Value} {xs : List Value} (h : w.ownsRow base e size v n xs) : ∃ A c, v = .slice A n c ∧ n ≤ c := by
  rcases h.2 with ⟨rfl, rfl⟩ | ⟨g, cap, cur, rfl, _, _, hc, _⟩
  · exact ⟨none, 0, rfl, Nat.le_refl _⟩
  · exact ⟨_, cap, rfl, hc⟩
theorem own_ne {w : World} {base e size n g t : Nat} {v : Value} {xs : List Value} {cs : Array Value} (h : w.ownsRow base e size v n xs) (hg : Blk w g t cs) (hne : e ≠ t) : ∀ k, v.ownBlock = some k → k ≠ g := by
  intro k hk
  rcases h.2 with ⟨rfl, _⟩ | ⟨g', cap, cur, rfl, _, hh, _⟩
  · simp [Value.ownBlock] at hk
  · simp [Value.ownBlock] at hk
    subst hk
    exact Blk.ne_ (t := e) hh hg hne
theorem own_own_ne {w : World} {base base' e e' size size' n n' : Nat} {v v' : Value} {xs xs' : List Value} (h : w.ownsRow base e size v n xs) (h' : w.ownsRow base' e' size' v' n' xs') (hne : e ≠ e') : ∀ k, v.ownBlock = some k → v'.ownBlock ≠ some k := by
  intro k hk hk'
  rcases h'.2 with ⟨rfl, _⟩ | ⟨g', cap, cur, rfl, _, hh, _⟩
  · simp [Value.ownBlock] at hk'
  · simp [Value.ownBlock] at hk'
    subst hk'
    exact own_ne h (show Blk w g' e' cur from hh) hne g' hk rfl
theorem own_set {w : World} {base e size n : Nat} {v : Value} {xs : List Value} (h : w.ownsRow base e size v n xs) {p : Addr} (hp : ∀ k, v.ownBlock = some k → k ≠ p.block) (u : Value) : (w.setCell p u).ownsRow base e size v n xs :=
  ((Kept.refl [p.block] w).setCell (p := p) (.inl (by simp)) u).owns h (fun k hk => by simpa using hp k hk)
theorem own_lt {w : World} {base e size n : Nat} {v : Value} {xs : List Value} (h : w.ownsRow base e size v n xs) : ∀ k, v.ownBlock = some k → k < w.heap.size := fun k hk => (h.lt k hk).2
theorem own_nilA {w : World} {base e size n : Nat} {A : Option Addr} {c : Nat} {xs : List Value} (h : w.ownsRow base e size (.slice A n c) n xs) : A = none ∨ ∃ b o, A = some ⟨b, o, none⟩ := by
  rcases h.2 with ⟨h1, _⟩ | ⟨g, cap, cur, h1, _⟩
  · injection h1 with h1; exact .inl h1
  · injection h1 with h1; exact .inr ⟨g, 0, h1⟩
theorem own_max {w : World} {base e size n : Nat} {v : Value} {xs : List Value} (h : w.ownsRow base e size v n xs) : n ≤ maxLen := by
  rcases h.2 with ⟨_, rfl⟩ | ⟨g, cap, cur, rfl, _, _, hc, hm, _⟩
  · exact Nat.zero_le _
  · omega
/-- an owned row that is one element wide and not nil: its block, whole -/
theorem own_blk {w : World} {base e n g c : Nat} {xs : List Value} (h : w.ownsRow base e 1 (.slice (some ⟨g, 0, none⟩) n c) n xs) : ∃ rest, Blk w g e (xs ++ rest).toArray ∧ xs.length = n ∧ n + rest.length = c ∧ c ≤ maxLen := by
  rcases h.2 with ⟨h1, _⟩ | ⟨g', cap, cur, h1, _, hg, hc, hm, hs, ht⟩
  · injection h1 with h1; cases h1
  · injection h1 with h1 h2 h3
    injection h1 with h1
    injection h1 with h1
    subst h1; subst h3
    refine ⟨cur.toList.drop n, ?_, by simpa using h.1, ?_, hm⟩
    · unfold Blk
      rw [← ht, Nat.mul_one, List.take_append_drop]
      exact hg
    · rw [List.length_drop, Array.length_toList, hs]; omega
theorem blk_own {w : World} {e n g c : Nat} {xs rest : List Value} (h : Blk w g e (xs ++ rest).toArray) (hx : xs.length = n) (hr : n + rest.length = c) (hm : c ≤ maxLen) : w.ownsRow 0 e 1 (.slice (some ⟨g, 0, none⟩) n c) n xs :=
  ⟨by simpa using hx, .inr ⟨g, c, _, rfl, Nat.zero_le _, h, by omega, hm, by simp; omega, by simp [← hx]⟩⟩

theorem ret_tuple {a b : Array Value} (h : a = b) : Ending.returned (.tuple a) = .returned (.tuple b) := by rw [h]
theorem ret_val {a b : Value} (h : a = b) : Ending.returned a = .returned b := by rw [h]
end Go.Proofs.YtooplogodcadgaaDoor
