/- What an argument that is a slice of extents holds: from its reading to its cells. -/
import Derived.Test.YtkbldbcjpdfopaaExR
import Derived.ProofKit
import Derived.OpenShut
import Derived.ShutString
import Derived.ChangeOld
import Derived.Below
import Derived.SizedLaws
import Derived.Carry
import Derived.Deep.Slices
import Derived.Lib.SmallJoins
namespace Go.Proofs.Ytkbldbcjpdfopaa
open Go.ChangeShapes Go.WideShapes Go.ChangeAt Go.RowKit

theorem spot_none {w : World} {a : Addr} {v : Value} (h : w.cell? a = some v) : a = ⟨a.block, a.off, none⟩ := by
  obtain ⟨b, o, s⟩ := a
  unfold World.cell? at h
  cases s with
  | none => rfl
  | some k => split at h <;> simp at h
theorem pick_list {α : Type} : ∀ {n : Nat} {p : Nat → α → Prop}, (∀ i, i < n → ∃ x, p i x) → ∃ l : List α, l.length = n ∧ ∀ i, (hi : i < l.length) → p i l[i]
  | 0, _, _ => ⟨[], rfl, fun i hi => absurd hi (Nat.not_lt_zero _)⟩
  | n + 1, p, h => by
    obtain ⟨l, hl, hp⟩ := pick_list (n := n) (p := p) (fun i hi => h i (by omega))
    obtain ⟨x, hx⟩ := h n (by omega)
    refine ⟨l ++ [x], by simp [hl], fun i hi => ?_⟩
    rcases Nat.lt_or_ge i l.length with h1 | h1
    · rw [List.getElem_append_left h1]
      exact hp i h1
    · have : i = n := by simp at hi; omega
      subst this
      simp [List.getElem_append_right h1, hl, hx]
section
variable {H : Type} {enc : TypeId × Value → H} {w : World} {base : Nat} {spare : Nat → Bool} {held : Bool}
theorem ex_open {fuel : Nat} {cs : List Value} {x : DataW H × List MemPlace} (hcs : cs.length = 2) (h : DataW.trod enc Try.prog w base spare held fuel 23 cs = some x) : ∃ a : Ex, wfX a ∧ cs = exE a := by
  match cs, hcs with
  | [c0, c1], _ =>
    obtain ⟨xs, m, _, _, _, hl, hg⟩ := DataW.trod_struct Try.underlying23 h
    match xs, hl with
    | [y0, y1], _ =>
      have k2 : Try.prog.cellsOf 3 = 1 := by kernel_rfl
      have g0 := hg 0 _ rfl
      have g1 := hg 1 _ rfl
      simp [k2] at g0 g1
      obtain ⟨n0, e0, _, w0⟩ := DataW.trod_int Try.underlying3 g0
      obtain ⟨n1, e1, _, w1⟩ := DataW.trod_int Try.underlying3 g1
      injection e0 with e0
      injection e1 with e1
      exact ⟨⟨n0, n1⟩, ⟨bounds_i64 w0, bounds_i64 w1⟩, by rw [exE, e0, e1]⟩
/-- as long as its reading -/
def SizedAs {α : Type} (d : DataW H) (l : List α) : Prop := (d = .nil ∧ l = []) ∨ ∃ elems spare, d = .slice elems spare ∧ elems.length = l.length
def ExsRd (w : World) (A : Option Addr) (l : List Ex) (c : Nat) : Prop := RdX w.heap.size w A l ∧ l.length ≤ c ∧ l.length ≤ maxLen ∧ (∀ x ∈ l, wfX x) ∧ (A = none → c = 0)
theorem exs_open {fuel : Nat} {v : Value} {y : DataW H × List MemPlace} (h : DataW.trod enc Try.prog w base spare held fuel 24 [v] = some y) :
    ∃ A l c, v = .slice A (List.length l) c ∧ ExsRd w A l c ∧ SizedAs y.1 l := by
  rcases Go.Deep.open_slice Try.underlying24 h with ⟨hcs, hy⟩ | ⟨a, len, cap, m, n, D, Pl, hcs, _, hl, hm, hmm, hy, hx⟩
  · injection hcs with hcs
    exact ⟨none, [], 0, hcs, ⟨Rd.nil _ _ _ _, Nat.le_refl _, by decide, (fun _ h => by cases h), fun _ => rfl⟩, .inl ⟨by rw [hy], rfl⟩⟩
  · injection hcs with hcs
    have hlm : len ≤ m := by rw [hmm]; split <;> omega
    have k5 : Try.prog.cellsOf 23 = 2 := by kernel_rfl
    rw [k5] at hx
    obtain ⟨l, hll, hp⟩ := pick_list (n := len) (p := fun i (x : Ex) => wfX x ∧ ∀ j, j < 2 → w.cell? ((a.add (i * 2)).add j) = (exE x)[j]?) (fun i hi => by
      obtain ⟨cs', hc, ht⟩ := hx i (by omega)
      obtain ⟨_, hlen, hat⟩ := World.cells?_some hc
      obtain ⟨x, hok, rfl⟩ := ex_open hlen ht
      exact ⟨x, hok, hat⟩)
    subst hll
    refine ⟨some a, l, cap, hcs, ⟨⟨by rw [flatMap_len 2 exE exE_len], fun hn => ?_⟩, hl, Nat.le_trans hl hm, fun x hxl => ?_, fun h => by cases h⟩, .inr ⟨_, _, by rw [hy], by simp⟩⟩
    · have h0 := (hp 0 hn).2 0 (by omega)
      have ha : a = ⟨a.block, a.off, none⟩ := spot_none (v := .int .i64 l[0].st) (by simpa [Addr.add, exE] using h0)
      have hb : a.block < w.heap.size := block_lt_of_cell (a := a) (v := .int .i64 l[0].st) (by simpa [Addr.add, exE] using h0)
      refine ⟨a.block, a.off, by rw [← ha], hb, fun j u hu => ?_⟩
      have hj : j < l.length * 2 := by
        have := (List.getElem?_eq_some_iff.1 hu).1
        rwa [flatMap_len 2 exE exE_len] at this
      have e : j = j / 2 * 2 + j % 2 := by omega
      have h2 := (hp (j / 2) (by omega)).2 (j % 2) (by omega)
      rw [ha] at h2
      simp only [Addr.add_lit] at h2
      rw [e, flatMap_at 2 exE exE_len l (j / 2) (j % 2) (by omega) (by omega)] at hu
      rw [hu] at h2
      rw [show a.off + j = a.off + j / 2 * 2 + j % 2 by omega]
      exact h2
    · obtain ⟨i, hi, rfl⟩ := List.getElem_of_mem hxl
      exact (hp i hi).1
/-- a struct argument -/
theorem ex_arg {r : Reach} {b0 : Nat} {v : Value} {d : DataW H} {p : List MemPlace} (hv : Value.okWide Try.prog w r b0 23 v) (h : DataW.Trod enc Try.prog w base spare held 23 v d p) : ∃ x : Ex, wfX x ∧ v = exV x := by
  obtain ⟨c0, c1, y0, y1, m, rfl, _, _, t0, t1⟩ := Go.Joins.open_agg2 Try.underlying23 (by kernel_rfl) (by kernel_rfl) hv h
  obtain ⟨n0, e0, _, w0⟩ := DataW.trod_int Try.underlying3 t0
  obtain ⟨n1, e1, _, w1⟩ := DataW.trod_int Try.underlying3 t1
  injection e0 with e0
  injection e1 with e1
  exact ⟨⟨n0, n1⟩, ⟨bounds_i64 w0, bounds_i64 w1⟩, by rw [exV, e0, e1]⟩
end
end Go.Proofs.Ytkbldbcjpdfopaa
