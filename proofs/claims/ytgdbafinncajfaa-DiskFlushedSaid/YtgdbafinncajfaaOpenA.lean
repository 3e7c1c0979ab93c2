/- What an argument that is a slice of acts, or of bools, holds: from its reading to its cells. -/
import Derived.Test.YtgdbafinncajfaaLawB
import Derived.ProofKit
import Derived.OpenShut
import Derived.ShutString
import Derived.ChangeOld
import Derived.Below
import Derived.SizedLaws
import Derived.Carry
import Derived.Deep.Slices
namespace Go.Proofs.Ytgdbafinncajfaa
open Go.ChangeShapes Go.WideShapes Go.ChangeAt Go.RowKit

theorem spot_none {w : World} {a : Addr} {v : Value} (h : w.cell? a = some v) : a = ⟨a.block, a.off, none⟩ := by
  obtain ⟨b, o, s⟩ := a
  unfold World.cell? at h
  cases s with
  | none => rfl
  | some k => split at h <;> simp at h

theorem blk_lt {w : World} {b o : Nat} {s : Option Nat} {v : Value} (h : w.cell? ⟨b, o, s⟩ = some v) : b < w.heap.size := block_lt_of_cell h

theorem pick_list {α : Type} : ∀ {n : Nat} {p : Nat → α → Prop}, (∀ i, i < n → ∃ x, p i x) → ∃ l : List α, l.length = n ∧ ∀ i, (hi : i < l.length) → p i l[i]
  | 0, _, _ => ⟨[], rfl, fun i hi => absurd hi (Nat.not_lt_zero _)⟩
  | n + 1, p, h => by
    obtain ⟨l, hl, hp⟩ := pick_list (n := n) (p := p) (fun i hi => h i (by omega))
    obtain ⟨x, hx⟩ := h n (by omega)
    refine ⟨l ++ [x], by simp [hl], fun i hi => ?_⟩
    rcases Nat.lt_or_ge i l.length with h1 | h1
    · rw [List.getElem_append_left h1]
      exact hp i h1
    · have : i = n := by simp at hi; omega
      subst this
      simp [List.getElem_append_right h1, hl, hx]

section
variable {H : Type} {enc : TypeId × Value → H} {w : World} {base : Nat} {spare : Nat → Bool} {held : Bool}

theorem keep_open {fuel : Nat} {v : Value} {y : DataW H × List MemPlace} (h : DataW.trod enc Try.prog w base spare held fuel 44 [v] = some y) :
    ∃ A kl ck, v = .slice A (List.length kl) ck ∧ KeepRd w w.heap.size A kl := by
  rcases Go.Deep.open_slice1 Try.underlying44 (by kernel_rfl) h with ⟨hcs, _⟩ | ⟨a, len, cap, m, n, V, D, Pl, hcs, _, hl, hm, hmm, _, hx⟩
  · injection hcs with hcs
    exact ⟨none, [], 0, hcs, by decide, fun i hi => absurd hi (Nat.not_lt_zero _)⟩
  · injection hcs with hcs
    have hlm : len ≤ m := by rw [hmm]; split <;> omega
    obtain ⟨kl, hkl, hp⟩ := pick_list (n := len) (p := fun i (b : Bool) => w.cell? (a.add i) = some (.bool b)) (fun i hi => by
      obtain ⟨hc, ht⟩ := hx i (by omega)
      obtain ⟨b, hb, _⟩ := DataW.trod_bool Try.underlying4 ht
      injection hb with hb
      exact ⟨b, by rw [hc, hb]⟩)
    subst hkl
    refine ⟨some a, kl, cap, hcs, Nat.le_trans hl hm, fun i hi => ?_⟩
    have h0 := hp 0 (by omega)
    have ha : a = ⟨a.block, a.off, none⟩ := spot_none (by simpa [Addr.add] using h0)
    have hi2 := hp i hi
    rw [ha, Addr.add_lit] at hi2
    exact ⟨a.block, a.off, by rw [← ha], blk_lt hi2, hi2⟩

theorem act_open {fuel : Nat} {cs : List Value} {x : DataW H × List MemPlace} (hcs : cs.length = 5) (h : DataW.trod enc Try.prog w base spare held fuel 46 cs = some x) :
    ∃ a : Act, Act.ok w w.heap.size a ∧ cs = [.int .u8 (a.kind : Int), .int .i64 a.at_, .int .i64 a.n, .string ⟨a.data.toArray⟩, .slice a.Ak a.kl.length a.ck] := by
  match cs, hcs with
  | [c0, c1, c2, c3, c4], _ =>
    obtain ⟨xs, m, _, _, _, hl, hg⟩ := DataW.trod_struct Try.underlying46 h
    match xs, hl with
    | [y0, y1, y2, y3, y4], _ =>
      have k1 : Try.prog.cellsOf 5 = 1 := by kernel_rfl
      have k2 : Try.prog.cellsOf 3 = 1 := by kernel_rfl
      have k3 : Try.prog.cellsOf 9 = 1 := by kernel_rfl
      have k4 : Try.prog.cellsOf 44 = 1 := by kernel_rfl
      have g0 := hg 0 _ rfl
      have g1 := hg 1 _ rfl
      have g2 := hg 2 _ rfl
      have g3 := hg 3 _ rfl
      have g4 := hg 4 _ rfl
      simp [k1, k2, k3, k4] at g0 g1 g2 g3 g4
      obtain ⟨n0, e0, _, w0⟩ := DataW.trod_int Try.underlying5 g0
      obtain ⟨n1, e1, _, w1⟩ := DataW.trod_int Try.underlying3 g1
      obtain ⟨n2, e2, _, w2⟩ := DataW.trod_int Try.underlying3 g2
      obtain ⟨s3, e3, _, w3⟩ := DataW.trod_string Try.underlying9 g3
      obtain ⟨A, kl, ck, e4, hk⟩ := keep_open g4
      injection e0 with e0
      injection e1 with e1
      injection e2 with e2
      injection e3 with e3
      have b0 := bounds_u8 w0
      have b1 := bounds_i64 w1
      have b2 := bounds_i64 w2
      refine ⟨⟨n0.toNat, n1, n2, s3.data.toList, A, kl, ck⟩, ⟨?_, b1.1, b1.2, b2.1, b2.2, ?_, hk⟩, ?_⟩
      · simp only; omega
      · exact Nat.le_trans (Nat.le_of_eq (Array.length_toList ..)) w3
      · simp only [e0, e1, e2, e3, e4]
        rw [show ((n0.toNat : Nat) : Int) = n0 by omega]

theorem acts_open {fuel : Nat} {v : Value} {y : DataW H × List MemPlace} (h : DataW.trod enc Try.prog w base spare held fuel 37 [v] = some y) :
    ∃ A l c, v = .slice A (List.length l) c ∧ ActsRd w w.heap.size A l := by
  rcases Go.Deep.open_slice Try.underlying37 h with ⟨hcs, _⟩ | ⟨a, len, cap, m, n, D, Pl, hcs, _, hl, hm, hmm, _, hx⟩
  · injection hcs with hcs
    exact ⟨none, [], 0, hcs, by decide, fun i hi => absurd hi (Nat.not_lt_zero _)⟩
  · injection hcs with hcs
    have hlm : len ≤ m := by rw [hmm]; split <;> omega
    have k5 : Try.prog.cellsOf 46 = 5 := by kernel_rfl
    rw [k5] at hx
    obtain ⟨l, hll, hp⟩ := pick_list (n := len) (p := fun i (x : Act) => Act.ok w w.heap.size x ∧ ∀ j, j < 5 → w.cell? ((a.add (i * 5)).add j) = ([.int .u8 (x.kind : Int), .int .i64 x.at_, .int .i64 x.n, .string ⟨x.data.toArray⟩, .slice x.Ak x.kl.length x.ck] : List Value)[j]?) (fun i hi => by
      obtain ⟨cs', hc, ht⟩ := hx i (by omega)
      obtain ⟨_, hlen, hat⟩ := World.cells?_some hc
      obtain ⟨x, hok, rfl⟩ := act_open hlen ht
      exact ⟨x, hok, hat⟩)
    subst hll
    refine ⟨some a, l, cap, hcs, Nat.le_trans hl hm, fun i hi => ?_⟩
    have h0 := (hp 0 (by omega)).2 0 (by omega)
    have ha : a = ⟨a.block, a.off, none⟩ := spot_none (v := .int .u8 (l[0].kind : Int)) (by simpa [Addr.add] using h0)
    obtain ⟨hok, hi2⟩ := hp i hi
    rw [ha] at hi2
    simp only [Addr.add_lit] at hi2
    have c0 := hi2 0 (by omega)
    have c1 := hi2 1 (by omega)
    have c2 := hi2 2 (by omega)
    have c3 := hi2 3 (by omega)
    have c4 := hi2 4 (by omega)
    simp at c0 c1 c2 c3 c4
    exact ⟨hok, a.block, a.off, by rw [← ha], blk_lt c0, c0, c1, c2, c3, c4⟩
end
end Go.Proofs.Ytgdbafinncajfaa
