/- What the second law holds in memory as it goes: the program's disk and the row of the writes seen. -/
import Derived.Test.YtgdbafinncajfaaLawE
import Derived.Test.YtgdbafinncajfaaLawQ
namespace Go.Proofs.Ytgdbafinncajfaa
open Go.RowKit

/-- the program's disk d, and a row of the writes seen, apart from it -/
structure Fl (w : World) (B g : Nat) (v : Value) (d : D) (sl : List (Nat × List UInt8)) (W : World) : Prop where
  pd : ∃ F, PD W g F d ∧ (∀ x ∈ F, B ≤ x) ∧ ∀ k, v.ownBlock = some k → k ∉ F
  own : W.ownsRow 0 58 2 v sl.length (sl.flatMap pcells)
  ownB : ∀ k, v.ownBlock = some k → B ≤ k
  bel : Below B w W

theorem _root_.Go.RowKit.Below.cell_some {B : Nat} {w w' : World} {b o : Nat} {v : Value} (h : Below B w w') (hc : w.cell? ⟨b, o, none⟩ = some v) (hb : b < B) : w'.cell? ⟨b, o, none⟩ = some v := (h.cell (p := ⟨b, o, none⟩) hb).trans hc

section
variable {w W W' : World} {B g : Nat} {v : Value} {d : D} {sl : List (Nat × List UInt8)}
theorem Fl.kept (h : Fl w B g v d sl W) (hB : B ≤ w.heap.size) (k : Kept [] W W') : Fl w B g v d sl W' := by
  obtain ⟨⟨F, h1, h2, h3⟩, h4, h5, h6⟩ := h
  exact ⟨⟨F, h1.kept k (fun _ _ h => by cases h), h2, h3⟩, k.owns h4 (fun _ _ h => by cases h), h5, h6.trans (k.below (Nat.le_trans hB h6.size) (fun _ h => by cases h))⟩
theorem Fl.drewN (h : Fl w B g v d sl W) (n : Nat) : Fl w B g v d sl (W.drewN n) := by
  obtain ⟨⟨F, h1, h2, h3⟩, h4, h5, h6⟩ := h
  have k : Kept [] W (W.drewN n) := (Kept.refl [] _).drewN n
  exact ⟨⟨F, h1.kept k (fun _ _ h => by cases h), h2, h3⟩, k.owns h4 (fun _ _ h => by cases h), h5, ⟨h6.os, h6.tape, h6.output, h6.size, h6.block⟩⟩
theorem Fl.drew (h : Fl w B g v d sl W) : Fl w B g v d sl W.drew := h.drewN 1
theorem Fl.disk (h : Fl w B g v d sl W) : ∃ F, PD W g F d := by
  obtain ⟨⟨F, h1, _⟩, _⟩ := h
  exact ⟨F, h1⟩
theorem Fl.empty (h : Fl w B g v d sl W) : Fl w B g (.slice none 0 0) d [] W := by
  obtain ⟨⟨F, h1, h2, _⟩, _, _, h6⟩ := h
  exact ⟨⟨F, h1, h2, fun k h => by simp [Value.ownBlock] at h⟩, World.ownsRow_nil _ _ _ _, fun k h => by simp [Value.ownBlock] at h, h6⟩

/-- an act on it, beside a disk of the reference that lies elsewhere -/
theorem Fl.act {W1 : World} {gm : Nat} {Fm : List Nat} {m : D} (h : Fl w B g v d sl W) (hB : B ≤ w.heap.size) (k : Kept [] W W1) (hR : RD W1 gm Fm m) (hFm : ∀ x ∈ Fm, W.heap.size ≤ x) (a : Act) (ha : Act.ok W1 B a) (hd : d.ps.length ≤ 100000000) (hm : m.ps.length ≤ 100000000) (hsm : a.data.length ≤ 1000) :
    Calls Try.prog 20 #[.pointer (some ⟨g, 0, none⟩), .pointer (some ⟨gm, 0, none⟩), .agg #[.int .u8 (a.kind : Int), .int .i64 a.at_, .int .i64 a.n, .string ⟨a.data.toArray⟩, .slice a.Ak a.kl.length a.ck]] W1 fun e W' => (∃ bl : Bool, e = .returned (.bool bl)) ∧ Fl w B g v (actD d a) sl W' ∧ Below B W1 W' := by
  obtain ⟨⟨F, h1, h2, h3⟩, h4, h5, h6⟩ := h
  have s1 := h6.size
  have s2 := k.size
  have hvlt : ∀ x, v.ownBlock = some x → x < W.heap.size := fun x hx => own_lt h4 x hx
  have hL : ∀ x ∈ F ++ Fm, B ≤ x := fun x hx => by
    rcases List.mem_append.1 hx with h | h
    · exact h2 x h
    · have := hFm x h; omega
  refine (act_run W1 (F ++ Fm) g gm d m a B ⟨F, Fm, rfl, h1.kept k (fun _ _ h => by cases h), hR, fun x hx hx2 => by have := h1.lt x hx; have := hFm x hx2; omega⟩ ha (by omega) hL hd hm hsm).mono ?_
  rintro e W' ⟨bl, rfl, _, ⟨L', hPR, hL'⟩, k3⟩
  obtain ⟨F', hP', hF'⟩ := hPR.pd
  have hvL : ∀ x, v.ownBlock = some x → x ∉ F ++ Fm := fun x hx hm => by
    rcases List.mem_append.1 hm with h | h
    · exact h3 x hx h
    · have := hFm x h; have := hvlt x hx; omega
  refine ⟨⟨bl, rfl⟩, ⟨⟨F', hP', fun x hx => ?_, fun x hx hm => ?_⟩, k3.owns (k.owns h4 (fun _ _ h => by cases h)) hvL, h5, ?_⟩, k3.below (by omega) hL⟩
  · rcases hL' x (hF' x hx) with h | h
    · exact hL x h
    · omega
  · rcases hL' x (hF' x hm) with h | h
    · exact hvL x hx h
    · have := hvlt x hx; omega
  · exact (h6.trans (k.below (by omega) (fun _ h => by cases h))).trans (k3.below (by omega) hL)

/-- a restart of it -/
theorem Fl.restart (h : Fl w B g v d sl W) (hB : B ≤ w.heap.size) {Ak : Option Addr} {ck : Nat} {kl : List Bool} (hk : KeepRd W B Ak kl) :
    Calls Try.prog 28 #[.pointer (some ⟨g, 0, none⟩), .slice Ak kl.length ck] W fun e W' => e = .returned (.tuple #[]) ∧ Fl w B g v (d.restart kl) sl W' := by
  obtain ⟨⟨F, h1, h2, h3⟩, h4, h5, h6⟩ := h
  have s1 := h6.size
  refine (disk_Restart W g F d h1 Ak ck kl hk.1 (fun i hi => ?_)).mono ?_
  · obtain ⟨b, o, e, hb, hc⟩ := hk.2 i hi
    exact ⟨b, o, e, by omega, fun hx => absurd (h2 b hx) (by omega), hc⟩
  rintro e W' ⟨rfl, ⟨F', hP', hF'⟩, k⟩
  exact ⟨rfl, ⟨F', hP', fun x hx => h2 x (hF' x hx), fun k hk hm => h3 k hk (hF' k hm)⟩, k.owns h4 h3, h5, h6.trans (k.below (by omega) h2)⟩

/-- one more write seen -/
theorem Fl.push (h : Fl w B g v d sl W) (hB : B ≤ w.heap.size) (hk : Kept v.ownBlock.toList W W') {gg cap : Nat} {p : Nat × List UInt8}
    (ho : W'.ownsRow 0 58 2 (.slice (some ⟨gg, 0, none⟩) (sl.length + 1) cap) (sl.length + 1) (sl.flatMap pcells ++ pcells p)) (hg : v.ownBlock = some gg ∨ W.heap.size ≤ gg) :
    Fl w B g (.slice (some ⟨gg, 0, none⟩) (sl.length + 1) cap) d (sl ++ [p]) W' := by
  obtain ⟨⟨F, h1, h2, h3⟩, h4, h5, h6⟩ := h
  have s1 := h6.size
  refine ⟨⟨F, h1.kept hk (fun x hx hm => h3 x (by simpa using hm) hx), h2, fun k hk2 hm => ?_⟩, ?_, fun k hk2 => ?_, h6.trans (hk.below (by omega) (fun x hx => h5 x (by simpa using hx)))⟩
  · simp [Value.ownBlock] at hk2
    subst hk2
    rcases hg with h | h
    · exact h3 _ h hm
    · have := h1.lt _ hm; omega
  · simpa using ho
  · simp [Value.ownBlock] at hk2
    subst hk2
    rcases hg with h | h
    · exact h5 _ h
    · omega
end
end Go.Proofs.Ytgdbafinncajfaa
