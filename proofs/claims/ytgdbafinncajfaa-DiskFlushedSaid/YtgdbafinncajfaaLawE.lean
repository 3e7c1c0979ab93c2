/- One pair of disks and two pairs, at play: what an act leaves. -/
import Derived.Test.YtgdbafinncajfaaLawD
namespace Go.Proofs.Ytgdbafinncajfaa
open Go.RowKit

def foldD (d : D) (l : List Act) (k : Nat) : D := (l.take k).foldl actD d
theorem foldD_zero (d : D) (l : List Act) : foldD d l 0 = d := rfl
theorem foldD_succ (d : D) (l : List Act) (k : Nat) (h : k < l.length) : foldD d l (k + 1) = actD (foldD d l k) l[k] := by
  unfold foldD
  rw [List.take_succ_eq_append_getElem h, List.foldl_append]
  rfl
theorem foldD_pl (d : D) (l : List Act) (hs : ∀ i, (hi : i < l.length) → l[i].data.length ≤ 1000 ∧ l[i].kl.length ≤ 200) : ∀ k, k ≤ l.length → (foldD d l k).ps.length ≤ d.ps.length + k * 16
  | 0, _ => by rw [foldD_zero]; omega
  | k + 1, h => by
    have := foldD_pl d l hs k (by omega)
    have h2 := actD_pl (foldD d l k) l[k] (hs k (by omega)).1
    rw [foldD_succ d l k (by omega)]
    omega

/-- one pair of disks, alike -/
def One (w : World) (B : Nat) (g gm : Nat) (d : D) (W : World) : Prop := ∃ L, PR W L g gm d d ∧ (∀ x ∈ L, B ≤ x) ∧ Below B w W
/-- two pairs of disks, apart -/
def Two (w : World) (B : Nat) (g gm g2 gm2 : Nat) (d d2 : D) (W : World) : Prop :=
  ∃ L L2, PR W L g gm d d ∧ PR W L2 g2 gm2 d2 d2 ∧ (∀ x ∈ L, B ≤ x) ∧ (∀ x ∈ L2, B ≤ x) ∧ (∀ x ∈ L, x ∉ L2) ∧ Below B w W

section
variable {w W : World} {B g gm g2 gm2 : Nat} {d d2 : D}
theorem One.below (h : One w B g gm d W) : Below B w W := by
  obtain ⟨L, _, _, h⟩ := h
  exact h
theorem One.pd (h : One w B g gm d W) : ∃ F, PD W g F d := by
  obtain ⟨L, h1, _⟩ := h
  obtain ⟨F, h2, _⟩ := h1.pd
  exact ⟨F, h2⟩
theorem One.rd (h : One w B g gm d W) : ∃ F, RD W gm F d := by
  obtain ⟨L, h1, _⟩ := h
  obtain ⟨F, h2, _⟩ := h1.rd
  exact ⟨F, h2⟩
theorem Two.below (h : Two w B g gm g2 gm2 d d2 W) : Below B w W := by
  obtain ⟨L, L2, _, _, _, _, _, h⟩ := h
  exact h
theorem Two.symm (h : Two w B g gm g2 gm2 d d2 W) : Two w B g2 gm2 g gm d2 d W := by
  obtain ⟨L, L2, h1, h2, h3, h4, h5, h6⟩ := h
  exact ⟨L2, L, h2, h1, h4, h3, fun x hx hx2 => h5 x hx2 hx, h6⟩
theorem Two.drewN (h : Two w B g gm g2 gm2 d d2 W) (n : Nat) : Two w B g gm g2 gm2 d d2 (W.drewN n) := by
  obtain ⟨L, L2, h1, h2, h3, h4, h5, h6⟩ := h
  have k : Kept [] W (W.drewN n) := (Kept.refl [] _).drewN n
  exact ⟨L, L2, h1.kept k (fun _ _ h => by cases h), h2.kept k (fun _ _ h => by cases h), h3, h4, h5, ⟨h6.os, h6.tape, h6.output, h6.size, h6.block⟩⟩
theorem Two.kept {W' : World} (h : Two w B g gm g2 gm2 d d2 W) (hB : B ≤ w.heap.size) (k : Kept [] W W') : Two w B g gm g2 gm2 d d2 W' := by
  obtain ⟨L, L2, h1, h2, h3, h4, h5, h6⟩ := h
  exact ⟨L, L2, h1.kept k (fun _ _ h => by cases h), h2.kept k (fun _ _ h => by cases h), h3, h4, h5, h6.trans (k.below (Nat.le_trans hB h6.size) (fun _ h => by cases h))⟩
theorem Two.pd (h : Two w B g gm g2 gm2 d d2 W) : ∃ F, PD W g F d := by
  obtain ⟨L, L2, h1, _⟩ := h
  obtain ⟨F, h2, _⟩ := h1.pd
  exact ⟨F, h2⟩
theorem Two.rd (h : Two w B g gm g2 gm2 d d2 W) : ∃ F, RD W gm F d := by
  obtain ⟨L, L2, h1, _⟩ := h
  obtain ⟨F, h2, _⟩ := h1.rd
  exact ⟨F, h2⟩

theorem One.act (h : One w B g gm d W) (hB : B ≤ w.heap.size) (a : Act) (ha : Act.ok W B a) (hd : d.ps.length ≤ 100000000) (hsm : a.data.length ≤ 1000) :
    Calls Try.prog 20 #[.pointer (some ⟨g, 0, none⟩), .pointer (some ⟨gm, 0, none⟩), .agg #[.int .u8 (a.kind : Int), .int .i64 a.at_, .int .i64 a.n, .string ⟨a.data.toArray⟩, .slice a.Ak a.kl.length a.ck]] W fun e W' => e = .returned (.bool true) ∧ One w B g gm (actD d a) W' := by
  obtain ⟨L, hPR, hL, hbel⟩ := h
  have hs := hbel.size
  refine (act_run W L g gm d d a B hPR ha (by omega) hL hd hd hsm).mono ?_
  rintro e w3 ⟨bl, rfl, hbl, ⟨L', hPR', hL'⟩, k3⟩
  rw [hbl rfl]
  exact ⟨rfl, L', hPR', fun x hx => by
        rcases hL' x hx with h | h
        · exact hL x h
        · omega, hbel.trans (k3.below (by omega) hL)⟩
theorem Two.act (h : Two w B g gm g2 gm2 d d2 W) (hB : B ≤ w.heap.size) (a : Act) (ha : Act.ok W B a) (hd : d.ps.length ≤ 100000000) (hsm : a.data.length ≤ 1000) :
    Calls Try.prog 20 #[.pointer (some ⟨g, 0, none⟩), .pointer (some ⟨gm, 0, none⟩), .agg #[.int .u8 (a.kind : Int), .int .i64 a.at_, .int .i64 a.n, .string ⟨a.data.toArray⟩, .slice a.Ak a.kl.length a.ck]] W fun e W' => e = .returned (.bool true) ∧ Two w B g gm g2 gm2 (actD d a) d2 W' := by
  obtain ⟨L, L2, hPR, hPR2, hL, hL2, hdis, hbel⟩ := h
  have hs := hbel.size
  refine (act_run W L g gm d d a B hPR ha (by omega) hL hd hd hsm).mono ?_
  rintro e w3 ⟨bl, rfl, hbl, ⟨L', hPR', hL'⟩, k3⟩
  rw [hbl rfl]
  exact ⟨rfl, L', L2, hPR', hPR2.kept k3 (fun x hx hx2 => hdis x hx2 hx), fun x hx => by
        rcases hL' x hx with h | h
        · exact hL x h
        · omega, hL2, fun x hx hx2 => by
        rcases hL' x hx with h | h
        · exact hdis x h hx2
        · have := hPR2.lt x hx2; omega, hbel.trans (k3.below (by omega) hL)⟩
end

/-- the clone of one pair: two pairs -/
theorem Two.of {w W w1 w2 : World} {B g gm g2 gm2 : Nat} {d : D} {F2 Fm2 : List Nat} (h : One w B g gm d W) (hB : B ≤ w.heap.size) (hP : PD w1 g2 F2 d) (k1 : Kept [] W w1) (hF : ∀ x ∈ F2, W.heap.size ≤ x) (hR : RD w2 gm2 Fm2 d) (k2 : Kept [] w1 w2) (hFm : ∀ x ∈ Fm2, w1.heap.size ≤ x) :
    Two w B g gm g2 gm2 d d w2 := by
  obtain ⟨L, hPR, hL, hbel⟩ := h
  have hs := hbel.size
  have hs1 := k1.size
  refine ⟨L, F2 ++ Fm2, hPR.kept (k1.trans k2) (fun _ _ h => by cases h), ⟨F2, Fm2, rfl, hP.kept k2 (fun _ _ h => by cases h), hR, fun x hx hx2 => ?_⟩, hL, fun x hx => ?_, fun x hx hx2 => ?_, hbel.trans ((k1.trans k2).below (by omega) (fun _ h => by cases h))⟩
  · have := hP.lt x hx; have := hFm x hx2; omega
  · rcases List.mem_append.1 hx with h | h
    · have := hF x h; omega
    · have := hFm x h; omega
  · have := hPR.lt x hx
    rcases List.mem_append.1 hx2 with h | h
    · have := hF x h; omega
    · have := hFm x h; omega
end Go.Proofs.Ytgdbafinncajfaa
