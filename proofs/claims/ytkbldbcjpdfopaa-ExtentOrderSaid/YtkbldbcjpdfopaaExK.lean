/- Extents: the law's same. -/
import Derived.Test.YtkbldbcjpdfopaaExJ
namespace Go.Proofs.Ytkbldbcjpdfopaa
open Go.RowKit

/-- nothing but draws -/
def Dr (w W : World) : Prop := ∃ m, W = w.drewN m
theorem Dr.refl (w : World) : Dr w w := ⟨0, rfl⟩
theorem Dr.trans {a b c : World} (h : Dr a b) (k : Dr b c) : Dr a c := by
  obtain ⟨m, rfl⟩ := h
  obtain ⟨n, rfl⟩ := k
  exact ⟨m + n, World.drewN_drewN _ _ _⟩
theorem Dr.drewN {a b : World} (h : Dr a b) (n : Nat) : Dr a (b.drewN n) := h.trans ⟨n, rfl⟩
theorem Dr.kept {a b : World} (h : Dr a b) : Kept [] a b := by
  obtain ⟨m, rfl⟩ := h
  exact (Kept.refl [] a).drewN m
set_option maxHeartbeats 1000000 in
theorem same_X (w : World) (A B : Option Addr) (ca cb n1 n2 : Nat) (la lb : List Ex) (hA : EAt n1 w A ca la) (hB : EAt n2 w B cb lb) (hn : la.length ≤ 1048576) (he : Hid (la = lb)) :
    Calls Try.prog 11 #[.slice A la.length ca, .slice B lb.length cb] w fun e w' => e = .returned (.bool true) ∧ Dr w w' := by
  have e2 := he.out
  subst e2
  have HA := Lib.hid hA
  have HB := Lib.hid hB
  clear hA hB
  go_enter Try.func11, Try.ntmps11
  go_wp2_with fail
  go_loopw [5] (fun i W => ∃ k : Nat, k ≤ la.length ∧ i = .int .i64 k ∧ Hid (Dr w W)) (fun i _ => la.length - (intOf i).toNat)
  case atStart => exact ⟨0, Nat.zero_le _, rfl, Dr.refl _⟩
  case round =>
    obtain ⟨k, hk, rfl, HK⟩ := hrel
    by_cases hlt : k < la.length
    · obtain ⟨b, rfl, h0, h1⟩ := EAt.at_ HA.out hlt
      obtain ⟨b', rfl, h2, h3⟩ := EAt.at_ HB.out hlt
      have c0 := HK.out.kept.cell h0 (fun h => by cases h)
      have c1 := HK.out.kept.cell h1 (fun h => by cases h)
      have c2 := HK.out.kept.cell h2 (fun h => by cases h)
      have c3 := HK.out.kept.cell h3 (fun h => by cases h)
      clear h0 h1 h2 h3
      generalize la[k] = ax at *
      obtain ⟨xo, xi⟩ := ax
      dsimp only at c0 c1 c2 c3
      have hi : (k : Int) < (la.length : Int) := by omega
      go_wp2_with fail
      go_quiet (fail)
      go_wp2_with fail
      go_roundw
      case rel => exact ⟨k + 1, by omega, by go_num, HK.out.drewN nq⟩
      case measure => simp [intOf]; omega
    · obtain rfl : k = la.length := by omega
      go_wp2_with fail
      go_ret
      exact ⟨rfl, HK.out⟩
end Go.Proofs.Ytkbldbcjpdfopaa
