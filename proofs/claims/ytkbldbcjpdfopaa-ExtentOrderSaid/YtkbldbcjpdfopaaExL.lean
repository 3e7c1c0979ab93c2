/- Extents: the document's has. -/
import Derived.Test.YtkbldbcjpdfopaaExK
namespace Go.Proofs.Ytkbldbcjpdfopaa
open Go.RowKit

def inX (a : Int) (x : Ex) : Bool := decide (x.st ≤ a) && decide (a < x.st + x.len)
def hasX (l : List Ex) (a : Int) : Bool := l.any (inX a)
set_option maxHeartbeats 1000000 in
theorem ref_has (w : World) (n₀ : Nat) (A : Option Addr) (c : Nat) (l : List Ex) (a : Int) (hA : RdX n₀ w A l) (hln : l.length ≤ 8796093022208) (hl : ∀ x ∈ l, 0 ≤ x.st ∧ x.st ≤ 4000000 ∧ 0 ≤ x.len ∧ x.len ≤ 4000000) :
    Calls Try.prog 18 #[.slice A l.length c, .int .i64 a] w fun e w' => e = .returned (.bool (hasX l a)) ∧ Dr w w' := by
  have HA := Lib.hid hA
  have HL := Lib.hid hl
  clear hA hl
  go_enter Try.func18, Try.ntmps18
  go_wp2_with fail
  go_loopw [5] (fun i W => ∃ k : Nat, k ≤ l.length ∧ i = .int .i64 k ∧ Hid (hasX l a = hasX (l.drop k) a) ∧ Hid (Dr w W)) (fun i _ => l.length - (intOf i).toNat)
  case atStart => exact ⟨0, Nat.zero_le _, rfl, rfl, Dr.refl _⟩
  case round =>
    obtain ⟨k, hk, rfl, HE, HK⟩ := hrel
    by_cases hlt : k < l.length
    · obtain ⟨b, o, rfl, h0, h1⟩ := HA.out.at_ hlt
      have c0 := HK.out.kept.cell h0 (fun h => by cases h)
      have c1 := HK.out.kept.cell h1 (fun h => by cases h)
      have HE2 : Hid (hasX l a = (inX a l[k] || hasX (l.drop (k + 1)) a)) := by
        rw [Hid, HE.out, List.drop_eq_getElem_cons hlt]
        rfl
      have hb := HL.out l[k] (List.getElem_mem _)
      have hi : (k : Int) < (l.length : Int) := by omega
      clear h0 h1
      generalize l[k] = x at *
      obtain ⟨xs, xl⟩ := x
      dsimp only at c0 c1 hb
      have hw : IntKind.i64.wrap (xs + xl) = xs + xl := IntWalk.i64_in _ (by omega)
      by_cases g0 : xs ≤ a
      · by_cases g1 : a < xs + xl
        · have HY : Hid (hasX l a = true) := by rw [Hid, HE2.out]; simp [inX, g0, g1]
          go_wp2_with fail
          go_quiet (fail)
          go_wp2_with fail
          go_ret
          rw [HY.out]
          exact ⟨rfl, HK.out.drewN nq⟩
        · have HY : Hid (hasX l a = hasX (l.drop (k + 1)) a) := by rw [Hid, HE2.out]; simp [inX, g1]
          have g2 : decide (a < xs + xl) = false := decide_eq_false g1
          go_wp2_with fail
          go_quiet (fail)
          go_wp2_with fail
          go_roundw
          case rel => exact ⟨k + 1, by omega, by go_num, HY.out, HK.out.drewN nq⟩
          case measure => simp [intOf]; omega
      · have HY : Hid (hasX l a = hasX (l.drop (k + 1)) a) := by rw [Hid, HE2.out]; simp [inX, g0]
        have g2 : decide (xs ≤ a) = false := decide_eq_false g0
        go_wp2_with fail
        go_quiet (fail)
        go_wp2_with fail
        go_roundw
        case rel => exact ⟨k + 1, by omega, by go_num, HY.out, HK.out.drewN nq⟩
        case measure => simp [intOf]; omega
    · obtain rfl : k = l.length := by omega
      have HN : Hid (hasX l a = false) := by rw [Hid, HE.out, List.drop_length]; rfl
      go_wp2_with fail
      go_ret
      rw [HN.out]
      exact ⟨rfl, HK.out⟩
end Go.Proofs.Ytkbldbcjpdfopaa
