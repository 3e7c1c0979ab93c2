/- The law OriginArgs: which acts are gone through. -/
import Derived.Test.YtdifolhkbkaamaaOrgC
namespace Go.Proofs.Ytdifolhkbkaamaa
open Go.RowKit

structure Ac where
  kind : Nat
  at_ : Int
  n : Int
  data : List UInt8
def av (a : Ac) : Value := .agg #[.int .u8 (a.kind : Int), .int .i64 a.at_, .int .i64 a.n, .string ⟨a.data.toArray⟩]
theorem law_fits (a : Ac) (w : World) (b : Nat) (hb : Blk w b 25 #[.int .u8 (a.kind : Int), .int .i64 a.at_, .int .i64 a.n, .string ⟨a.data.toArray⟩]) :
    Calls Try.prog 5 #[.slice (some ⟨b, 0, none⟩) 1 1] w fun e w' => e = .returned (.bool (decide (a.data.length ≤ 8320))) ∧ w = w' := by
  have c3 : w.cell? ⟨b, 3, none⟩ = some (.string ⟨a.data.toArray⟩) := hb.cell 3
  obtain ⟨L, hL⟩ : ∃ L, a.data = L := ⟨_, rfl⟩
  rw [hL] at c3 ⊢
  clear hb hL
  by_cases h : L.length ≤ 8320
  · have h2 : ¬ ((8320 : Int) < (L.length : Int)) := by omega
    go_enter Try.func5, Try.ntmps5
    go_wp2_with fail
    go_loop [3] (fun i => ∃ k : Nat, k ≤ 1 ∧ i = .int .i64 k) (fun i => (1 - intOf i).toNat)
    case atStart => exact ⟨0, by omega, rfl⟩
    case round =>
      obtain ⟨k, hk, rfl⟩ := hrel
      rcases (show k = 0 ∨ k = 1 by omega) with rfl | rfl
      · go_wp2_with fail
        go_round
        case rel => exact ⟨1, by omega, by go_num⟩
        case measure => simp [intOf]
      · go_wp2_with fail
        go_ret
        exact ⟨by simp, rfl⟩
  · have h2 : ((8320 : Int) < (L.length : Int)) := by omega
    go_enter Try.func5, Try.ntmps5
    go_wp2_with fail
    go_loop [3] (fun i => i = .int .i64 0) (fun i => (1 - intOf i).toNat)
    case atStart => exact rfl
    case round =>
      obtain rfl := hrel
      go_wp2_with fail
      go_ret
      exact ⟨by simp, rfl⟩
end Go.Proofs.Ytdifolhkbkaamaa
