/- The document's octet: a number's bytes; numbers' bytes. -/
import Derived.Test.YthlmdhklohnoaaaDoorOctJ
import Derived.Deep.RegionHeld3
namespace Go.Proofs.YthlmdhklohnoaaaDoor
open Go.RowKit

theorem conv_one (w : World) (y : UInt8) : (convert 50 9 (.slice (some ⟨w.heap.size, 0, none⟩) 1 1)).run Tryd.prog (w.alloc (.cells #[.int .u8 (y.toNat : Int)] 5)) = .ok (.string ⟨#[y]⟩) (w.alloc (.cells #[.int .u8 (y.toNat : Int)] 5)) := by
  have hrd : Rd (w.alloc (.cells #[bv y] 5)) (w.alloc (.cells #[bv y] 5)).heap.size 1 (some ⟨w.heap.size, 0, none⟩) 1 ([y].map bv) := by
    refine ⟨by simp, fun _ => ⟨_, 0, rfl, (Blk.new w _ #[bv y]).lt, fun j u hu => ?_⟩⟩
    rw [Nat.zero_add, (Blk.new w _ #[bv y]).cell]
    simpa using hu
  exact conv_bytes (P := Tryd.prog) (c := 1) 50 5 Tryd.underlying50 Tryd.underlying5 hrd (fun _ => .inr ⟨_, _, rfl⟩) 9 Tryd.underlying9

set_option maxRecDepth 4000 in
set_option maxHeartbeats 1000000 in
theorem ref_Put_yes (n size : Nat) (w : World) (hn : n < 18446744073709551616) (hs : size ≤ 8) :
    Calls Tryd.prog 14 #[.int .u64 (n : Int), .int .i64 (size : Int)] w fun e w' => e = .returned (.tuple #[.string ⟨(putL n size).1.toArray⟩, .int .i64 (putL n size).2]) ∧ Kept [] w w' := by
  have HP : Hid (putL n size = if 0 < n / 256 ^ size then ([], 2) else (lowL n size, 0)) := by
    rw [Hid, putL, if_neg (by omega), Int.toNat_natCast]
  have g1 : ((size : Int) < 0) = False := by simp
  have g2 : ((8 : Int) < (size : Int)) = False := by simp; omega
  go_enter Tryd.func14, Tryd.ntmps14
  go_wp2_with fail
  go_loopw [6, 0, 7] (fun sv nv i W => ∃ k : Nat, k ≤ size ∧ i = .int .i64 k ∧ nv = .int .u64 ((n / 256 ^ k : Nat) : Int) ∧ sv = .string ⟨(lowL n k).toArray⟩ ∧ Hid (Kept [] w W)) (fun _ _ i _ => size - (intOf i).toNat)
  case atStart => exact ⟨0, Nat.zero_le _, rfl, by simp, rfl, Kept.refl _ _⟩
  case round =>
    obtain ⟨k, hk, rfl, rfl, rfl, HK⟩ := hrel
    by_cases hlt : k < size
    · have hsm : n / 256 ^ k < 18446744073709551616 := Nat.lt_of_le_of_lt (Nat.div_le_self _ _) hn
      have hd := Lib.hid (div_pow n k)
      have HL := Lib.hid (lowL_succ n k)
      have hll := lowL_len n k
      generalize n / 256 ^ k = m at *
      generalize lowL n k = L at *
      have happ : (⟨L.toArray⟩ : ByteArray) ++ ⟨#[UInt8.ofNat m]⟩ = ⟨(L ++ [UInt8.ofNat m]).toArray⟩ := app_arr2 L [_]
      have hLl : L.length ≤ 8 := by omega
      have Hll := Lib.hid hll
      clear hll
      have hcv : ∀ w : World, (convert 50 9 (.slice (some ⟨w.heap.size, 0, none⟩) 1 1)).run Tryd.prog (w.alloc (.cells #[.int .u8 ((m : Int) % 256)] 5)) = .ok (.string ⟨#[UInt8.ofNat m]⟩) (w.alloc (.cells #[.int .u8 ((m : Int) % 256)] 5))   := fun w => by
        have := conv_one w (UInt8.ofNat m)
        rw [show (((UInt8.ofNat m).toNat : Nat) : Int) = (m : Int) % 256 by simp [UInt8.toNat_ofNat']] at this
        exact this
      go_wp2_with fail
      go_roundw
      case rel =>
        refine ⟨k + 1, by omega, by go_num, ?_, ?_, HK.out.alloc _⟩
        · rw [← hd.out]; simp
        · rw [HL.out]
      case measure => simp [intOf]; omega
    · obtain rfl : k = size := by omega
      generalize hm : n / 256 ^ k = m at *
      by_cases hz : 0 < m
      · have HQ : Hid (putL n k = ([], 2)) := by rw [Hid, HP.out, if_pos hz]
        go_wp2_with fail
        go_ret2
        rw [HQ.out]
        exact ⟨rfl, HK.out⟩
      · have HQ : Hid (putL n k = (lowL n k, 0)) := by rw [Hid, HP.out, if_neg hz]
        go_wp2_with fail
        go_ret2
        rw [HQ.out]
        exact ⟨rfl, HK.out⟩
theorem ref_Put (n : Nat) (size : Int) (w : World) (hn : n < 18446744073709551616) :
    Calls Tryd.prog 14 #[.int .u64 (n : Int), .int .i64 size] w fun e w' => e = .returned (.tuple #[.string ⟨(putL n size).1.toArray⟩, .int .i64 (putL n size).2]) ∧ Kept [] w w' := by
  by_cases h : size < 0
  · have HP : Hid (putL n size = ([], 1)) := by rw [Hid, putL, if_pos (.inl h)]
    go_enter Tryd.func14, Tryd.ntmps14
    go_wp2_with fail
    go_ret2
    rw [HP.out]
    exact ⟨rfl, Kept.refl _ _⟩
  · by_cases h8 : 8 < size
    · have HP : Hid (putL n size = ([], 1)) := by rw [Hid, putL, if_pos (.inr h8)]
      go_enter Tryd.func14, Tryd.ntmps14
      go_wp2_with fail
      go_ret2
      rw [HP.out]
      exact ⟨rfl, Kept.refl _ _⟩
    · obtain ⟨s, rfl⟩ : ∃ s : Nat, size = s := ⟨size.toNat, by omega⟩
      exact ref_Put_yes n s w hn (by omega)
end Go.Proofs.YthlmdhklohnoaaaDoor
