/- The sums' laws' own small question. -/
import Derived.Test.YthdigddbhlakmaaCrcC
namespace Go.Proofs.Ythdigddbhlakmaa
open Go.RowKit

def liveS : List UInt8 := (sealL [97, 98] 8).1
theorem live1 : sealL [97, 98] 8 = (liveS, 0) := by decide +kernel
theorem live2 : openL liveS = ([97, 98, 0, 0], 0) := by decide +kernel
theorem live3 : openL [97, 98, 99, 100] = ([], 31) := by decide +kernel
theorem live4 : sumN [49, 50, 51, 52, 53, 54, 55, 56, 57] = 3421780262 := by decide +kernel
theorem live5 : liveS.length = 8 := by decide +kernel
theorem rd_two (w : World) (p q : List UInt8) (t : TypeId) : Rd (w.alloc (.cells #[strV p, strV q] t)) (w.alloc (.cells #[strV p, strV q] t)).heap.size 1 (some ⟨w.heap.size, 0, none⟩) [p, q].length ([p, q].map strV) := by
  refine ⟨by simp, fun _ => ⟨_, 0, rfl, (Blk.new w t #[strV p, strV q]).lt, fun j u hu => ?_⟩⟩
  rw [Nat.zero_add, (Blk.new w t #[strV p, strV q]).cell]
  simpa using hu

set_option maxRecDepth 4000 in
set_option maxHeartbeats 1000000 in
theorem crc_alive (w : World) : Calls Try.prog 5 #[] w fun e w' => e = .returned (.bool true) ∧ Kept [] w w' := by
  obtain ⟨S, hS, h1, h2⟩ : ∃ S : List UInt8, S.length = 8 ∧ sealL [97, 98] 8 = (S, 0) ∧ openL S = ([97, 98, 0, 0], 0) := ⟨liveS, live5, live1, live2⟩
  go_enter Try.func5, Try.ntmps5
  go_wp2_with fail
  refine (crc_Seal [97, 98] 8 w (by decide)).mono ?_
  rintro e w1 ⟨rfl, k1⟩
  rw [h1]
  go_wp2_with fail
  refine (crc_Open S w1 (by omega)).mono ?_
  rintro e w2 ⟨rfl, k2⟩
  rw [h2]
  go_wp2_with fail
  refine (crc_Open [97, 98, 99, 100] w2 (by decide)).mono ?_
  rintro e w3 ⟨rfl, k3⟩
  rw [live3]
  go_wp2_with fail
  refine (crc_Sum (w3.alloc (.cells #[strV [49, 50, 51, 52], strV [53, 54, 55, 56, 57]] 9)) _ _ 2 [[49, 50, 51, 52], [53, 54, 55, 56, 57]] (rd_two w3 _ _ _) (Nat.le_refl _) (by decide) (by decide)).mono ?_
  rintro e w4 ⟨rfl, k4⟩
  rw [show ([[49, 50, 51, 52], [53, 54, 55, 56, 57]] : List (List UInt8)).flatten = [49, 50, 51, 52, 53, 54, 55, 56, 57] from rfl, live4]
  go_wp2_with fail
  go_ret
  exact ⟨rfl, (((k1.trans k2).trans k3).alloc _).trans k4⟩
end Go.Proofs.Ythdigddbhlakmaa
