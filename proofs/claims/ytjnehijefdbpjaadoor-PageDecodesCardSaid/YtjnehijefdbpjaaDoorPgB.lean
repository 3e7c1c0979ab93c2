/- The program's pages: the numbers' sizes; a page's sector. -/
import Derived.Test.YtjnehijefdbpjaaDoorPgA
namespace Go.Proofs.YtjnehijefdbpjaaDoor
open Go.RowKit

def szCells (k : Nat) : Array Value := (List.replicate k (iv 4) ++ List.replicate (14 - k) (iv 0)).toArray
theorem szCells_set (k : Nat) (h : k < 14) : (szCells k).setIfInBounds k (iv 4) = szCells (k + 1) := by
  obtain ⟨r, hr⟩ : ∃ r, 14 - k = r + 1 := ⟨14 - k - 1, by omega⟩
  have h4 : List.replicate (k + 1) (iv 4) = List.replicate k (iv 4) ++ [iv 4] := List.replicate_succ'
  rw [szCells, szCells, hr, show 14 - (k + 1) = r by omega, h4, List.replicate_succ]
  simp
theorem szCells_size (k : Nat) (h : k ≤ 14) : (szCells k).size = 14 := by simp [szCells]; omega

set_option maxRecDepth 4000 in
set_option maxHeartbeats 1000000 in
theorem page_sizes (w : World) : Calls Tryd.prog 13 #[] w fun e w' => ∃ b, e = .returned (.slice (some ⟨b, 0, none⟩) 14 14) ∧ Rd w' w'.heap.size 1 (some ⟨b, 0, none⟩) fours.length (fours.map iv) ∧ Kept [] w w' := by
  obtain ⟨zA, hzA, hz⟩ : ∃ zA, zA = szCells 0 ∧ ∀ w, (zeroValue 56).run Tryd.prog w = .ok (.agg zA) w := ⟨_, rfl, fun w => by kernel_rfl⟩
  have HB0 : Hid (Blk (w.alloc (.cells zA 56)) w.heap.size 56 (szCells 0)) := by rw [← hzA]; exact Blk.new _ _ _
  clear hzA
  go_enter Tryd.func13, Tryd.ntmps13
  go_wp2_with fail
  have HK0 : Hid (Kept [] w (w.alloc (.cells zA 56))) := (Kept.refl [] w).alloc _
  go_loopw [3] (fun i W => ∃ k : Nat, k ≤ 14 ∧ i = .int .i64 k ∧ Hid (Blk W w.heap.size 56 (szCells k)) ∧ Hid (Kept [] w W)) (fun i _ => 14 - (intOf i).toNat)
  case atStart => exact ⟨0, Nat.zero_le _, rfl, HB0.out, HK0.out⟩
  case round =>
    obtain ⟨k, hk, rfl, HB, HK⟩ := hrel
    by_cases hlt : k < 14
    · have hc := HB.out.cell k
      have hf := HB.out.frozen k
      have hc2 : ∃ v, wr.cell? ⟨w.heap.size, k, none⟩ = some v := by
        rw [hc]
        have : k < (szCells k).size := by rw [szCells_size k hk]; exact hlt
        exact ⟨_, Array.getElem?_eq_getElem this⟩
      obtain ⟨v, hv⟩ := hc2
      clear hc
      go_wp2_with fail
      go_roundw
      case rel =>
        have hs2 := HB.out.set_ k (iv 4)
        rw [szCells_set k hlt] at hs2
        exact ⟨k + 1, by omega, by go_num, hs2, HK.out.setCell (.inr (Nat.le_refl _)) _⟩
      case measure => simp [intOf]; omega
    · obtain rfl : k = 14 := by omega
      have hrd : Rd wr wr.heap.size 1 (some ⟨w.heap.size, 0, none⟩) fours.length (fours.map iv) := by
        refine ⟨by simp [fours], fun _ => ⟨_, 0, rfl, HB.out.lt, fun j u hu => ?_⟩⟩
        rw [Nat.zero_add, HB.out.cell, szCells]
        simpa [fours] using hu
      have Hrd := Lib.hid hrd
      clear hrd
      go_wp2_with fail
      go_ret
      exact ⟨w.heap.size, rfl, Hrd.out, HK.out⟩
end Go.Proofs.YtjnehijefdbpjaaDoor
