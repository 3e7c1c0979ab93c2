/- The octet's laws' own small question; the law OctetGets: its walk. -/
import Derived.Test.YthlmdhklohnoaaaDoorOctG
namespace Go.Proofs.YthlmdhklohnoaaaDoor
open Go.RowKit

theorem live1 : putL 258 3 = ([2, 1, 0], 0) := by decide +kernel
theorem live2 : putL 256 1 = ([], 2) := by decide +kernel
theorem live3 : getL [1, 2, 3, 4] [1, 2] = ([1, 770], [4], 0) := by decide +kernel
theorem live4 : (Lib.trimB [0] 0).isEmpty = true := by decide +kernel
theorem rd_pair (w : World) (p q : Int) (t : TypeId) : Rd (w.alloc (.cells #[.int .i64 p, .int .i64 q] t)) (w.alloc (.cells #[.int .i64 p, .int .i64 q] t)).heap.size 1 (some ⟨w.heap.size, 0, none⟩) [p, q].length ([p, q].map iv) := by
  refine ⟨by simp, fun _ => ⟨_, 0, rfl, (Blk.new w t #[iv p, iv q]).lt, fun j u hu => ?_⟩⟩
  rw [Nat.zero_add]
  show (w.alloc (.cells #[iv p, iv q] t)).cell? _ = _
  rw [(Blk.new w t #[iv p, iv q]).cell]
  simpa using hu

set_option maxRecDepth 4000 in
set_option maxHeartbeats 1000000 in
theorem oct_alive (w : World) : Calls Tryd.prog 7 #[] w fun e w' => e = .returned (.bool true) ∧ Kept [] w w' := by
  go_enter Tryd.func7, Tryd.ntmps7
  go_wp2_with fail
  refine (oct_Put 258 3 w (by decide)).mono ?_
  rintro e w1 ⟨rfl, k1⟩
  rw [live1]
  go_wp2_with fail
  refine (oct_Get (w1.alloc (.cells #[.int .i64 1, .int .i64 2] 3)) [1, 2, 3, 4] _ 2 [1, 2] (rd_pair w1 1 2 _) (by decide) (by decide)).mono ?_
  rintro e w2 ⟨A, c, rfl, k2, hown⟩
  rw [live3] at hown ⊢
  obtain ⟨b, o, rfl, _, hc⟩ := (Rd.of_own hown).2 (by decide)
  have hc1 := hc 1 (uv 770) rfl
  clear hc hown
  go_wp2_with fail
  refine (oct_Put 256 1 w2 (by decide)).mono ?_
  rintro e w3 ⟨rfl, k3⟩
  rw [live2]
  have hc2 := k3.cell hc1 (fun h => by cases h)
  clear hc1
  simp only [uv] at hc2
  go_wp2_with fail
  refine (oct_Zero [0] w3 (by decide)).mono ?_
  rintro e w4 ⟨rfl, k4⟩
  rw [live4]
  go_wp2_with fail
  go_ret
  exact ⟨rfl, (((k1.alloc _).trans k2).trans k3).trans k4⟩

set_option maxRecDepth 4000 in
set_option maxHeartbeats 1000000 in
theorem gets_run (w : World) (s : List UInt8) (A : Option Addr) (c : Nat) (zs : List Int) (h : Rd w w.heap.size 1 A zs.length (zs.map iv)) (hs : s.length ≤ 140737488351232) :
    Calls Tryd.prog 3 #[.string ⟨s.toArray⟩, .slice A zs.length c] w fun e w' => e = .returned (.bool true) ∧ Kept [] w w' := by
  by_cases h1 : 400 < s.length
  · go_enter Tryd.func3, Tryd.ntmps3
    go_wp2_with (go_at_call 7; refine (oct_alive _).mono ?_; rintro e w2 ⟨rfl, k2⟩)
    go_ret
    exact ⟨rfl, k2⟩
  · by_cases h2 : 40 < zs.length
    · go_enter Tryd.func3, Tryd.ntmps3
      go_wp2_with (go_at_call 7; refine (oct_alive _).mono ?_; rintro e w2 ⟨rfl, k2⟩)
      go_ret
      exact ⟨rfl, k2⟩
    · have hn : zs.length ≤ 1000000 := by omega
      have H := Lib.hid h
      clear h
      go_enter Tryd.func3, Tryd.ntmps3
      go_wp2_with fail
      refine (oct_Get w s A c zs H.out hn hs).mono ?_
      rintro e w1 ⟨A1, c1, rfl, k1, hown1⟩
      have hl : (getL s zs).1.length ≤ 1000000 := by
        unfold getL
        split
        · simp
        · split
          · rw [numsK_len]; exact hn
          · simp
      have R1 := Lib.hid (Rd.of_own hown1)
      clear hown1
      go_wp2_with fail
      refine (ref_Get w1 s A c zs (rd_grow H.out k1) hn hs).mono ?_
      rintro e w2 ⟨A2, c2, rfl, k2, hown2⟩
      have R2 := Lib.hid (Rd.of_own hown2)
      clear hown2
      generalize (getL s zs).1 = l at *
      generalize (getL s zs).2.1 = r at *
      generalize (getL s zs).2.2 = n at *
      go_wp2_with fail
      refine (ref_Same w2 A1 A2 c1 c2 l (rd_grow R1.out k2) R2.out hl).mono ?_
      rintro e w3 ⟨rfl, k3⟩
      go_wp2_with fail
      refine (oct_alive w3).mono ?_
      rintro e w4 ⟨rfl, k4⟩
      go_wp2_with fail
      go_ret
      exact ⟨rfl, ((k1.trans k2).trans k3).trans k4⟩
end Go.Proofs.YthlmdhklohnoaaaDoor
