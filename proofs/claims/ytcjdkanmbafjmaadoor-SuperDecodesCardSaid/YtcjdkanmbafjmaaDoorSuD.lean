/- A superblock: the law's own small question. -/
import Derived.Test.YtcjdkanmbafjmaaDoorSuC
namespace Go.Proofs.YtcjdkanmbafjmaaDoor
open Go.RowKit

def s0 : Su := ⟨300, 40, 4⟩
def sS : List UInt8 := (encS s0).1
theorem live1 : encS s0 = (sS, 0) := by
  have h : (encS s0).2 = 0 := by decide +kernel
  show ((encS s0).1, (encS s0).2) = _
  rw [h]
  rfl
theorem live2 : decS sS = (s0, 0) := by
  obtain ⟨P, h1, _, h3, _⟩ := super_one s0 (by rw [live1])
  rw [sS, h1]
  exact h3
theorem live3 : sS.length = 64 := by decide +kernel
theorem live4 : sS.take 6 = [79, 65, 75, 49, 44, 1] := by decide +kernel
theorem live6 : encS ⟨56, 40, 4⟩ = ([], 1) := by decide +kernel
theorem sv0 : sv s0 = .agg #[.int .i64 300, .int .i64 40, .int .i64 4] := rfl
theorem svz : sv zeroS = .agg #[.int .i64 0, .int .i64 0, .int .i64 0] := rfl
theorem extract_list3 (s : List UInt8) (i j : Nat) : (⟨s.toArray⟩ : ByteArray).extract i j = ⟨((s.drop i).take (j - i)).toArray⟩ := by
  apply ByteArray.ext
  simp
theorem decS_wf (s : List UInt8) : wfS (decS s).1 := by
  by_cases h : (decS s).2 = 0
  · obtain ⟨_, _, hr⟩ := super_two s h
    have := (rightS_iff _).1 hr
    exact ⟨⟨by omega, by omega⟩, ⟨by omega, by omega⟩, by omega, by omega⟩
  · rw [decS_zero s h]
    unfold wfS; decide

set_option maxRecDepth 8000 in
set_option maxHeartbeats 1000000 in
theorem super_alive (w : World) : Calls Tryd.prog 8 #[] w fun e w' => e = .returned (.bool true) ∧ Kept [] w w' := by
  obtain ⟨S, hS1, hS2, hS3, hS4⟩ : ∃ S : List UInt8, encS s0 = (S, 0) ∧ decS S = (s0, 0) ∧ S.length = 64 ∧ S.take 6 = [79, 65, 75, 49, 44, 1] := ⟨sS, live1, live2, live3, live4⟩
  have H1 := Lib.hid hS1
  have H2 := Lib.hid hS2
  have hx : (⟨S.toArray⟩ : ByteArray).extract 0 6 = ⟨#[79, 65, 75, 49, 44, 1]⟩ := by rw [extract_list3]; simp [hS4]
  clear hS1 hS2 hS4
  go_enter Tryd.func8, Tryd.ntmps8
  go_wp2_with fail
  refine (super_Encode _ s0 (by unfold wfS; decide)).mono ?_
  rintro e w1 ⟨rfl, k1⟩
  rw [H1.out]
  have hb1 := (Blk.new w 23 #[.int .i64 300, .int .i64 40, .int .i64 4]).kept k1 (fun h => by cases h)
  have HK1 := Lib.hid (((Kept.refl [] w).alloc _).trans k1)
  clear k1
  go_wp2_with fail
  refine (super_Decode w1 S (by omega)).mono ?_
  rintro e w2 ⟨rfl, k2⟩
  rw [H2.out, sv0]
  have hb2 := hb1.kept k2 (fun h => by cases h)
  have HK2 := Lib.hid (HK1.out.trans k2)
  clear k2 hb1
  go_wp2_with fail
  refine (super_Encode _ ⟨56, 40, 4⟩ (by unfold wfS; decide)).mono ?_
  rintro e w3 ⟨rfl, k3⟩
  rw [live6]
  have hb3 := (hb2.alloc _).kept k3 (fun h => by cases h)
  have hc3 := (Blk.new w2 23 #[.int .i64 300, .int .i64 40, .int .i64 4]).kept k3 (fun h => by cases h)
  have HK3 := Lib.hid ((HK2.out.alloc _).trans k3)
  have p0 := hb3.cell 0
  have p1 := hb3.cell 1
  have p2 := hb3.cell 2
  have q0 := hc3.cell 0
  have q1 := hc3.cell 1
  have q2 := hc3.cell 2
  clear k3 hb2 hb3 hc3
  go_wp2_with fail
  go_ret
  exact ⟨rfl, HK3.out⟩
end Go.Proofs.YtcjdkanmbafjmaaDoor
