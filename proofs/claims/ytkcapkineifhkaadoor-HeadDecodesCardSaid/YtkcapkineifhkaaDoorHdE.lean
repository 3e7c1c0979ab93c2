/- A store's head: the law's own small question; the law HeadBack: its walk. -/
import Derived.Test.YtkcapkineifhkaaDoorHdD
namespace Go.Proofs.YtkcapkineifhkaaDoor
open Go.RowKit

def h0 : Hd := ⟨3, 8, 40, true⟩
def sH : List UInt8 := (encH h0).1
theorem live1 : encH h0 = (sH, 0) := by
  have h : (encH h0).2 = 0 := by decide +kernel
  show ((encH h0).1, (encH h0).2) = _
  rw [h]
  rfl
theorem live2 : decH sH = (h0, 0) := by
  obtain ⟨P, h1, _, h3, _⟩ := head_one h0 (by decide) (by rw [live1])
  rw [sH, h1]
  exact h3
theorem live3 : sH.length = 64 := by decide +kernel
theorem live4 : sH.take 8 = [79, 65, 75, 72, 3, 0, 0, 0] := by decide +kernel
theorem live5 : sH[14]? = some 1 := by decide +kernel
theorem live6 : decH [120] = (zeroH, 21) := by decide +kernel
theorem hv0 : hv h0 = .agg #[.int .u32 3, .int .i64 8, .int .i64 40, .bool true] := rfl
theorem hvz : hv zeroH = .agg #[.int .u32 0, .int .i64 0, .int .i64 0, .bool false] := rfl
theorem decH_lt (s : List UInt8) : (decH s).1.gen < 4294967296 := by
  unfold decH
  repeat' split
  all_goals first | (show (0 : Nat) < 4294967296; omega) | exact Nat.mod_lt _ (by omega)
theorem extract_list3 (s : List UInt8) (i j : Nat) : (⟨s.toArray⟩ : ByteArray).extract i j = ⟨((s.drop i).take (j - i)).toArray⟩ := by
  apply ByteArray.ext
  simp

set_option maxRecDepth 8000 in
set_option maxHeartbeats 1000000 in
theorem head_alive (w : World) : Calls Tryd.prog 8 #[] w fun e w' => e = .returned (.bool true) ∧ Kept [] w w' := by
  obtain ⟨S, hS1, hS2, hS3, hS4, hS5⟩ : ∃ S : List UInt8, encH h0 = (S, 0) ∧ decH S = (h0, 0) ∧ S.length = 64 ∧ S.take 8 = [79, 65, 75, 72, 3, 0, 0, 0] ∧ S[14]? = some 1 := ⟨sH, live1, live2, live3, live4, live5⟩
  have H1 := Lib.hid hS1
  have H2 := Lib.hid hS2
  have hx : (⟨S.toArray⟩ : ByteArray).extract 0 8 = ⟨#[79, 65, 75, 72, 3, 0, 0, 0]⟩ := by rw [extract_list3]; simp [hS4]
  have hy : (⟨S.toArray⟩ : ByteArray)[14]'(by show 14 < S.length; omega) = 1 := (List.getElem?_eq_some_iff.1 hS5).2
  clear hS1 hS2 hS4 hS5
  go_enter Tryd.func8, Tryd.ntmps8
  go_wp2_with fail
  refine (head_Encode _ h0 (by decide)).mono ?_
  rintro e w1 ⟨rfl, k1⟩
  rw [H1.out]
  have hb1 := (Blk.new w 24 #[.int .u32 3, .int .i64 8, .int .i64 40, .bool true]).kept k1 (fun h => by cases h)
  have HK1 := Lib.hid (((Kept.refl [] w).alloc _).trans k1)
  clear k1
  go_wp2_with fail
  refine (head_Decode w1 S (by omega)).mono ?_
  rintro e w2 ⟨rfl, k2⟩
  rw [H2.out, hv0]
  have hb2 := hb1.kept k2 (fun h => by cases h)
  have HK2 := Lib.hid (HK1.out.trans k2)
  clear k2 hb1
  go_wp2_with fail
  refine (head_Decode _ [120] (by decide)).mono ?_
  rintro e w3 ⟨rfl, k3⟩
  rw [live6, hvz]
  have hb3 := (hb2.alloc _).kept k3 (fun h => by cases h)
  have hc3 := (Blk.new w2 24 #[.int .u32 3, .int .i64 8, .int .i64 40, .bool true]).kept k3 (fun h => by cases h)
  have HK3 := Lib.hid ((HK2.out.alloc _).trans k3)
  have hb4 := hb3.alloc (.cells #[.int .u32 0, .int .i64 0, .int .i64 0, .bool false] 24)
  have hc4 := hc3.alloc (.cells #[.int .u32 0, .int .i64 0, .int .i64 0, .bool false] 24)
  have p0 := hb4.cell 0
  have p1 := hb4.cell 1
  have p2 := hb4.cell 2
  have p3 := hb4.cell 3
  have q0 := hc4.cell 0
  have q1 := hc4.cell 1
  have q2 := hc4.cell 2
  have q3 := hc4.cell 3
  clear k3 hb2 hb3 hc3 hb4 hc4
  go_wp2_with fail
  go_ret
  exact ⟨rfl, HK3.out.alloc _⟩
end Go.Proofs.YtkcapkineifhkaaDoor
