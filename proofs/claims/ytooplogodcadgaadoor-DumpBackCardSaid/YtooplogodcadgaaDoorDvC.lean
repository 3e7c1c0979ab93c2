/- Dumps: the law DumpLines. -/
import Derived.Test.YtooplogodcadgaaDoorDvB
import Derived.Test.YtooplogodcadgaaDoorDuX
namespace Go.Proofs.YtooplogodcadgaaDoor
open Go.RowKit Go.Lib

theorem TRd.nil (w : World) : TRd w none [] := Rd.nil _ _ _ _
set_option maxRecDepth 8000 in
set_option maxHeartbeats 4000000 in
theorem law_DumpLines (a b c : Int) (A : Option Addr) (cA : Nat) (ps : List Pr) (w : World) (hL : Laid w) (hr : LRd w A ps) (hg : ∀ p ∈ ps, in32 p.1.gen = true) (hn : ps.length ≤ maxLen) : Calls Tryd.prog 3 #[repV a b c (.slice A ps.length cA)] w fun e w' => e = .returned (.bool true) ∧ Kept [] w w' := by
  have HA := Lib.hid hr
  have HG := Lib.hid hg
  have HLd := Lib.hid hL
  have R0 := Lib.hid (Blk.new w 26 #[.int .i64 a, .int .i64 b, .int .i64 c, .slice A ps.length cA])
  have k0 := (Kept.refl [] w).alloc (.cells #[.int .i64 a, .int .i64 b, .int .i64 c, .slice A ps.length cA] 26)
  have HFi := Lib.hid (law_fits a b c A cA ps _ (hr.kept k0) hn)
  unfold FitsPost repV at HFi
  replace k0 := Lib.hid k0
  have HAl : Hid (∀ V, Kept [] w V → Calls Tryd.prog 7 #[] V fun e w' => e = .returned (.bool true) ∧ Kept [] V w') := fun V k => dump_alive V (hL.kept k)
  clear hL hr hg
  unfold repV
  go_enter Tryd.func3, Tryd.ntmps3
  go_wp2_with fail
  refine HFi.out.mono ?_
  rintro e w1 ⟨v, rfl, hv, k1⟩
  have K1 := Lib.hid (k0.out.trans k1)
  have R1 := R0.out.kept k1 (fun h => by cases h)
  cases v with
  | false =>
    clear hv k1 R1
    go_wp2_with fail
    refine (HAl.out _ K1.out).mono ?_
    rintro e w2 ⟨rfl, k2⟩
    have K2 := Lib.hid (K1.out.trans k2)
    clear k2
    go_wp2_with fail
    go_ret
    exact ⟨rfl, K2.out⟩
  | true =>
    obtain ⟨h60, hen⟩ := hv rfl
    have HPL := Lib.hid (dump_Lines a b c A cA ps w1 (HLd.out.kept K1.out) (HA.out.kept K1.out) HG.out (by omega) (fun p hp => by have := hen p hp; omega))
    unfold LinesPost at HPL
    obtain ⟨r0, r1, r2, r3⟩ := blk4 R1
    replace R1 := Lib.hid R1
    replace hen := Lib.hid hen
    clear hv k1
    go_wp2_with fail
    refine HPL.out.mono ?_
    rintro e w2 ⟨k2, hx⟩
    have K2 := Lib.hid (K1.out.trans k2)
    have R2 := Lib.hid (R1.out.kept k2 (fun h => by cases h))
    have HX : ∃ (AX : Option Addr) (cX : Nat) (LX : List Bs) (eX : Int), e = .returned (.tuple #[.slice AX LX.length cX, .int .i64 eX]) ∧ TRd w2 AX LX ∧ LX.length ≤ 4000000 ∧ ((linesD ⟨a, b, c, ps.map (·.1)⟩ = none ∧ LX = [] ∧ eX = 1) ∨ (linesD ⟨a, b, c, ps.map (·.1)⟩ = some LX ∧ eX = 0)) := by
      rcases hx with ⟨hno, rfl⟩ | ⟨L, A2, c2, hL, rfl, hln, o2⟩
      · exact ⟨none, 0, [], 1, rfl, TRd.nil _, by decide, .inl ⟨hno, rfl, rfl⟩⟩
      · exact ⟨A2, c2, L, 0, rfl, Rd.of_own o2, by omega, .inr ⟨hL, rfl⟩⟩
    obtain ⟨AX, cX, LX, eX, rfl, hTX, hlX, hX⟩ := HX
    have HTX := Lib.hid hTX
    replace hX := Lib.hid hX
    have HOf := Lib.hid (law_of a b c A cA ps w2 (HA.out.kept K2.out) (by omega))
    unfold OfPost repV at HOf
    obtain ⟨s0, s1, s2, s3⟩ := blk4 R2.out
    clear hx k2 r0 r1 r2 r3 hTX HPL
    go_wp2_with fail
    refine HOf.out.mono ?_
    rintro e w3 ⟨B, cB, rfl, hLB, k3⟩
    have K3 := Lib.hid (K2.out.trans k3)
    have HTX3 := HTX.out.kept k3
    have HRL := Lib.hid (ref_Lines a b c B cB ps w3 hLB HG.out (by omega) (fun p hp => by have := hen.out p hp; omega))
    unfold LinesPost at HRL
    clear s0 s1 s2 s3 hLB k3
    go_wp2_with fail
    refine HRL.out.mono ?_
    rintro e w4 ⟨k4, hy⟩
    have HY : ∃ (AY : Option Addr) (cY : Nat), e = .returned (.tuple #[.slice AY LX.length cY, .int .i64 eX]) ∧ TRd w4 AY LX := by
      rcases hy with ⟨hno, rfl⟩ | ⟨L, A2, c2, hL, rfl, hln, o2⟩
      · rcases hX.out with ⟨_, rfl, rfl⟩ | ⟨h2, _⟩
        · exact ⟨none, 0, rfl, TRd.nil _⟩
        · rw [hno] at h2
          cases h2
      · rcases hX.out with ⟨h2, _⟩ | ⟨h2, rfl⟩
        · rw [hL] at h2
          cases h2
        · rw [hL] at h2
          obtain rfl := Option.some.inj h2
          exact ⟨A2, c2, rfl, Rd.of_own o2⟩
    obtain ⟨AY, cY, rfl, hTY⟩ := HY
    have K4 := Lib.hid (K3.out.trans k4)
    have HLi := Lib.hid (law_lines AX AY cX cY LX w4 (HTX3.kept k4) hTY hlX)
    clear hy k4 hTY HTX3 hX
    replace hlX := Lib.hid hlX
    go_wp2_with fail
    refine HLi.out.mono ?_
    rintro e w5 ⟨rfl, k5⟩
    have K5 := Lib.hid (K4.out.trans k5)
    clear k5
    go_wp2_with fail
    refine (HAl.out _ K5.out).mono ?_
    rintro e w6 ⟨rfl, k6⟩
    have K6 := Lib.hid (K5.out.trans k6)
    clear k6
    go_wp2_with fail
    go_ret
    exact ⟨rfl, K6.out⟩
end Go.Proofs.YtooplogodcadgaaDoor
