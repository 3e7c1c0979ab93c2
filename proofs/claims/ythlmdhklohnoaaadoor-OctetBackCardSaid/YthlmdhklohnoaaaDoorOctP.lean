/- The law OctetBack: its walk. -/
import Derived.Test.YthlmdhklohnoaaaDoorOctN
namespace Go.Proofs.YthlmdhklohnoaaaDoor
open Go.RowKit

set_option maxRecDepth 4000 in
set_option maxHeartbeats 2000000 in
theorem back_run (w : World) (A B : Option Addr) (c d : Nat) (zs : List Int) (l : List Nat) (s : List UInt8) (hA : Rd w w.heap.size 1 A zs.length (zs.map iv)) (hB : Rd w w.heap.size 1 B l.length (l.map uv)) (h64 : ∀ n ∈ l, n < 18446744073709551616) (hs : s.length ≤ 140737488351232) :
    Calls Tryd.prog 5 #[.slice A zs.length c, .slice B l.length d, .string ⟨s.toArray⟩] w fun e w' => e = .returned (.bool true) ∧ Kept [] w w' := by
  by_cases h1 : 40 < zs.length
  · go_enter Tryd.func5, Tryd.ntmps5
    go_wp2_with (go_at_call 7; refine (oct_alive _).mono ?_; rintro e w2 ⟨rfl, k2⟩)
    go_ret
    exact ⟨rfl, k2⟩
  · by_cases h2 : 40 < l.length
    · go_enter Tryd.func5, Tryd.ntmps5
      go_wp2_with (go_at_call 7; refine (oct_alive _).mono ?_; rintro e w2 ⟨rfl, k2⟩)
      go_ret
      exact ⟨rfl, k2⟩
    · by_cases h3 : 400 < s.length
      · go_enter Tryd.func5, Tryd.ntmps5
        go_wp2_with (go_at_call 7; refine (oct_alive _).mono ?_; rintro e w2 ⟨rfl, k2⟩)
        go_ret
        exact ⟨rfl, k2⟩
      · have HA := Lib.hid hA
        have HB := Lib.hid hB
        have H64 := Lib.hid h64
        have hzl : zs.length ≤ 1000 := by omega
        have hll : l.length ≤ 1000 := by omega
        have hsl : s.length ≤ 400 := by omega
        have HG1 := Lib.hid (back_one zs l s)
        have HG2 := Lib.hid (back_two s zs)
        have Hlt := Lib.hid (got_lt s zs)
        have hgl := got_len s zs
        have hgr := got_rest s zs
        have hjl := join_len zs l
        have hjl2 := join_len zs (getL s zs).1
        clear hA hB h64
        by_cases hq : (joinL zs l).2 = 0
        · have HGet := Lib.hid (HG1.out hq)
          go_enter Tryd.func5, Tryd.ntmps5
          go_wp2_with fail
          refine (oct_Join w A B c d zs l HA.out HB.out hzl hll H64.out).mono ?_
          rintro e w1 ⟨rfl, k1⟩
          rw [hq]
          clear hq HG1
          generalize (joinL zs l).1 = x at *
          have happ := app_arr2 x s
          go_wp2_with fail
          refine (oct_Get w1 (x ++ s) A c zs (rd_grow HA.out k1) (by omega) (by simp; omega)).mono ?_
          rintro e w2 ⟨A2, c2, rfl, k2, hown2⟩
          rw [HGet.out] at hown2 ⊢
          have R2 := Lib.hid (Rd.of_own hown2)
          clear hown2
          go_wp2_with fail
          refine (ref_Same w2 A2 B c2 d l R2.out (rd_grow HB.out (k1.trans k2)) (by omega)).mono ?_
          rintro e w3 ⟨rfl, k3⟩
          have k13 := Lib.hid ((k1.trans k2).trans k3)
          clear k1 k2 k3 happ HGet R2
          go_wp2_with fail
          refine (oct_Get w3 s A c zs (rd_grow HA.out k13.out) (by omega) (by omega)).mono ?_
          rintro e w4 ⟨A4, c4, rfl, k4, hown4⟩
          have R4 := Lib.hid (Rd.of_own hown4)
          clear hown4
          go_wp2_with fail
          refine (oct_Join w4 A A4 c c4 zs (getL s zs).1 (rd_grow HA.out (k13.out.trans k4)) R4.out hzl (by omega) Hlt.out).mono ?_
          rintro e w5 ⟨rfl, k5⟩
          generalize (joinL zs (getL s zs).1).1 = y at *
          generalize (joinL zs (getL s zs).1).2 = g at *
          generalize (getL s zs).1 = m at *
          generalize (getL s zs).2.1 = r at *
          generalize (getL s zs).2.2 = f at *
          go_wp2_with fail
          refine (oct_alive w5).mono ?_
          rintro e w6 ⟨rfl, k6⟩
          have kall := ((k13.out.trans k4).trans k5).trans k6
          by_cases hf : f = 0
          · obtain ⟨hg0, hyr⟩ := HG2.out hf
            subst hf
            subst hg0
            have happ2 := app_arr2 y r
            rw [hyr] at happ2
            have hyl : y.length ≤ 400 := by omega
            clear HG2
            go_wp2_with fail
            go_ret
            exact ⟨rfl, kall⟩
          · clear HG2
            go_wp2_with fail
            go_ret
            exact ⟨rfl, kall⟩
        · go_enter Tryd.func5, Tryd.ntmps5
          go_wp2_with fail
          refine (oct_Join w A B c d zs l HA.out HB.out hzl hll H64.out).mono ?_
          rintro e w3 ⟨rfl, k1⟩
          clear HG1
          generalize (joinL zs l).1 = x at *
          generalize (joinL zs l).2 = q at *
          have k13 := Lib.hid k1
          clear k1
          go_wp2_with fail
          refine (oct_Get w3 s A c zs (rd_grow HA.out k13.out) (by omega) (by omega)).mono ?_
          rintro e w4 ⟨A4, c4, rfl, k4, hown4⟩
          have R4 := Lib.hid (Rd.of_own hown4)
          clear hown4
          go_wp2_with fail
          refine (oct_Join w4 A A4 c c4 zs (getL s zs).1 (rd_grow HA.out (k13.out.trans k4)) R4.out hzl (by omega) Hlt.out).mono ?_
          rintro e w5 ⟨rfl, k5⟩
          generalize (joinL zs (getL s zs).1).1 = y at *
          generalize (joinL zs (getL s zs).1).2 = g at *
          generalize (getL s zs).1 = m at *
          generalize (getL s zs).2.1 = r at *
          generalize (getL s zs).2.2 = f at *
          go_wp2_with fail
          refine (oct_alive w5).mono ?_
          rintro e w6 ⟨rfl, k6⟩
          have kall := ((k13.out.trans k4).trans k5).trans k6
          by_cases hf : f = 0
          · obtain ⟨hg0, hyr⟩ := HG2.out hf
            subst hf
            subst hg0
            have happ2 := app_arr2 y r
            rw [hyr] at happ2
            have hyl : y.length ≤ 400 := by omega
            clear HG2
            go_wp2_with fail
            go_ret
            exact ⟨rfl, kall⟩
          · clear HG2
            go_wp2_with fail
            go_ret
            exact ⟨rfl, kall⟩
end Go.Proofs.YthlmdhklohnoaaaDoor
