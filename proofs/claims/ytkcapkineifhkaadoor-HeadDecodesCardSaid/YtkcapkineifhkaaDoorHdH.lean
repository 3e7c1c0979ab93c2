/- A store's head: the document's Right, and its sector. -/
import Derived.Test.YtkcapkineifhkaaDoorHdE
import Derived.Test.YtkcapkineifhkaaDoorHdG
import Derived.Test.YtkcapkineifhkaaDoorRefY
import Derived.Deep.RegionHeld3
namespace Go.Proofs.YtkcapkineifhkaaDoor
open Go.RowKit

theorem ref_heads (w : World) : Calls Tryd.prog 17 #[] w fun e w' => e = .returned (.slice (some ⟨w.heap.size, 0, none⟩) 4 4) ∧ w' = w.alloc (.cells (zsH.map iv).toArray 3) := by
  go_enter Tryd.func17, Tryd.ntmps17
  go_wp2_with fail
  go_ret
  exact ⟨rfl, rfl⟩
theorem ref_flag (b : Bool) (w : World) : Calls Tryd.prog 18 #[.bool b] w fun e w' => e = .returned (.int .u64 ((if b then 1 else 0 : Nat) : Int)) ∧ w = w' := by
  cases b
  · go_enter Tryd.func18, Tryd.ntmps18
    go_wp2_with fail
    go_ret
    exact ⟨rfl, rfl⟩
  · go_enter Tryd.func18, Tryd.ntmps18
    go_wp2_with fail
    go_ret
    exact ⟨rfl, rfl⟩
theorem ref_Right (h : Hd) (w : World) : Calls Tryd.prog 10 #[hv h] w fun e w' => e = .returned (.bool (rightH h)) ∧ Kept [] w w' := by
  obtain ⟨g, c, p, i⟩ := h
  have H : Hid (∀ x, rightH ⟨g, c, p, i⟩ = x ↔ (decide (0 < g) && (decide (1 ≤ c) && decide (c ≤ 128)) && (decide (1 ≤ p) && decide (p ≤ 1048576))) = x) := fun x => Iff.rfl
  unfold hv
  by_cases h1 : 1 ≤ g
  · by_cases h2 : 1 ≤ c
    · by_cases h3 : c ≤ 128
      · by_cases h4 : 1 ≤ p
        · by_cases h5 : p ≤ 1048576
          all_goals
            go_enter Tryd.func10, Tryd.ntmps10
            go_wp2_with fail
            go_ret
            refine ⟨?_, (Kept.refl [] w).alloc _⟩
            rw [(H.out _).2 rfl]
            congr 2
            simp
            omega
        · go_enter Tryd.func10, Tryd.ntmps10
          go_wp2_with fail
          go_ret
          refine ⟨?_, (Kept.refl [] w).alloc _⟩
          rw [(H.out false).2 (by simp; omega)]
          rfl
      · go_enter Tryd.func10, Tryd.ntmps10
        go_wp2_with fail
        go_ret
        refine ⟨?_, (Kept.refl [] w).alloc _⟩
        rw [(H.out false).2 (by simp; omega)]
        rfl
    · go_enter Tryd.func10, Tryd.ntmps10
      go_wp2_with fail
      go_ret
      refine ⟨?_, (Kept.refl [] w).alloc _⟩
      rw [(H.out false).2 (by simp; omega)]
      rfl
  · go_enter Tryd.func10, Tryd.ntmps10
    go_wp2_with fail
    go_ret
    refine ⟨?_, (Kept.refl [] w).alloc _⟩
    rw [(H.out false).2 (by simp; omega)]
    rfl
set_option maxHeartbeats 1000000 in
theorem ref_sealed (w : World) (L : List UInt8) (A B : Option Addr) (c d : Nat) (zs : List Int) (l : List Nat) (J : List UInt8) (hJ : Hid (joinL zs l = (J, 0))) (hA : Rd w w.heap.size 1 A zs.length (zs.map iv)) (hB : Rd w w.heap.size 1 B l.length (l.map uv)) (hn : zs.length ≤ 1000) (hm : l.length ≤ 1000) (h64 : ∀ n ∈ l, n < 18446744073709551616) (hl : (L ++ J).length ≤ 4096) :
    Calls Tryd.prog 16 #[.string ⟨L.toArray⟩, .slice A zs.length c, .slice B l.length d] w fun e w' => e = .returned (.string ⟨(sealL (L ++ J) 64).1.toArray⟩) ∧ Kept [] w w' := by
  have hj := ref_Join w A B c d zs l hA hB hn hm h64
  rw [hJ.out] at hj
  have HJ := Lib.hid hj
  have happ := app_arr L J
  have HL := Lib.hid hl
  have hlL : L.length ≤ 4096 := by rw [List.length_append] at hl; omega
  have hlJ : J.length ≤ 4096 := by rw [List.length_append] at hl; omega
  clear hj hA hB h64 hl
  go_enter Tryd.func16, Tryd.ntmps16
  go_wp2_with fail
  refine HJ.out.mono ?_
  rintro e w1 ⟨rfl, k1⟩
  clear HJ
  go_wp2_with fail
  refine (ref_Seal (L ++ J) 64 w1 HL.out).mono ?_
  rintro e w2 ⟨rfl, k2⟩
  go_wp2_with fail
  go_ret
  exact ⟨rfl, k1.trans k2⟩
end Go.Proofs.YtkcapkineifhkaaDoor
