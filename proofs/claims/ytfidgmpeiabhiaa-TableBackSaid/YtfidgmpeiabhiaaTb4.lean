/- Tables: the law TableLoads. -/
import Derived.Test.YtfidgmpeiabhiaaTb3
namespace Go.Proofs.Ytfidgmpeiabhiaa
open Go.RowKit Go.Maps

theorem rf_Load (W : World) (n : Int) (A : Option Addr) (c : Nat) (l : List Int) (hA : RdI W A l) (hc : l.length ≤ c) (hA0 : A = none → c = 0) :
    Calls Try.prog 12 #[.int .i64 n, .slice A l.length c] W (RLoadPost n l W) := by
  by_cases h0 : n < 0
  · have HZ : Hid (¬ sizeL n l) := fun h => by have := h.1; omega
    clear hA hA0
    go_enter Try.func12, Try.ntmps12
    go_wp2_with fail
    refine bodyPost_ret (results_tmp2 rfl _ _ _) rfl ?_
    exact ⟨Kept.refl _ _, .inl ⟨HZ.out, rfl⟩⟩
  · obtain ⟨n, rfl⟩ : ∃ m : Nat, n = (m : Int) := ⟨n.toNat, by omega⟩
    by_cases h1 : 1048576 < (n : Int)
    · have HZ : Hid (¬ sizeL n l) := fun h => by have := h.2.1; omega
      clear hA hA0
      go_enter Try.func12, Try.ntmps12
      go_wp2_with fail
      refine bodyPost_ret (results_tmp2 rfl _ _ _) rfl ?_
      exact ⟨Kept.refl _ _, .inl ⟨HZ.out, rfl⟩⟩
    · by_cases h2 : (l.length : Int) = ((n : Int) + 12) / 13 * 13
      · exact rf_Load_ok W n (by omega) A c l hA hc hA0 (by omega)
      · have HZ : Hid (¬ sizeL n l) := fun h => by have := h.2.2; rw [Int.toNat_natCast] at this; omega
        have hwr : IntKind.i64.wrap (((n : Int) + 12) / 13 * 13) = ((n : Int) + 12) / 13 * 13 := IntWalk.i64_in _ (by omega)
        clear hA hA0
        go_enter Try.func12, Try.ntmps12
        go_wp2_with fail
        refine bodyPost_ret (results_tmp2 rfl _ _ _) rfl ?_
        exact ⟨Kept.refl _ _, .inl ⟨HZ.out, rfl⟩⟩
theorem RdI.kept {w w' : World} {A : Option Addr} {l : List Int} (h : RdI w A l) (k : Kept [] w w') : RdI w' A l :=
  (Rd.kept h k (Nat.le_refl _) (fun _ h => by cases h)).more k.size
set_option maxRecDepth 4000 in
set_option maxHeartbeats 2000000 in
theorem loads_main (W : World) (places look : Int) (hk : wf64 look) (A : Option Addr) (c : Nat) (l : List Int) (hA : IntsRd W A l c) (h3 : l.length ≤ 120) (hb : ¬ 100 < places ∨ (100 < places ∧ ¬ places ≤ 1048576)) :
    Calls Try.prog 4 #[.int .i64 places, .slice A l.length c, .int .i64 look] W (TrueK W) := by
  obtain ⟨hA1, hA2, hA3, hA4, hA5⟩ := hA
  have HL := Lib.hid (tb_Load W places A c l hA1 hA3 hA4)
  have HR : Hid (∀ V, Kept [] W V → Calls Try.prog 12 #[.int .i64 places, .slice A l.length c] V (RLoadPost places l V)) := fun V k => rf_Load V places A c l (hA1.kept k) hA2 hA5
  have HK := Lib.hid hk
  have h3i : ¬ 120 < (l.length : Int) := by omega
  clear hA1 hA2 hA3 hA4 hA5 hk
  rcases hb with hb | ⟨hb, hb2⟩
  all_goals (
    go_enter Try.func4, Try.ntmps4
    go_wp2_with fail
    refine HL.out.mono ?_
    rintro e w1 ⟨k1, ⟨hs1, rfl⟩ | ⟨hs1, hg1, rfl⟩ | ⟨hs1, hg1, t, rfl, hT1⟩⟩
    · go_wp2_with fail
      refine (HR.out w1 k1).mono ?_
      have K1 := Lib.hid k1
      clear k1
      rintro e w2 ⟨k2, ⟨hs2, rfl⟩ | ⟨hs2, hg2, rfl⟩ | ⟨hs2, hg2, A2, c2, rfl, hD2⟩⟩
      · have K2 := Lib.hid (K1.out.trans k2)
        clear k2 hs1 hs2
        go_wp2_with fail
        refine (law_alive w2).mono ?_
        rintro e w3 ⟨rfl, k3⟩
        go_wp2_with fail
        go_ret
        exact ⟨rfl, K2.out.trans k3⟩
      · exact absurd hs2 hs1
      · exact absurd hs2 hs1
    · go_wp2_with fail
      refine (HR.out w1 k1).mono ?_
      have K1 := Lib.hid k1
      clear k1
      rintro e w2 ⟨k2, ⟨hs2, rfl⟩ | ⟨hs2, hg2, rfl⟩ | ⟨hs2, hg2, A2, c2, rfl, hD2⟩⟩
      · exact absurd hs1 hs2
      · have K2 := Lib.hid (K1.out.trans k2)
        clear k2 hs1 hs2 hg1 hg2
        go_wp2_with fail
        refine (law_alive w2).mono ?_
        rintro e w3 ⟨rfl, k3⟩
        go_wp2_with fail
        go_ret
        exact ⟨rfl, K2.out.trans k3⟩
      · exact absurd hg2 hg1
    · unfold tbV
      have HT1 := Lib.hid hT1
      clear hT1
      go_wp2_with fail
      refine (HR.out w1 k1).mono ?_
      have K1 := Lib.hid k1
      clear k1
      rintro e w2 ⟨k2, ⟨hs2, rfl⟩ | ⟨hs2, hg2, rfl⟩ | ⟨hs2, hg2, A2, c2, rfl, hD2⟩⟩
      · exact absurd hs1 hs2
      · exact absurd hg1 hg2
      · have hlen : Hid ((l.take places.toNat).length = places.toNat) := by
          rw [Hid, List.length_take]
          have := hs1.2.2
          omega
        have K2 := Lib.hid (K1.out.trans k2)
        have HT2 := Lib.hid (HT1.out.kept0 k2)
        have HD2 := Lib.hid hD2
        clear k2 hs1 hs2 hg1 hg2 hD2
        go_wp2_with fail
        refine (law_alive w2).mono ?_
        rintro e w3 ⟨rfl, k3⟩
        have K3 := Lib.hid (K2.out.trans k3)
        have HT3 := Lib.hid (HT2.out.kept0 k3)
        have HD3 : Hid (DtAt w1.heap.size w3 (.slice A2 places.toNat c2) (l.take places.toNat)) := k3.owns HD2.out (fun _ _ h => by cases h)
        clear k3
        go_wp2_with fail
        refine (law_same w3 _ _ t A2 places.toNat c2 _ look HK.out hlen.out HT3.out HD3.out).mono ?_
        rintro e w4 ⟨rfl, k4⟩
        go_wp2_with fail
        go_ret
        exact ⟨rfl, K3.out.trans k4⟩)
theorem table_loads (W : World) (places look : Int) (hk : wf64 look) (A : Option Addr) (c : Nat) (l : List Int) (hA : IntsRd W A l c) :
    Calls Try.prog 4 #[.int .i64 places, .slice A l.length c, .int .i64 look] W (TrueK W) := by
  have hm := hA.2.2.1
  unfold maxLen at hm
  by_cases h1 : 100 < places
  · by_cases h2 : places ≤ 1048576
    · clear hA
      go_enter Try.func4, Try.ntmps4
      go_wp2_with fail
      refine (law_alive _).mono ?_
      rintro e w1 ⟨rfl, k1⟩
      go_wp2_with fail
      go_ret
      exact ⟨rfl, k1⟩
    · by_cases h3 : l.length ≤ 120
      · exact loads_main W places look hk A c l hA h3 (.inr ⟨h1, h2⟩)
      · have h3i : 120 < (l.length : Int) := by omega
        clear hA
        go_enter Try.func4, Try.ntmps4
        go_wp2_with fail
        refine (law_alive _).mono ?_
        rintro e w1 ⟨rfl, k1⟩
        go_wp2_with fail
        go_ret
        exact ⟨rfl, k1⟩
  · by_cases h3 : l.length ≤ 120
    · exact loads_main W places look hk A c l hA h3 (.inl h1)
    · have h3i : 120 < (l.length : Int) := by omega
      clear hA
      go_enter Try.func4, Try.ntmps4
      go_wp2_with fail
      refine (law_alive _).mono ?_
      rintro e w1 ⟨rfl, k1⟩
      go_wp2_with fail
      go_ret
      exact ⟨rfl, k1⟩
end Go.Proofs.Ytfidgmpeiabhiaa
