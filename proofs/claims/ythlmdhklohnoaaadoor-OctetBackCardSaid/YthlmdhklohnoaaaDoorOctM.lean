/- The document's octet: numbers' bytes; the law OctetPuts: its walk. -/
import Derived.Test.YthlmdhklohnoaaaDoorOctK
import Derived.Test.YthlmdhklohnoaaaDoorOctL
namespace Go.Proofs.YthlmdhklohnoaaaDoor
open Go.RowKit

theorem hold_two {w W W' : World} {a b : Addr} {u v : Value} (h : Hid (Kept [] w W) ∧ W.cell? a = some u ∧ W.cell? b = some v) (k : Kept [] W W') : Hid (Kept [] w W') ∧ W'.cell? a = some u ∧ W'.cell? b = some v :=
  ⟨Lib.hid (h.1.out.trans k), k.cell h.2.1 (fun h => by cases h), k.cell h.2.2 (fun h => by cases h)⟩

set_option maxRecDepth 4000 in
set_option maxHeartbeats 2000000 in
theorem ref_Join (w : World) (A B : Option Addr) (c d : Nat) (zs : List Int) (l : List Nat) (hA : Rd w w.heap.size 1 A zs.length (zs.map iv)) (hB : Rd w w.heap.size 1 B l.length (l.map uv)) (hn : zs.length ≤ 1000) (hm : l.length ≤ 1000) (h64 : ∀ n ∈ l, n < 18446744073709551616) :
    Calls Tryd.prog 12 #[.slice A zs.length c, .slice B l.length d] w fun e w' => e = .returned (.tuple #[.string ⟨(joinL zs l).1.toArray⟩, .int .i64 (joinL zs l).2]) ∧ Kept [] w w' := by
  have HS : Hid (∀ k, (hk : k < zs.length) → ∃ b o, A = some ⟨b, o, none⟩ ∧ w.cell? ⟨b, o + k, none⟩ = some (.int .i64 zs[k])) := fun k hk => by
    obtain ⟨b, o, e, hb, hc⟩ := hA.2 (by omega)
    exact ⟨b, o, e, hc k (iv zs[k]) (by simp [hk])⟩
  have HT : Hid (∀ k, (hk : k < l.length) → ∃ b o, B = some ⟨b, o, none⟩ ∧ w.cell? ⟨b, o + k, none⟩ = some (.int .u64 (l[k] : Int))) := fun k hk => by
    obtain ⟨b, o, e, hb, hc⟩ := hB.2 (by omega)
    exact ⟨b, o, e, hc k (uv l[k]) (by simp [hk])⟩
  have H64 := Lib.hid h64
  clear hA hB h64
  by_cases hlen : zs.length = l.length
  · have Hlen := Lib.hid hlen
    rw [hlen]
    clear hlen
    go_enter Tryd.func12, Tryd.ntmps12
    go_wp2_with fail
    go_loop [6] (fun i => ∃ k : Nat, k ≤ l.length ∧ i = .int .i64 k ∧ Hid (∀ j, (hj : j < zs.length) → j < k → sizeB zs[j] = true)) (fun i => l.length - (intOf i).toNat)
    case atStart => exact ⟨0, Nat.zero_le _, rfl, fun j _ hj => absurd hj (Nat.not_lt_zero _)⟩
    case round =>
      obtain ⟨k, hk, rfl, HJ⟩ := hrel
      by_cases hlt : k < l.length
      · have hlt2 : k < zs.length := by rw [Hlen.out]; exact hlt
        obtain ⟨b, o, rfl, hc⟩ := HS.out k hlt2
        have HB : Hid (sizeB zs[k] = false → joinL zs l = ([], 1)) := fun hb => by
          have : badB zs = true := by
            rw [badB, List.any_eq_true]
            exact ⟨zs[k], List.getElem_mem hlt2, by rw [hb]; rfl⟩
          rw [joinL, if_pos (.inr this)]
        have HT2 : Hid (sizeB zs[k] = true → ∀ j, (hj : j < zs.length) → j < k + 1 → sizeB zs[j] = true) := fun hb j hj hjk => by
          rcases Nat.lt_or_ge j k with h1 | h1
          · exact HJ.out j hj h1
          · obtain rfl : j = k := by omega
            exact hb
        generalize zs[k] = z at *
        by_cases h0 : z < 0
        · have HL := Lib.hid (HB.out (by simp [sizeB]; omega))
          go_wp2_with fail
          go_ret2
          rw [HL.out]
          exact ⟨rfl, Kept.refl _ _⟩
        · by_cases h8 : 8 < z
          · have HL := Lib.hid (HB.out (by simp [sizeB]; omega))
            go_wp2_with fail
            go_ret2
            rw [HL.out]
            exact ⟨rfl, Kept.refl _ _⟩
          · have HT3 := Lib.hid (HT2.out (by simp [sizeB]; omega))
            go_wp2_with fail
            go_round
            case rel => exact ⟨k + 1, by omega, by go_num, HT3.out⟩
            case measure => simp [intOf]; omega
      · obtain rfl : k = l.length := by omega
        have hbad : badB zs = false := by
          rw [badB, List.any_eq_false]
          intro z hz
          obtain ⟨j, hj, rfl⟩ := List.getElem_of_mem hz
          rw [HJ.out j hj (by rw [← Hlen.out]; exact hj)]; simp
        have Hbad := Lib.hid hbad
        clear hbad
        go_wp2_with fail
        go_loopw [7, 8] (fun sv i W => ∃ k : Nat, k ≤ l.length ∧ i = .int .i64 k ∧ sv = .string ⟨(catL zs l k).toArray⟩ ∧ Hid (Kept [] w W) ∧ Hid (∀ j, j < k → (putAt zs l j).2 = 0)) (fun _ i _ => l.length - (intOf i).toNat)
        case atStart => exact ⟨0, Nat.zero_le _, rfl, rfl, Kept.refl _ _, fun j hj => absurd hj (Nat.not_lt_zero _)⟩
        case round =>
          obtain ⟨k, hk, rfl, rfl, HK, HJ2⟩ := hrel
          by_cases hlt : k < l.length
          · have hlt2 : k < zs.length := by rw [Hlen.out]; exact hlt
            obtain ⟨b, o, rfl, hc⟩ := HS.out k hlt2
            obtain ⟨b', o', rfl, hc'⟩ := HT.out k hlt
            have hc1 := HK.out.cell hc (fun h => by cases h)
            have hc2 := HK.out.cell hc' (fun h => by cases h)
            have HP := Lib.hid (putAt_eq zs l k hlt2 hlt)
            have hl64 := H64.out _ (List.getElem_mem hlt)
            have hz := good_of zs Hbad.out _ (List.getElem_mem hlt2)
            have Herr := Lib.hid (putL_err l[k] zs[k] hz)
            have Hno := Lib.hid (join_no zs l k Hlen.out Hbad.out hlt)
            have HC := Lib.hid (catL_succ zs l k)
            have hcl := catL_len zs l k
            have hpl := putL_len l[k] zs[k]
            rw [HP.out] at Hno HC
            clear hc hc' hz
            generalize l[k] = n at *
            generalize zs[k] = z at *
            have HK2 := HK
            have hput := fun W => ref_Put n z W hl64
            have HJ3 : Hid ((putL n z).2 = 0 → ∀ j, j < k + 1 → (putAt zs l j).2 = 0) := fun h0 j hj => by
              rcases Nat.lt_or_ge j k with h1 | h1
              · exact HJ2.out j h1
              · obtain rfl : j = k := by omega
                rw [HP.out]; exact h0
            generalize (putL n z).1 = p at *
            generalize (putL n z).2 = q at *
            generalize catL zs l k = C at *
            have happ := app_arr2 C p
            go_wp2_with fail
            go_region_held3 (fun W => Hid (Kept [] w W) ∧ W.cell? ⟨b, o + k, none⟩ = some (.int .i64 z) ∧ W.cell? ⟨b', o' + k, none⟩ = some (.int .u64 (n : Int))) (first | exact hold_two ⟨Lib.hid HK2.out, hc1, hc2⟩ (Kept.refl [] _).drew | exact hold_two (by assumption) k1 | assumption) (first | (go_at_call 14; refine (hput _).mono ?_; rintro e w1 ⟨rfl, k1⟩))
            rename_i hheld
            have HK3 := hheld.1
            clear hheld
            by_cases h0 : q = 0
            · subst h0
              have HJ4 := Lib.hid (HJ3.out rfl)
              clear HJ3 Herr Hno
              go_wp2_with fail
              go_roundw
              case rel =>
                refine ⟨k + 1, by omega, by go_num, ?_, HK3, HJ4.out⟩
                rw [HC.out]
              case measure => simp [intOf]; omega
            · have he := Herr.out h0
              have Hj : Hid (joinL zs l = ([], 2)) := Hno.out h0
              subst he
              clear h0
              go_wp2_with fail
              go_ret2
              rw [Hj.out]
              exact ⟨rfl, HK3.out⟩
          · obtain rfl : k = l.length := by omega
            have Hy := Lib.hid (join_yes zs l Hlen.out Hbad.out HJ2.out)
            go_wp2_with fail
            go_ret2
            rw [Hy.out]
            exact ⟨rfl, HK.out⟩
  · have H : Hid (joinL zs l = ([], 1)) := by rw [Hid, joinL, if_pos (.inl hlen)]
    have hne : ¬ ((zs.length : Int) = (l.length : Int)) := by omega
    go_enter Tryd.func12, Tryd.ntmps12
    go_wp2_with fail
    go_ret2
    rw [H.out]
    exact ⟨rfl, Kept.refl _ _⟩

set_option maxRecDepth 4000 in
set_option maxHeartbeats 2000000 in
theorem puts_run (w : World) (n : Nat) (A B : Option Addr) (c d : Nat) (zs : List Int) (l : List Nat) (hA : Rd w w.heap.size 1 A zs.length (zs.map iv)) (hB : Rd w w.heap.size 1 B l.length (l.map uv)) (hn : n < 18446744073709551616) (h64 : ∀ n ∈ l, n < 18446744073709551616) :
    Calls Tryd.prog 4 #[.int .u64 (n : Int), .slice A zs.length c, .slice B l.length d] w fun e w' => e = .returned (.bool true) ∧ Kept [] w w' := by
  by_cases h1 : 40 < zs.length
  · go_enter Tryd.func4, Tryd.ntmps4
    go_wp2_with (go_at_call 7; refine (oct_alive _).mono ?_; rintro e w2 ⟨rfl, k2⟩)
    go_ret
    exact ⟨rfl, k2⟩
  · by_cases h2 : 40 < l.length
    · go_enter Tryd.func4, Tryd.ntmps4
      go_wp2_with (go_at_call 7; refine (oct_alive _).mono ?_; rintro e w2 ⟨rfl, k2⟩)
      go_ret
      exact ⟨rfl, k2⟩
    · have g1 : ((40 : Int) < (zs.length : Int)) = False := by simp; omega
      have g2 : ((40 : Int) < (l.length : Int)) = False := by simp; omega
      have HA := Lib.hid hA
      have HB := Lib.hid hB
      have H64 := Lib.hid h64
      have HS : Hid (∀ k, (hk : k < zs.length) → ∃ b o, A = some ⟨b, o, none⟩ ∧ w.cell? ⟨b, o + k, none⟩ = some (.int .i64 zs[k])) := fun k hk => by
        obtain ⟨b, o, e, hb, hc⟩ := hA.2 (by omega)
        exact ⟨b, o, e, hc k (iv zs[k]) (by simp [hk])⟩
      clear hA hB h64
      go_enter Tryd.func4, Tryd.ntmps4
      go_wp2_with fail
      refine (oct_Join w A B c d zs l HA.out HB.out (by omega) (by omega) H64.out).mono ?_
      rintro e w1 ⟨rfl, k1⟩
      go_wp2_with fail
      refine (ref_Join w1 A B c d zs l (rd_grow HA.out k1) (rd_grow HB.out k1) (by omega) (by omega) H64.out).mono ?_
      rintro e w2 ⟨rfl, k2⟩
      generalize (joinL zs l).1 = p at *
      generalize (joinL zs l).2 = q at *
      have HK0 := Lib.hid (k1.trans k2)
      go_wp2_with fail
      go_loopw [11, 12] (fun sv i W => ∃ k : Nat, k ≤ zs.length ∧ i = .int .i64 k ∧ sv = .bool true ∧ Hid (Kept [] w W)) (fun _ i _ => zs.length - (intOf i).toNat)
      case atStart => exact ⟨0, Nat.zero_le _, rfl, rfl, HK0.out⟩
      case round =>
        obtain ⟨k, hk, rfl, rfl, HK⟩ := hrel
        by_cases hlt : k < zs.length
        · obtain ⟨b, o, rfl, hc⟩ := HS.out k hlt
          have hc1 := HK.out.cell hc (fun h => by cases h)
          generalize zs[k] = z at *
          go_wp2_with fail
          refine (oct_Put n z wr hn).mono ?_
          rintro e w3 ⟨rfl, k3⟩
          have hc2 := k3.cell hc1 (fun h => by cases h)
          go_wp2_with fail
          refine (ref_Put n z w3 hn).mono ?_
          rintro e w4 ⟨rfl, k4⟩
          generalize (putL n z).1 = p2 at *
          generalize (putL n z).2 = q2 at *
          go_wp2_with fail
          go_roundw
          case rel => exact ⟨k + 1, by omega, by go_num, rfl, (HK.out.trans k3).trans k4⟩
          case measure => simp [intOf]; omega
        · obtain rfl : k = zs.length := by omega
          go_wp2_with fail
          refine (oct_alive wr).mono ?_
          rintro e w3 ⟨rfl, k3⟩
          go_wp2_with fail
          go_ret
          exact ⟨rfl, HK.out.trans k3⟩
end Go.Proofs.YthlmdhklohnoaaaDoor
