/- Tables: the law TableBack. -/
import Derived.Test.YtfidgmpeiabhiaaTb5
namespace Go.Proofs.Ytfidgmpeiabhiaa
open Go.RowKit Go.Maps

set_option maxRecDepth 8000 in
set_option maxHeartbeats 8000000 in
theorem back_main (W : World) (places : Int) (hp : wf64 places) (A B : Option Addr) (c d : Nat) (l more : List Ac) (hA : RdA W A l) (hB : RdA W B more)
    (ho : ∀ x ∈ l, wf64 x.org) (ho2 : ∀ x ∈ more, wf64 x.org) (h3 : l.length ≤ 100) (h4 : more.length ≤ 100) (hb : ¬ 100 < places ∨ (100 < places ∧ ¬ places ≤ 1048576)) :
    Calls Try.prog 5 #[.int .i64 places, .slice A l.length c, .slice B more.length d] W (TrueK W) := by
  have HA := hA.at_
  have HB := hB.at_
  have HO := Lib.hid ho
  have HO2 := Lib.hid ho2
  have HN := Lib.hid (tb_New W places hp)
  have h3i : ¬ 100 < (l.length : Int) := by omega
  have h4i : ¬ 100 < (more.length : Int) := by omega
  clear hA hB ho ho2 hp
  rcases hb with hb | ⟨hb, hb2⟩
  all_goals (
    go_enter Try.func5, Try.ntmps5
    go_wp2_with fail
    refine HN.out.mono ?_
    rintro e w1 ⟨t, rfl, hT1, k1⟩
    unfold tbV
    have HT1 := Lib.hid hT1
    have K1 := Lib.hid k1
    have HIt := Lib.hid hT1.in_
    clear hT1 k1
    go_wp2_with fail
    refine (rf_New w1 places).mono ?_
    rintro e w2 ⟨A2, c2, rfl, hD2, k2⟩
    have HX := Lib.hid (apart_of HT1.out hD2)
    have hfl := fresh_length (newN places)
    have hnle := newN_le places
    obtain ⟨n, hn⟩ : ∃ n, newN places = n := ⟨_, rfl⟩
    rw [hn] at hD2 hfl HT1 hnle ⊢
    rw [hfl] at hD2
    have HD2 := Lib.hid hD2
    have HT2 := Lib.hid (HT1.out.kept0 k2)
    have K2 := Lib.hid (K1.out.trans k2)
    have hz := Lib.hid K1.out.size
    obtain ⟨p0, hp0⟩ : ∃ p0, p0 = freshP n := ⟨_, rfl⟩
    rw [← hp0] at HD2 HT2 hfl
    replace hfl := Lib.hid hfl
    have hz12 := Lib.hid k2.size
    clear hD2 k2 hn hp0 HN
    go_wp2_with fail
    go_loopw [9] (fun i V => ∃ (k : Nat) (p : List Int), k ≤ l.length ∧ i = .int .i64 k ∧ Hid (p.length = n) ∧ Hid (TbAt W.heap.size V t p) ∧ Hid (DtAt w1.heap.size V (.slice A2 n c2) p) ∧ Hid (Kept [] W V) ∧ Hid (w1.heap.size ≤ V.heap.size)) (fun i _ => l.length - (intOf i).toNat)
    case atStart => exact ⟨0, p0, Nat.zero_le _, rfl, hfl, HT2, HD2, K2, hz12⟩
    case round =>
      obtain ⟨k, p, hkl, rfl, hpl, HT, HD, HKK, hz1r⟩ := hrel
      by_cases hlt : k < l.length
      · obtain ⟨b, o, rfl, d0, d1⟩ := HA.out k hlt
        have c0 := HKK.out.cell d0 (fun h => by cases h)
        have c1 := HKK.out.cell d1 (fun h => by cases h)
        have hbo := HO.out l[k] (List.getElem_mem _)
        obtain ⟨a, ha⟩ : ∃ a, l[k] = a := ⟨_, rfl⟩
        rw [ha] at c0 c1 hbo
        obtain ⟨ad, ao⟩ := a
        dsimp only at c0 c1 hbo
        replace hbo := Lib.hid hbo
        have hki : (k : Int) < (l.length : Int) := by omega
        clear d0 d1 ha
        go_wp2_with fail
        refine (law_act wr _ _ t A2 n c2 p ad ao hbo.out hpl.out HT.out HD.out HX.out).mono ?_
        rintro e w3 ⟨rfl, hT3, hD3, k3⟩
        have HT3 := Lib.hid hT3
        have HD3 := Lib.hid hD3
        have K3 := Lib.hid (act_kept HT.out HD.out (Nat.le_refl _) hz.out HKK.out k3)
        have hpl3 : Hid ((actP ad ao p).length = n) := by rw [Hid, actP_len]; exact hpl.out
        have hz3 := Lib.hid (Nat.le_trans hz1r.out k3.size)
        clear hT3 hD3 k3 c0 c1
        go_wp2_with fail
        go_roundw
        case rel => exact ⟨k + 1, _, by omega, by go_num, hpl3, HT3, HD3, K3, hz3⟩
        case measure => simp [intOf]; omega
      · obtain rfl : k = l.length := by omega
        have HId := Lib.hid HD.out.in_
        have HOk := Lib.hid HT.out.ok
        go_wp2_with fail
        refine (law_pages' wr _ _ t A2 n c2 p hpl.out HT.out HD.out).mono ?_
        rintro e w3 ⟨A5, c5, rfl, hD5, k3⟩
        have HD5 := Lib.hid hD5
        have K3 := Lib.hid k3
        clear hD5 k3
        go_wp2_with fail
        refine (load_back w3 _ A5 n c5 p HOk.out hpl.out hnle HD5.out).mono ?_
        rintro e w4 ⟨t2, rfl, hT4, k4⟩
        have HB4 := Lib.hid hT4
        have K4 := Lib.hid (K3.out.trans k4)
        have hz3 := Lib.hid K3.out.size
        have HI2 := Lib.hid hT4.in_
        have HTc := Lib.hid (HT.out.kept0 K4.out)
        unfold tbV
        clear hT4 k4
        go_wp2_with fail
        refine (tb_Clone w4 _ t p HTc.out).mono ?_
        rintro e w5 ⟨t3, rfl, hT5, k5⟩
        have HO5 := Lib.hid hT5
        have HI3 := Lib.hid hT5.in_
        have K5 := Lib.hid (K4.out.trans k5)
        have hz4 : Hid (wr.heap.size ≤ w4.heap.size) := K4.out.size
        have HB5 := Lib.hid (HB4.out.kept0 k5)
        have HD5c : Hid (DtAt w1.heap.size w5 (.slice A2 n c2) p) := (K4.out.trans k5).owns HD.out (fun _ _ h => by cases h)
        unfold tbV
        clear hT5 k5
        go_wp2_with fail
        refine (rf_Copy' w5 _ A2 n c2 p hpl.out hnle HD5c.out).mono ?_
        rintro e w6 ⟨A6, c6, rfl, hD6, k6⟩
        have HD6 := Lib.hid hD6
        have HI6 := Lib.hid hD6.in_
        have K6 := Lib.hid (K5.out.trans k6)
        have hz5 : Hid (w4.heap.size ≤ w5.heap.size) := by
          have := HI3.out.1
          rw [Hid]
          omega
        have HO6 := Lib.hid (HO5.out.kept0 k6)
        have HB6 := Lib.hid (HB5.out.kept0 k6)
        have HT6 := Lib.hid (HT.out.kept0 K6.out)
        have HM6 : Hid (DtAt w1.heap.size w6 (.slice A2 n c2) p) := K6.out.owns HD.out (fun _ _ h => by cases h)
        have HX6 := Lib.hid (apart_in HI2.out HI6.out hz5.out)
        have KW6 := Lib.hid (HKK.out.trans K6.out)
        have HNb : Hid (∀ x ∈ actB t2 A6, W.heap.size ≤ x) := fun x hx => by
          have h1 := act_mem HI2.out HI6.out hx
          have h2 := hz3.out
          have h3 := hz4.out
          have h4 := hz5.out
          have h5 := HKK.out.size
          omega
        have HN1 : Hid (∀ x ∈ actB t2 A6, w1.heap.size ≤ x) := fun x hx => by
          have h1 := act_mem HI2.out HI6.out hx
          have h2 := hz3.out
          have h3 := hz4.out
          have h4 := hz5.out
          have h5 := hz1r.out
          omega
        clear hD6 k6
        go_wp2_with fail
        go_loopw [16] (fun i V => ∃ (k : Nat) (p' : List Int), k ≤ more.length ∧ i = .int .i64 k ∧ Hid (p'.length = n) ∧ Hid (TbAt w3.heap.size V t2 p') ∧ Hid (DtAt w5.heap.size V (.slice A6 n c6) p') ∧ Hid (Kept (actB t2 A6) w6 V)) (fun i _ => more.length - (intOf i).toNat)
        case atStart => exact ⟨0, p, Nat.zero_le _, rfl, hpl, HB6, HD6, Kept.refl _ _⟩
        case round =>
          obtain ⟨k, p', hkl, rfl, hpl2, HBk, HDk, HKk⟩ := hrel
          by_cases hlt : k < more.length
          · obtain ⟨b, o, rfl, d0, d1⟩ := HB.out k hlt
            have hbW := block_lt_of_cell d0
            have hbn : b ∉ actB t2 A6 := fun h => by
              have := HNb.out b h
              have h2 : b < W.heap.size := hbW
              omega
            have c0 := HKk.out.cell (KW6.out.cell d0 (fun h => by cases h)) hbn
            have c1 := HKk.out.cell (KW6.out.cell d1 (fun h => by cases h)) hbn
            have hbo := HO2.out more[k] (List.getElem_mem _)
            obtain ⟨a, ha⟩ : ∃ a, more[k] = a := ⟨_, rfl⟩
            rw [ha] at c0 c1 hbo
            obtain ⟨ad, ao⟩ := a
            dsimp only at c0 c1 hbo
            replace hbo := Lib.hid hbo
            have hki : (k : Int) < (more.length : Int) := by omega
            clear d0 d1 ha hbW hbn
            go_wp2_with fail
            refine (law_act wr _ _ t2 A6 n c6 p' ad ao hbo.out hpl2.out HBk.out HDk.out HX6.out).mono ?_
            rintro e w7 ⟨rfl, hT7, hD7, k7⟩
            have HT7 := Lib.hid hT7
            have HD7 := Lib.hid hD7
            have K7 := Lib.hid (HKk.out.trans k7)
            have hpl7 : Hid ((actP ad ao p').length = n) := by rw [Hid, actP_len]; exact hpl2.out
            clear hT7 hD7 k7 c0 c1
            go_wp2_with fail
            go_roundw
            case rel => exact ⟨k + 1, _, by omega, by go_num, hpl7, HT7, HD7, K7⟩
            case measure => simp [intOf]; omega
          · obtain rfl : k = more.length := by omega
            have HT8 := Lib.hid (HT6.out.far HKk.out HIt.out (fun x hx => .inr (by have := HN1.out x hx; omega)))
            have HM8 := Lib.hid (HM6.out.far HKk.out HId.out (fun x hx => .inr (by have := act_mem HI2.out HI6.out hx; have := hz3.out; have := hz4.out; have := hz5.out; omega)))
            have HO8 := Lib.hid (HO6.out.far HKk.out HI3.out (fun x hx => by have := act_mem HI2.out HI6.out hx; omega))
            have KW8 := Lib.hid (KW6.out.trans' HKk.out (fun z hz => .inr (HNb.out z hz)))
            have b3 : (-9223372036854775808 : Int) ≤ 3 ∧ (3 : Int) ≤ 9223372036854775807 := by decide
            have B3 := Lib.hid b3
            clear HKk HT6 HM6 HO6 b3
            go_wp2_with fail
            refine (law_same wr _ _ t2 A6 n c6 _ 3 B3.out hpl2.out HBk.out HDk.out).mono ?_
            rintro e w9 ⟨rfl, k9⟩
            have HT9 := Lib.hid (HT8.out.kept0 k9)
            have HM9 : Hid (DtAt w1.heap.size w9 (.slice A2 n c2) p) := k9.owns HM8.out (fun _ _ h => by cases h)
            have HO9 := Lib.hid (HO8.out.kept0 k9)
            have KW9 := Lib.hid (KW8.out.trans k9)
            clear k9 HT8 HM8 HO8 HBk HDk
            go_wp2_with fail
            refine (law_same w9 _ _ t3 A2 n c2 _ 3 B3.out hpl.out HO9.out HM9.out).mono ?_
            rintro e w10 ⟨rfl, k10⟩
            have HT10 := Lib.hid (HT9.out.kept0 k10)
            have HM10 : Hid (DtAt w1.heap.size w10 (.slice A2 n c2) p) := k10.owns HM9.out (fun _ _ h => by cases h)
            have HO10 := Lib.hid (HO9.out.kept0 k10)
            have KW10 := Lib.hid (KW9.out.trans k10)
            clear k10 HT9 HM9 HO9
            go_wp2_with fail
            refine (law_same w10 _ _ t A2 n c2 _ 3 B3.out hpl.out HT10.out HM10.out).mono ?_
            rintro e w11 ⟨rfl, k11⟩
            have HT11 := Lib.hid (HT10.out.kept0 k11)
            have HM11 : Hid (DtAt w1.heap.size w11 (.slice A2 n c2) p) := k11.owns HM10.out (fun _ _ h => by cases h)
            have HO11 := Lib.hid (HO10.out.kept0 k11)
            have KW11 := Lib.hid (KW10.out.trans k11)
            clear k11 HT10 HM10 HO10
            go_wp2_with fail
            refine (tb_Put w11 _ t p 3 B3.out HT11.out).mono ?_
            rintro e w12 ⟨rfl, hT12, k12⟩
            have HM12 := Lib.hid (HM11.out.far k12 HId.out (fun x hx => .inl (HIt.out.mem hx).2))
            have HO12 := Lib.hid (HO11.out.far k12 HI3.out (fun x hx => .inl (by have := (HIt.out.mem hx).2; have := hz1r.out; have := hz4.out; omega)))
            have KW12 := Lib.hid (fresh_kept HT11.out (Nat.le_refl _) KW11.out k12)
            clear hT12 k12 HT11 HM11 HO11
            obtain ⟨r, hr⟩ : ∃ r, putI 3 p = r := ⟨_, rfl⟩
            rw [hr]
            clear hr
            go_wp2_with fail
            refine (nil_Find _ 1).mono ?_
            rintro e w13 ⟨rfl, rfl⟩
            go_wp2_with fail
            refine (nil_Put _ 1).mono ?_
            rintro e w13 ⟨rfl, rfl⟩
            go_wp2_with fail
            refine (nil_Drop _ 1).mono ?_
            rintro e w13 ⟨rfl, rfl⟩
            go_wp2_with fail
            refine (nil_Page _ 0).mono ?_
            rintro e w13 ⟨rfl, rfl⟩
            go_wp2_with fail
            refine (law_alive _).mono ?_
            rintro e w13 ⟨rfl, k13⟩
            have HM13 : Hid (DtAt w1.heap.size w13 (.slice A2 n c2) p) := k13.owns HM12.out (fun _ _ h => by cases h)
            have HO13 := Lib.hid (HO12.out.kept0 k13)
            have KW13 := Lib.hid (KW12.out.trans k13)
            clear k13 HM12 HO12
            go_wp2_with fail
            refine (law_same w13 _ _ t3 A2 n c2 _ 3 B3.out hpl.out HO13.out HM13.out).mono ?_
            rintro e w14 ⟨rfl, k14⟩
            have KW14 := Lib.hid (KW13.out.trans k14)
            clear k14 HM13 HO13
            go_wp2_with fail
            refine (nil_Len _).mono ?_
            rintro e w15 ⟨rfl, rfl⟩
            go_wp2_with fail
            refine (nil_Left _).mono ?_
            rintro e w15 ⟨rfl, rfl⟩
            go_wp2_with fail
            refine (nil_All _).mono ?_
            rintro e w15 ⟨rfl, rfl⟩
            go_wp2_with fail
            refine (nil_Clone _).mono ?_
            rintro e w15 ⟨rfl, rfl⟩
            go_wp2_with fail
            go_ret
            exact ⟨rfl, KW14.out⟩)
end Go.Proofs.Ytfidgmpeiabhiaa
