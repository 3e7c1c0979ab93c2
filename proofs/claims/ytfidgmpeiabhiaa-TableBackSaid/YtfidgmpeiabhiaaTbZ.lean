/- Tables: the law TablePlays. -/
import Derived.Test.YtfidgmpeiabhiaaTbY
namespace Go.Proofs.Ytfidgmpeiabhiaa
open Go.RowKit Go.Maps

structure Ac where
  drop : Bool
  org : Int
def acE (a : Ac) : List Value := [.bool a.drop, .int .i64 a.org]
theorem acE_len (a : Ac) : (acE a).length = 2 := rfl
def RdA (w : World) (A : Option Addr) (l : List Ac) : Prop := Rd w w.heap.size 2 A l.length (l.flatMap acE)
theorem RdA.at_ {w : World} {A : Option Addr} {l : List Ac} (h : RdA w A l) : Hid (∀ k, (hk : k < l.length) → ∃ b o, A = some ⟨b, o, none⟩ ∧ w.cell? ⟨b, o + k * 2, none⟩ = some (.bool l[k].drop) ∧ w.cell? ⟨b, o + k * 2 + 1, none⟩ = some (.int .i64 l[k].org)) := fun k hk => by
  obtain ⟨b, o, e, hb, hc⟩ := h.2 (by omega)
  refine ⟨b, o, e, ?_, ?_⟩
  · have := hc (k * 2 + 0) (.bool l[k].drop) (by rw [flatMap_at 2 acE acE_len l k 0 hk (by omega)]; rfl)
    simpa using this
  · have := hc (k * 2 + 1) (.int .i64 l[k].org) (by rw [flatMap_at 2 acE acE_len l k 1 hk (by omega)]; rfl)
    rw [Nat.add_assoc]
    exact this
theorem fresh_length (n : Nat) : (freshP n).length = n := by simp [freshP]
theorem apart_of {n₀ : Nat} {W w2 : World} {t : Tb} {p p2 : List Int} {A : Option Addr} {c : Nat} (h : TbAt n₀ W t p) (hd : DtAt W.heap.size w2 (.slice A p2.length c) p2) : Apart t A := fun b hb => by
  have h1 := (hd.lt b (by rw [own_slice_block]; exact hb)).1
  have h2 := h.tb.lt
  have h3 := h.mp.lt
  refine ⟨by omega, by omega, fun e => ?_⟩
  have := own_lt h.pl b e
  omega
theorem act_kept {n₀ n₁ : Nat} {W w1 w2 : World} {t : Tb} {A : Option Addr} {n c : Nat} {p : List Int} (h : TbAt n₀ w1 t p) (hd : DtAt n₁ w1 (.slice A n c) p) (hn : W.heap.size ≤ n₀) (hn1 : W.heap.size ≤ n₁) (K : Kept [] W w1) (k : Kept (actB t A) w1 w2) : Kept [] W w2 :=
  K.trans' k (fun z hz => .inr (by
    rcases List.mem_append.1 hz with hz | hz
    · rcases List.mem_cons.1 hz with e | hz
      · have := h.lo.2
        omega
      · have := (h.pl.lt z (Option.mem_toList.1 hz)).1
        omega
    · have := (hd.lt z (by rw [own_slice_block]; exact Option.mem_toList.1 hz)).1
      omega))
theorem newN_le (n : Int) : newN n ≤ 1048576 := by
  unfold newN
  split <;> omega
set_option maxRecDepth 4000 in
set_option maxHeartbeats 2000000 in
theorem plays_main (W : World) (places look : Int) (hp : -9223372036854775808 ≤ places ∧ places ≤ 9223372036854775807) (hk : -9223372036854775808 ≤ look ∧ look ≤ 9223372036854775807) (A : Option Addr) (c : Nat) (l : List Ac) (hA : RdA W A l)
    (ho : ∀ x ∈ l, -9223372036854775808 ≤ x.org ∧ x.org ≤ 9223372036854775807) (h3 : l.length ≤ 100) (hb : ¬ 100 < places ∨ (100 < places ∧ ¬ places ≤ 1048576)) :
    Calls Try.prog 3 #[.int .i64 places, .slice A l.length c, .int .i64 look] W (TrueK W) := by
  have HA := hA.at_
  have HO := Lib.hid ho
  have HN := Lib.hid (tb_New W places hp)
  have HP := Lib.hid hp
  have HK := Lib.hid hk
  have h3i : ¬ 100 < (l.length : Int) := by omega
  clear hA ho hp hk
  rcases hb with hb | ⟨hb, hb2⟩
  all_goals (
    go_enter Try.func3, Try.ntmps3
    go_wp2_with fail
    refine HN.out.mono ?_
    rintro e w1 ⟨t, rfl, hT1, k1⟩
    unfold tbV
    have HT1 := Lib.hid hT1
    have K1 := Lib.hid k1
    clear hT1 k1
    go_wp2_with fail
    refine (rf_New w1 places).mono ?_
    rintro e w2 ⟨A2, c2, rfl, hD2, k2⟩
    have HX := Lib.hid (apart_of HT1.out hD2)
    have hfl := fresh_length (newN places)
    obtain ⟨n, hn⟩ : ∃ n, newN places = n := ⟨_, rfl⟩
    rw [hn] at hD2 hfl HT1 ⊢
    rw [hfl] at hD2
    have HD2 := Lib.hid hD2
    have HT2 := Lib.hid (HT1.out.kept0 k2)
    have K2 := Lib.hid (K1.out.trans k2)
    have hz := Lib.hid K1.out.size
    obtain ⟨p0, hp0⟩ : ∃ p0, p0 = freshP n := ⟨_, rfl⟩
    rw [← hp0] at HD2 HT2 hfl
    replace hfl := Lib.hid hfl
    clear hD2 k2 hn hp0 HN
    go_wp2_with fail
    go_loopw [9] (fun i V => ∃ (k : Nat) (p : List Int), k ≤ l.length ∧ i = .int .i64 k ∧ Hid (p.length = n) ∧ Hid (TbAt W.heap.size V t p) ∧ Hid (DtAt w1.heap.size V (.slice A2 n c2) p) ∧ Hid (Kept [] W V)) (fun i _ => l.length - (intOf i).toNat)
    case atStart => exact ⟨0, p0, Nat.zero_le _, rfl, hfl, HT2, HD2, K2⟩
    case round =>
      obtain ⟨k, p, hkl, rfl, hpl, HT, HD, HKK⟩ := hrel
      by_cases hlt : k < l.length
      · obtain ⟨b, o, rfl, d0, d1⟩ := HA.out k hlt
        have c0 := HKK.out.cell d0 (fun h => by cases h)
        have c1 := HKK.out.cell d1 (fun h => by cases h)
        have hbo := HO.out l[k] (List.getElem_mem _)
        obtain ⟨a, ha⟩ : ∃ a, l[k] = a := ⟨_, rfl⟩
        rw [ha] at c0 c1 hbo
        obtain ⟨ad, ao⟩ := a
        dsimp only at c0 c1 hbo
        replace hbo := Lib.hid hbo
        have hki : (k : Int) < (l.length : Int) := by omega
        clear d0 d1 ha
        go_wp2_with fail
        refine (law_act wr _ _ t A2 n c2 p ad ao hbo.out hpl.out HT.out HD.out HX.out).mono ?_
        rintro e w3 ⟨rfl, hT3, hD3, k3⟩
        have HT3 := Lib.hid hT3
        have HD3 := Lib.hid hD3
        have K3 := Lib.hid (act_kept HT.out HD.out (Nat.le_refl _) hz.out HKK.out k3)
        have hpl3 : Hid ((actP ad ao p).length = n) := by rw [Hid, actP_len]; exact hpl.out
        clear hT3 hD3 k3 c0 c1
        go_wp2_with fail
        refine (law_same w3 _ _ t A2 n c2 _ look HK.out hpl3.out HT3.out HD3.out).mono ?_
        rintro e w4 ⟨rfl, k4⟩
        have HT4 := Lib.hid (HT3.out.kept0 k4)
        have HD4 : Hid (DtAt w1.heap.size w4 (.slice A2 n c2) (actP ad ao p)) := k4.owns HD3.out (fun _ _ h => by cases h)
        have K4 := Lib.hid (K3.out.trans k4)
        clear k4
        go_wp2_with fail
        go_roundw
        case rel => exact ⟨k + 1, _, by omega, by go_num, hpl3, HT4, HD4, K4⟩
        case measure => simp [intOf]; omega
      · obtain rfl : k = l.length := by omega
        go_wp2_with fail
        refine (law_alive wr).mono ?_
        rintro e w3 ⟨rfl, k3⟩
        have HT3 := Lib.hid (HT.out.kept0 k3)
        have HD3 : Hid (DtAt w1.heap.size w3 (.slice A2 n c2) p) := k3.owns HD.out (fun _ _ h => by cases h)
        have K3 := Lib.hid (HKK.out.trans k3)
        clear k3
        go_wp2_with fail
        refine (law_same w3 _ _ t A2 n c2 _ look HK.out hpl.out HT3.out HD3.out).mono ?_
        rintro e w4 ⟨rfl, k4⟩
        go_wp2_with fail
        go_ret
        exact ⟨rfl, K3.out.trans k4⟩)
theorem table_plays (W : World) (places look : Int) (hp : -9223372036854775808 ≤ places ∧ places ≤ 9223372036854775807) (hk : -9223372036854775808 ≤ look ∧ look ≤ 9223372036854775807) (A : Option Addr) (c : Nat) (l : List Ac) (hA : RdA W A l) (hm : l.length ≤ maxLen)
    (ho : ∀ x ∈ l, -9223372036854775808 ≤ x.org ∧ x.org ≤ 9223372036854775807) :
    Calls Try.prog 3 #[.int .i64 places, .slice A l.length c, .int .i64 look] W (TrueK W) := by
  unfold maxLen at hm
  by_cases h1 : 100 < places
  · by_cases h2 : places ≤ 1048576
    · clear hA ho
      go_enter Try.func3, Try.ntmps3
      go_wp2_with fail
      refine (law_alive _).mono ?_
      rintro e w1 ⟨rfl, k1⟩
      go_wp2_with fail
      go_ret
      exact ⟨rfl, k1⟩
    · by_cases h3 : l.length ≤ 100
      · exact plays_main W places look hp hk A c l hA ho h3 (.inr ⟨h1, h2⟩)
      · have h3i : 100 < (l.length : Int) := by omega
        clear hA ho
        go_enter Try.func3, Try.ntmps3
        go_wp2_with fail
        refine (law_alive _).mono ?_
        rintro e w1 ⟨rfl, k1⟩
        go_wp2_with fail
        go_ret
        exact ⟨rfl, k1⟩
  · by_cases h3 : l.length ≤ 100
    · exact plays_main W places look hp hk A c l hA ho h3 (.inl h1)
    · have h3i : 100 < (l.length : Int) := by omega
      clear hA ho
      go_enter Try.func3, Try.ntmps3
      go_wp2_with fail
      refine (law_alive _).mono ?_
      rintro e w1 ⟨rfl, k1⟩
      go_wp2_with fail
      go_ret
      exact ⟨rfl, k1⟩
end Go.Proofs.Ytfidgmpeiabhiaa
