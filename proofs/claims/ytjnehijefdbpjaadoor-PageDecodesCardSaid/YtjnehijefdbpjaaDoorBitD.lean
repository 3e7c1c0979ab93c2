/- The document's seal; the document's sector of a page; the law PageEncodes: its walk. -/
import Derived.Test.YtjnehijefdbpjaaDoorBitC
import Derived.Test.YtjnehijefdbpjaaDoorPgE
namespace Go.Proofs.YtjnehijefdbpjaaDoor
open Go.RowKit

set_option maxHeartbeats 1000000 in
theorem ref_Seal (s : List UInt8) (n : Int) (w : World) (hs : s.length ≤ 4096) :
    Calls Tryd.prog 16 #[.string ⟨s.toArray⟩, .int .i64 n] w fun e w' => e = .returned (.tuple #[.string ⟨(sealL s n).1.toArray⟩, .int .i64 (sealL s n).2]) ∧ Kept [] w w' := by
  by_cases h1 : n < 4
  · have H : Hid (sealL s n = ([], 1)) := by rw [Hid, sealL, if_pos (.inl h1)]
    go_enter Tryd.func16, Tryd.ntmps16
    go_wp2
    go_ret2
    rw [H.out]
    exact ⟨rfl, Kept.refl _ _⟩
  · by_cases h2 : n > 4096
    · have H : Hid (sealL s n = ([], 1)) := by rw [Hid, sealL, if_pos (.inr h2)]
      go_enter Tryd.func16, Tryd.ntmps16
      go_wp2
      go_ret2
      rw [H.out]
      exact ⟨rfl, Kept.refl _ _⟩
    · have hw : IntKind.i64.wrap (n - 4) = n - 4 := IntWalk.i64_in _ (by omega)
      by_cases h3 : (padL s (n - 4)).2 = 0
      · have H : Hid (sealL s n = ((padL s (n - 4)).1 ++ lowL (sumN (padL s (n - 4)).1) 4, 0)) := by rw [Hid, sealL, if_neg (by omega), if_neg (by simpa using h3)]
        have hpl : (padL s (n - 4)).1.length ≤ 5000 := by
          have h3' := h3
          unfold padL at h3' ⊢
          split at h3'
          · cases h3'
          · rename_i h4
            rw [if_neg h4]
            simp
            omega
        go_enter Tryd.func16, Tryd.ntmps16
        go_wp2_with fail
        refine (ref_Pad s (n - 4) w (by omega)).mono ?_
        rintro e w1 ⟨rfl, rfl⟩
        rw [h3]
        generalize (padL s (n - 4)).1 = p at *
        have happ := app_arr p (lowL (sumN p) 4)
        have hll := lowL_len (sumN p) 4
        go_wp2_with fail
        refine (ref_Sum w p (by omega)).mono ?_
        rintro e w2 ⟨rfl, k2⟩
        have hsl := sumN_lt p
        have hput := putL_sum p
        generalize sumN p = sm at *
        go_wp2_with fail
        refine (ref_Put sm 4 w2 (by omega)).mono ?_
        rintro e w3 ⟨rfl, k3⟩
        rw [hput]
        go_wp2_with fail
        go_ret2
        rw [H.out]
        exact ⟨rfl, k2.trans k3⟩
      · have H : Hid (sealL s n = ([], (padL s (n - 4)).2)) := by rw [Hid, sealL, if_neg (by omega), if_pos h3]
        go_enter Tryd.func16, Tryd.ntmps16
        go_wp2_with fail
        refine (ref_Pad s (n - 4) w (by omega)).mono ?_
        rintro e w1 ⟨rfl, rfl⟩
        go_wp2_with fail
        go_ret2
        rw [H.out]
        exact ⟨rfl, Kept.refl _ _⟩

theorem putL_four (n : Nat) (h : n < 4294967296) : putL n 4 = (lowL n 4, 0) := by
  have h4 : (4 : Int).toNat = 4 := rfl
  unfold putL
  rw [if_neg (by decide), h4, if_neg (by rw [show 256 ^ 4 = 4294967296 from rfl, Nat.div_eq_of_lt h]; omega)]
theorem cat_pre (m r : List Nat) (k : Nat) (h : k ≤ m.length) : catL fours (m ++ r) k = catL fours m k := by
  unfold catL
  congr 1
  refine List.map_congr_left fun i hi => ?_
  have hi : i < k := by simpa using hi
  unfold putAt
  rw [List.getElem?_append_left (by omega)]
theorem cat_succ4 (m : List Nat) (x k : Nat) (hk : k = m.length) (h14 : k < 14) (hx : x < 4294967296) : catL fours (m ++ [x]) (k + 1) = catL fours m k ++ lowL x 4 := by
  subst hk
  rw [catL_succ, cat_pre _ _ _ (Nat.le_refl _)]
  congr 1
  unfold putAt
  rw [fours_at _ h14, List.getElem?_append_right (Nat.le_refl _), Nat.sub_self]
  simp only [List.getElem?_cons_zero, Option.getD_some]
  rw [putL_four x hx]

set_option maxRecDepth 4000 in
set_option maxHeartbeats 1000000 in
theorem ref_Encode (w : World) (gen : Nat) (A : Option Addr) (c : Nat) (l : List Int) (hA : Rd w w.heap.size 1 A l.length (l.map iv)) (hg : gen < 4294967296) :
    Calls Tryd.prog 8 #[.int .u32 (gen : Int), .slice A l.length c] w fun e w' => e = .returned (.tuple #[.string ⟨(encL gen l).1.toArray⟩, .int .i64 (encL gen l).2]) ∧ Kept [] w w' := by
  have HS : Hid (∀ k, (hk : k < l.length) → ∃ b o, A = some ⟨b, o, none⟩ ∧ w.cell? ⟨b, o + k, none⟩ = some (.int .i64 l[k])) := fun k hk => by
    obtain ⟨b, o, e, hb, hc⟩ := hA.2 (by omega)
    exact ⟨b, o, e, hc k (iv l[k]) (by simp [hk])⟩
  clear hA
  by_cases hlen : l.length = 13
  · have Hlen := Lib.hid hlen
    rw [hlen]
    clear hlen
    have hput := putL_four gen hg
    go_enter Tryd.func8, Tryd.ntmps8
    go_wp2_with fail
    refine (ref_Put gen 4 w (by omega)).mono ?_
    rintro e w1 ⟨rfl, k1⟩
    rw [hput]
    clear hput
    have HK1 := Lib.hid k1
    have HC1 : Hid (lowL gen 4 = catL fours (numsTo gen l 0) 1) := by
      have := cat_succ4 [] gen 0 rfl (by decide) hg
      rw [Hid]
      exact this.symm
    rw [HC1.out]
    go_wp2_with fail
    go_loopw [6, 8] (fun sv i W => ∃ k : Nat, k ≤ 13 ∧ i = .int .i64 k ∧ sv = .string ⟨(catL fours (numsTo gen l k) (k + 1)).toArray⟩ ∧ Hid (Kept [] w W) ∧ Hid (∀ j, (hj : j < l.length) → j < k → -1 ≤ l[j] ∧ l[j] ≤ 2147483646)) (fun _ i _ => 13 - (intOf i).toNat)
    case atStart => exact ⟨0, Nat.zero_le _, rfl, rfl, HK1.out, fun j _ hj => absurd hj (Nat.not_lt_zero _)⟩
    case round =>
      obtain ⟨k, hk, rfl, rfl, HK, HJ⟩ := hrel
      by_cases hlt : k < 13
      · have hlt2 : k < l.length := by rw [Hlen.out]; exact hlt
        obtain ⟨b, o, rfl, hc⟩ := HS.out k hlt2
        have hc1 := HK.out.cell hc (fun h => by cases h)
        have HF : Hid ((l[k] < -1 ∨ 2147483646 < l[k]) → encL gen l = ([], 1)) := fun h => by
          have : farB l = true := by
            rw [farB, List.any_eq_true]
            exact ⟨l[k], List.getElem_mem hlt2, by simpa using h⟩
          rw [encL, if_pos (.inr this)]
        have HT : Hid (-1 ≤ l[k] ∧ l[k] ≤ 2147483646 → ∀ j, (hj : j < l.length) → j < k + 1 → -1 ≤ l[j] ∧ l[j] ≤ 2147483646) := fun h j hj hjk => by
          rcases Nat.lt_or_ge j k with h1 | h1
          · exact HJ.out j hj h1
          · obtain rfl : j = k := by omega
            exact h
        have HN := Lib.hid (numsTo_succ gen l k hlt2)
        have HNl := numsTo_len gen l k (by omega)
        have hcl := catL_len fours (numsTo gen l k) (k + 1)
        clear hc
        generalize l[k] = n at *
        by_cases h1 : n < -1
        · have HE := Lib.hid (HF.out (.inl h1))
          go_wp2_with fail
          go_ret2
          rw [HE.out]
          exact ⟨rfl, HK.out⟩
        · by_cases h2 : 2147483646 < n
          · have HE := Lib.hid (HF.out (.inr h2))
            go_wp2_with fail
            go_ret2
            rw [HE.out]
            exact ⟨rfl, HK.out⟩
          · have HT2 := Lib.hid (HT.out ⟨by omega, by omega⟩)
            obtain ⟨x, hx⟩ : ∃ x, (n + 1).toNat = x := ⟨_, rfl⟩
            obtain rfl : n = (x : Int) - 1 := by omega
            rw [hx] at HN
            have hxb : x ≤ 2147483647 := by omega
            have hput := putL_four x (by omega)
            have HCC := Lib.hid (cat_succ4 (numsTo gen l k) x (k + 1) HNl.symm (by omega) (by omega))
            have hll := lowL_len x 4
            clear hx h1 h2 HF HT HNl
            generalize catL fours (numsTo gen l k) (k + 1) = C at *
            have happ := app_arr C (lowL x 4)
            go_wp2_with fail
            refine (ref_Put x 4 wr (by omega)).mono ?_
            rintro e w2 ⟨rfl, k2⟩
            rw [hput]
            clear hput
            go_wp2_with fail
            go_roundw
            case rel =>
              refine ⟨k + 1, by omega, by go_num, ?_, HK.out.trans k2, HT2.out⟩
              rw [HN.out, HCC.out]
            case measure => simp [intOf]; omega
      · obtain rfl : k = 13 := by omega
        have hfar : farB l = false := by
          rw [farB, List.any_eq_false]
          intro n hn
          obtain ⟨j, hj, rfl⟩ := List.getElem_of_mem hn
          have := HJ.out j hj (by rw [← Hlen.out]; exact hj)
          simp
          omega
        have hnum : numsTo gen l 13 = numsOf gen l := by rw [numsTo, numsOf, List.take_of_length_le (by rw [Hlen.out]; exact Nat.le_refl _)]
        have hnl : (numsOf gen l).length = 13 + 1 := by simp [numsOf, Hlen.out]
        have hjf := (join_fours (numsOf gen l) hnl (nums_lt gen l hg hfar))
        have HE : Hid (encL gen l = sealL (catL fours (numsOf gen l) 14) 64) := by
          rw [Hid, encL, if_neg (by rw [hfar]; simp [Hlen.out]), hjf.1]
        have hcl := hjf.2
        rw [hnum]
        clear hnum hnl hjf hfar
        generalize catL fours (numsOf gen l) 14 = cat at *
        go_wp2_with fail
        refine (ref_Seal cat 64 wr (by omega)).mono ?_
        rintro e w4 ⟨rfl, k4⟩
        rw [← HE.out]
        go_wp2_with fail
        go_ret2
        exact ⟨rfl, HK.out.trans k4⟩
  · have H : Hid (encL gen l = ([], 1)) := by rw [Hid, encL, if_pos (.inl hlen)]
    have hne : ¬ ((l.length : Int) = 13) := by omega
    clear hlen
    go_enter Tryd.func8, Tryd.ntmps8
    go_wp2_with fail
    go_ret2
    rw [H.out]
    exact ⟨rfl, Kept.refl _ _⟩

set_option maxRecDepth 8000 in
set_option maxHeartbeats 1000000 in
theorem encodes_run (w : World) (gen : Nat) (A : Option Addr) (c : Nat) (l : List Int) (hA : Rd w w.heap.size 1 A l.length (l.map iv)) (hg : gen < 4294967296) :
    Calls Tryd.prog 3 #[.int .u32 (gen : Int), .slice A l.length c] w fun e w' => e = .returned (.bool true) ∧ Kept [] w w' := by
  by_cases h1 : 30 < l.length
  · go_enter Tryd.func3, Tryd.ntmps3
    go_wp2_with (go_at_call 6; refine (page_alive _).mono ?_; rintro e w2 ⟨rfl, k2⟩)
    go_ret
    exact ⟨rfl, k2⟩
  · have HA := Lib.hid hA
    clear hA
    go_enter Tryd.func3, Tryd.ntmps3
    go_wp2_with fail
    refine (page_Encode w gen A c l HA.out hg).mono ?_
    rintro e w1 ⟨rfl, k1⟩
    go_wp2_with fail
    refine (ref_Encode w1 gen A c l (rd_grow HA.out k1) hg).mono ?_
    rintro e w2 ⟨rfl, k2⟩
    generalize (encL gen l).1 = x at *
    generalize (encL gen l).2 = q at *
    go_wp2_with fail
    refine (page_alive w2).mono ?_
    rintro e w3 ⟨rfl, k3⟩
    go_wp2_with fail
    go_ret
    exact ⟨rfl, (k1.trans k2).trans k3⟩
end Go.Proofs.YtjnehijefdbpjaaDoor
