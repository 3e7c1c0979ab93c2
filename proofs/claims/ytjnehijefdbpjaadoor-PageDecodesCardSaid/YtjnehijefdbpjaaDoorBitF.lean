/- What the document reads of a page's sector; the law PageDecodes: its walk. -/
import Derived.Test.YtjnehijefdbpjaaDoorBitE
namespace Go.Proofs.YtjnehijefdbpjaaDoor
open Go.RowKit

set_option maxRecDepth 4000 in
set_option maxHeartbeats 1000000 in
theorem ref_Decode (w : World) (s : List UInt8) (hs : s.length ≤ 4096) :
    Calls Tryd.prog 10 #[.string ⟨s.toArray⟩] w (DecPost w s) := by
  by_cases h64 : s.length = 64
  · by_cases h2 : (openL s).2 = 0
    · have hBl : (openL s).1.length = 60 := by
        have e2 : openL s = if lowL (sumN (s.take 60)) 4 = s.drop 60 then (s.take 60, 0) else ([], 31) := by
          rw [openL, if_neg (by omega), h64]
        rw [e2] at h2 ⊢
        split at h2
        · rename_i h5
          rw [if_pos h5]
          simp
          omega
        · exact absurd h2 (by decide)
      go_enter Tryd.func10, Tryd.ntmps10
      go_wp2_with fail
      refine (ref_Open s w hs).mono ?_
      rintro e w1 ⟨rfl, k1⟩
      have HD : Hid (decL s = if ((openL s).1.drop 56).all (· == 0) = false then (0, [], 32) else
          if greatB (numsK (openL s).1 (natZ fours) 14).tail = true then (0, [], 32) else
          (numN ((openL s).1.take 4) % 4294967296, (numsK (openL s).1 (natZ fours) 14).tail.map (fun n : Nat => (n : Int) - 1), 0)) := by
        rw [Hid, decL, if_neg (by rw [h64]; simp), if_neg (by rw [h2]; simp), got_form _ hBl]
        simp only [nums_head]
        by_cases hz : ((openL s).1.drop 56).all (· == 0) = false
        · rw [if_pos (.inr hz), if_pos hz]
        · rw [if_neg (by simp only [ne_eq, not_true_eq_false, false_or]; exact hz), if_neg hz]
      rw [h2]
      clear h2
      generalize (openL s).1 = B at *
      have HT := Lib.hid (nums_tail B)
      have HTl : Hid ((numsK B (natZ fours) 14).tail.length = 13) := by rw [Hid, List.length_tail, numsK_len]
      generalize (numsK B (natZ fours) 14).tail = t at *
      obtain ⟨i0, hi0, hz0, hz1, hz2⟩ := info_parts infoInt
      have HK1 := Lib.hid k1
      go_wp2_with fail
      go_loopw [7, 8] (fun v i W => ∃ (k : Nat) (Av : Option Addr) (cv : Nat), k ≤ 13 ∧ i = .int .i64 k ∧ v = .slice Av k cv ∧ Hid (W.ownsRow w1.heap.size 3 1 (.slice Av k cv) k ((downs t k).map iv)) ∧ Hid (Kept [] w1 W) ∧ Hid (∀ j, (hj : j < t.length) → j < k → t[j] ≤ 2147483647)) (fun _ i _ => 13 - (intOf i).toNat)
      case atStart => exact ⟨0, none, 0, Nat.zero_le _, rfl, rfl, World.ownsRow_nil _ _ _ _, Kept.refl _ _, fun j _ hj => absurd hj (Nat.not_lt_zero _)⟩
      case round =>
        obtain ⟨k, Av, cv, hk, rfl, rfl, Hown, HK4, HJ⟩ := hrel
        have HK := Lib.hid (HK1.out.trans HK4.out)
        by_cases hlt : k < 13
        · have hlt2 : k < t.length := by rw [HTl.out]; exact hlt
          have HTk : Hid (numN ((B.drop (4 + 4 * k)).take 4) = t[k]) := by
            have := HT.out k hlt
            rw [List.getElem?_eq_getElem hlt2] at this
            exact (Option.some.inj this).symm
          have HF : Hid (2147483647 < t[k] → decL s = (0, [], 32)) := fun h => by
            have : greatB t = true := by
              rw [greatB, List.any_eq_true]
              exact ⟨t[k], List.getElem_mem hlt2, by simpa using h⟩
            rw [HD.out]
            rw [if_pos this]
            split <;> rfl
          have HTT : Hid (t[k] ≤ 2147483647 → ∀ j, (hj : j < t.length) → j < k + 1 → t[j] ≤ 2147483647) := fun h j hj hjk => by
            rcases Nat.lt_or_ge j k with h1 | h1
            · exact HJ.out j hj h1
            · obtain rfl : j = k := by omega
              exact h
          have HN := Lib.hid (downs_succ t k hlt2)
          have hx : (⟨B.toArray⟩ : ByteArray).extract (4 + 4 * k) (8 + 4 * k) = ⟨((B.drop (4 + 4 * k)).take 4).toArray⟩ := by rw [extract_list, show 8 + 4 * k - (4 + 4 * k) = 4 by omega]
          have hl4 : ((B.drop (4 + 4 * k)).take 4).length ≤ 8 := by simp; omega
          obtain ⟨a, ha⟩ : ∃ a, 4 + 4 * k = a := ⟨_, rfl⟩
          obtain ⟨b, hb⟩ : ∃ b, 8 + 4 * k = b := ⟨_, rfl⟩
          rw [ha, hb] at hx
          rw [ha] at hl4 HTk
          have hia : (4 : Int) + 4 * (k : Int) = (a : Int) := by omega
          have hib : (8 : Int) + 4 * (k : Int) = (b : Int) := by omega
          have hwa : IntKind.i64.wrap (4 + 4 * (k : Int)) = (a : Int) := by rw [IntWalk.i64_in _ (by omega)]; omega
          have hwb : IntKind.i64.wrap (8 + 4 * (k : Int)) = (b : Int) := by rw [IntWalk.i64_in _ (by omega)]; omega
          have hab : (a : Int) ≤ (b : Int) := by omega
          have hbB : (b : Int) ≤ (B.length : Int) := by omega
          generalize t[k] = n at *
          generalize (B.drop a).take 4 = q at *
          clear ha hb
          go_wp2_with fail
          refine (ref_Number wr q hl4).mono ?_
          rintro e w3 ⟨rfl, rfl⟩
          rw [HTk.out]
          by_cases h1 : 2147483647 < n
          · have HE := Lib.hid (HF.out h1)
            go_wp2_with fail
            go_ret3
            exact dec_none HE.out HK.out
          · have HT2 := Lib.hid (HTT.out (by omega))
            have hw1 : IntKind.i64.wrap ((n : Int) - 1) = (n : Int) - 1 := by rw [IntWalk.i64_in _ (by omega)]
            have hsz := HK4.out.size
            have hown := Hown.out
            clear HF HTT
            go_wp2_with (at_builtin; refine wpList_append_lies _ rfl (.tmp 37) (.tmp 41) _ rfl w1.heap.size 3 i0 _ 1 8 Tryd.underlying23 hi0 hz0 hz1 hz2 rfl (by omega) _ _ _ rfl (hown.alloc _) ⟨wr.heap.size, 0, none⟩ 1 1 [iv ((n : Int) - 1)] rfl rfl (World.news_of_block (cs := #[iv ((n : Int) - 1)]) (t := 3) (fr := (0, 0)) (heap_alloc_new wr _)) (by simp [iv, Value.oneCell']) (by omega) (by simp only [maxLen]; omega) (by omega) (by simp; omega) _ rfl ?_; intro gg cap w5 hown2 hgrow hat hlt5)
            go_roundw
            case rel =>
              have hk2 : Kept (Value.slice Av k cv).ownBlock.toList wr w5 := ((Kept.refl _ wr).alloc _).grown hgrow (fun x hx => .inl (by rw [Option.mem_toList]; exact hx))
              refine ⟨k + 1, _, _, by omega, by go_num, rfl, ?_, HK4.out.trans' hk2 (fun x hx => .inr ((hown.lt x (by simpa using hx)).1)), HT2.out⟩
              rw [Hid, HN.out, List.map_append]
              simpa using hown2
            case measure => simp [intOf]; omega
        · obtain rfl : k = 13 := by omega
          have hgr : greatB t = false := by
            rw [greatB, List.any_eq_false]
            intro n hn
            obtain ⟨j, hj, rfl⟩ := List.getElem_of_mem hn
            have := HJ.out j hj (by rw [← HTl.out]; exact hj)
            simp
            omega
          have HW : Hid (downs t 13 = t.map (fun n : Nat => (n : Int) - 1)) := by
            rw [Hid, downs, List.take_of_length_le (by rw [HTl.out]; exact Nat.le_refl _)]
          have x1 : (⟨B.toArray⟩ : ByteArray).extract 56 60 = ⟨(B.drop 56).toArray⟩ := by rw [extract_list, List.take_of_length_le]; simp; omega
          have x2 : (⟨B.toArray⟩ : ByteArray).extract 0 4 = ⟨(B.take 4).toArray⟩ := by rw [extract_list]; simp
          have hr4 : (B.drop 56).length ≤ 1000000 := by simp; omega
          have hh8 : (B.take 4).length ≤ 8 := by simp; omega
          have HGr := Lib.hid hgr
          clear hgr
          generalize B.drop 56 = r at *
          generalize B.take 4 = hd at *
          go_wp2_with fail
          refine (ref_Zero r wr hr4).mono ?_
          rintro e w4 ⟨rfl, rfl⟩
          by_cases hz : r.all (· == 0) = true
          · rw [hz]
            have HE : Hid (decL s = (numN hd % 4294967296, t.map (fun n : Nat => (n : Int) - 1), 0)) := by
              rw [Hid, HD.out, if_neg (by rw [hz]; simp), if_neg (by rw [HGr.out]; simp)]
            clear hz
            go_wp2_with fail
            refine (ref_Number wr hd hh8).mono ?_
            rintro e w4 ⟨rfl, rfl⟩
            generalize numN hd = n at *
            go_wp2_with fail
            go_ret3
            have hlen : (t.map (fun n : Nat => (n : Int) - 1)).length = 13 := by rw [List.length_map, HTl.out]
            refine ⟨Av, cv, ?_, HK.out, ?_⟩
            · rw [HE.out]
              simp only [hlen]
              rfl
            · rw [HE.out]
              simp only [hlen]
              rw [← HW.out]
              exact Rd.of_own Hown.out
          · have hz' : r.all (· == 0) = false := by simpa using hz
            have HF : Hid (decL s = (0, [], 32)) := by rw [Hid, HD.out, if_pos hz']
            rw [hz']
            clear hz hz'
            go_wp2_with fail
            go_ret3
            exact dec_none HF.out HK.out
    · have HF : Hid (decL s = (0, [], (openL s).2)) := by rw [Hid, decL, if_neg (by rw [h64]; simp), if_pos h2]
      go_enter Tryd.func10, Tryd.ntmps10
      go_wp2_with fail
      refine (ref_Open s w hs).mono ?_
      rintro e w1 ⟨rfl, k1⟩
      generalize (openL s).1 = B at *
      generalize (openL s).2 = q at *
      go_wp2_with fail
      go_ret3
      exact dec_none HF.out k1
  · have HF : Hid (decL s = (0, [], 21)) := by rw [Hid, decL, if_pos h64]
    have hne : ¬ ((s.length : Int) = 64) := by omega
    clear h64
    go_enter Tryd.func10, Tryd.ntmps10
    go_wp2_with fail
    go_ret3
    exact dec_none HF.out (Kept.refl _ _)

theorem decL_len (s : List UInt8) : (decL s).2.1.length ≤ 13 := by
  unfold decL
  split
  · simp
  · split
    · simp
    · split
      · simp
      · split
        · simp
        · rename_i h1 _
          have h0 : (getL (openL s).1 fours).2.2 = 0 := by
            rcases Int.decEq (getL (openL s).1 fours).2.2 0 with h5 | h5
            · exact absurd (.inl h5) h1
            · exact h5
          simp [got_fours _ h0]

set_option maxRecDepth 8000 in
set_option maxHeartbeats 1000000 in
theorem decodes_run (w : World) (s : List UInt8) (hs : s.length ≤ 140737488351232) :
    Calls Tryd.prog 4 #[.string ⟨s.toArray⟩] w fun e w' => e = .returned (.bool true) ∧ Kept [] w w' := by
  by_cases h1 : 200 < s.length
  · go_enter Tryd.func4, Tryd.ntmps4
    go_wp2_with (go_at_call 6; refine (page_alive _).mono ?_; rintro e w2 ⟨rfl, k2⟩)
    go_ret
    exact ⟨rfl, k2⟩
  · have hdl := decL_len s
    go_enter Tryd.func4, Tryd.ntmps4
    go_wp2_with fail
    refine (page_Decode w s hs).mono ?_
    rintro e w1 ⟨A1, c1, rfl, k1, hR1⟩
    have R1 := Lib.hid hR1
    clear hR1
    go_wp2_with fail
    refine (ref_Decode w1 s (by omega)).mono ?_
    rintro e w2 ⟨A2, c2, rfl, k2, hR2⟩
    have R2 := Lib.hid hR2
    clear hR2
    generalize (decL s).1 = g at *
    generalize (decL s).2.1 = l at *
    generalize (decL s).2.2 = q at *
    go_wp2_with fail
    refine (ref_Same w2 A1 A2 c1 c2 l (rd_grow R1.out k2) R2.out (by omega)).mono ?_
    rintro e w3 ⟨rfl, k3⟩
    go_wp2_with fail
    refine (page_alive w3).mono ?_
    rintro e w4 ⟨rfl, k4⟩
    go_wp2_with fail
    go_ret
    exact ⟨rfl, ((k1.trans k2).trans k3).trans k4⟩
end Go.Proofs.YtjnehijefdbpjaaDoor
