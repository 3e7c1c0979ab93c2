/- The program's pages: what is read of a sector. -/
import Derived.Test.YtjnehijefdbpjaaDoorPgC
namespace Go.Proofs.YtjnehijefdbpjaaDoor
open Go.RowKit

theorem infoInt : (Tryd.prog.info? 3).map (fun i => (i.zero, i.size, i.bytes)) = some (some (.int .i64 0), 1, 8) := by kernel_rfl
theorem got_fours (s : List UInt8) (h : (getL s fours).2.2 = 0) : (getL s fours).1.length = 14 := by
  unfold getL at h ⊢
  split at h
  · cases h
  · rename_i h1
    rw [if_neg h1]
    split at h
    · rename_i h2
      rw [if_pos h2, numsK_len]
      rfl
    · cases h
def downs (t : List Nat) (k : Nat) : List Int := (t.take k).map fun n : Nat => (n : Int) - 1
theorem downs_succ (t : List Nat) (k : Nat) (h : k < t.length) : downs t (k + 1) = downs t k ++ [(t[k] : Int) - 1] := by
  unfold downs
  rw [List.take_succ_eq_append_getElem h, List.map_append]
  rfl
def DecPost (w : World) (s : List UInt8) (e : Ending) (w' : World) : Prop :=
  ∃ A c, e = .returned (.tuple #[.int .u32 ((decL s).1 : Int), .slice A (decL s).2.1.length c, .int .i64 (decL s).2.2]) ∧ Kept [] w w' ∧ Rd w' w'.heap.size 1 A (decL s).2.1.length ((decL s).2.1.map iv)
theorem dec_none {w w' : World} {s : List UInt8} {n : Int} (h : decL s = (0, [], n)) (k : Kept [] w w') : DecPost w s (.returned (.tuple #[.int .u32 0, .slice none 0 0, .int .i64 n])) w' :=
  ⟨none, 0, by rw [h]; rfl, k, by rw [h]; exact Rd.nil _ _ _ _⟩
theorem open_len (s : List UInt8) : (openL s).1.length ≤ s.length := by
  unfold openL
  split
  · simp
  · split
    · simp
    · simp

set_option maxRecDepth 4000 in
set_option maxHeartbeats 1000000 in
theorem page_Decode (w : World) (s : List UInt8) (hs : s.length ≤ 140737488351232) :
    Calls Tryd.prog 9 #[.string ⟨s.toArray⟩] w (DecPost w s) := by
  by_cases h64 : s.length = 64
  · have hol := open_len s
    have H64 := Lib.hid h64
    by_cases h2 : (openL s).2 = 0
    · go_enter Tryd.func9, Tryd.ntmps9
      go_wp2_with fail
      refine (crc_Open s w hs).mono ?_
      rintro e w1 ⟨rfl, k1⟩
      rw [h2]
      have HD2 := Lib.hid h2
      clear h2
      obtain ⟨B, hB⟩ : ∃ B, (openL s).1 = B := ⟨_, rfl⟩
      rw [hB] at hol ⊢
      have hB := Lib.hid hB
      have HD : Hid (decL s = if (getL B fours).2.2 ≠ 0 ∨ (getL B fours).2.1.all (· == 0) = false then (0, [], 32) else
          if greatB (getL B fours).1.tail = true then (0, [], 32) else
          ((getL B fours).1.head?.getD 0 % 4294967296, (getL B fours).1.tail.map (fun n : Nat => (n : Int) - 1), 0)) := by
        rw [Hid, decL, if_neg (by rw [h64]; simp), if_neg (by rw [HD2.out]; simp), hB.out]
      clear h64
      go_wp2_with fail
      refine (page_sizes w1).mono ?_
      rintro e w2 ⟨b, rfl, hrd, k2⟩
      have hGet := oct_Get w2 B (some ⟨b, 0, none⟩) 14 fours hrd (by decide) (by omega)
      have HG := Lib.hid hGet
      clear hGet hrd
      go_wp2_with fail
      refine HG.out.mono ?_
      rintro e w3 ⟨A3, c3, rfl, k3, hown⟩
      have hrest := got_rest B fours
      have hk13 := Lib.hid ((k1.trans k2).trans k3)
      by_cases hf : (getL B fours).2.2 = 0
      · have hml := got_fours B hf
        have hlt := got_lt B fours
        have HDo := HD.out
        clear HD
        rw [hf] at HDo ⊢
        have HD := Lib.hid HDo
        have hRd := Rd.of_own hown
        have hcap : (getL B fours).1.length ≤ c3 := by
          obtain ⟨_, _, e, h⟩ := own_slice hown
          injection e with _ _ e
          omega
        clear hown HDo hf
        generalize (getL B fours).1 = m at *
        generalize (getL B fours).2.1 = r at *
        match m, hml with
        | g :: t, hml =>
          have ht : t.length = 13 := by simpa using hml
          obtain ⟨b3, o3, rfl, hb3, hcs⟩ := hRd.2 (by rw [hml]; decide)
          have HC0 : Hid (w3.cell? ⟨b3, o3, none⟩ = some (.int .u64 (g : Int))) := hcs 0 (uv g) rfl
          have HCS : Hid (∀ k, (hk : k < t.length) → w3.cell? ⟨b3, o3 + 1 + k, none⟩ = some (.int .u64 (t[k] : Int))) := fun k hk => by
            have := hcs (k + 1) (uv t[k]) (by simp [hk])
            rw [show o3 + (k + 1) = o3 + 1 + k by omega] at this
            exact this
          have Hg : Hid (g < 18446744073709551616) := hlt g (List.mem_cons_self ..)
          have Ht := Lib.hid ht
          have HZ := Lib.hid (trim_all r)
          have hrl : r.length ≤ 140737488351232 := by omega
          simp only [List.tail_cons, List.head?_cons, Option.getD_some] at HD
          have hc14 : (14 : Int) ≤ (c3 : Int) := by rw [hml] at hcap; omega
          clear hcs hRd hlt hcap
          rw [hml]
          clear hml ht
          go_wp2_with fail
          refine (oct_Zero r w3 hrl).mono ?_
          rintro e w4 ⟨rfl, k4⟩
          rw [HZ.out]
          by_cases hz : r.all (· == 0) = true
          · rw [hz]
            have HD3 : Hid (decL s = if greatB t = true then (0, [], 32) else (g % 4294967296, t.map (fun n : Nat => (n : Int) - 1), 0)) := by
              rw [Hid, HD.out, if_neg (by rw [hz]; simp)]
              rfl
            clear hz HD
            obtain ⟨i0, hi0, hz0, hz1, hz2⟩ := info_parts infoInt
            have hk14 := Lib.hid (hk13.out.trans k4)
            have hc0 := k4.cell HC0.out (fun h => by cases h)
            have HC4 : Hid (w4.cell? ⟨b3, o3, none⟩ = some (.int .u64 (g : Int))) := hc0
            clear hc0
            go_wp2_with fail
            go_loopw [9, 40] (fun v i W => ∃ (k : Nat) (Av : Option Addr) (cv : Nat), k ≤ 13 ∧ i = .int .i64 k ∧ v = .slice Av k cv ∧ Hid (W.ownsRow w4.heap.size 3 1 (.slice Av k cv) k ((downs t k).map iv)) ∧ Hid (Kept [] w4 W) ∧ Hid (∀ j, (hj : j < t.length) → j < k → t[j] ≤ 2147483647)) (fun _ i _ => 13 - (intOf i).toNat)
            case atStart => exact ⟨0, none, 0, Nat.zero_le _, rfl, rfl, World.ownsRow_nil _ _ _ _, Kept.refl _ _, fun j _ hj => absurd hj (Nat.not_lt_zero _)⟩
            case round =>
              obtain ⟨k, Av, cv, hk, rfl, rfl, Hown, HK4, HJ⟩ := hrel
              have HK := Lib.hid (hk14.out.trans HK4.out)
              by_cases hlt : k < 13
              · have hlt2 : k < t.length := by rw [Ht.out]; exact hlt
                have hc1 := (k4.trans HK4.out).cell (HCS.out k hlt2) (fun h => by cases h)
                have HF : Hid (2147483647 < t[k] → decL s = (0, [], 32)) := fun h => by
                  have : greatB t = true := by
                    rw [greatB, List.any_eq_true]
                    exact ⟨t[k], List.getElem_mem hlt2, by simpa using h⟩
                  rw [HD3.out, if_pos this]
                have HT : Hid (t[k] ≤ 2147483647 → ∀ j, (hj : j < t.length) → j < k + 1 → t[j] ≤ 2147483647) := fun h j hj hjk => by
                  rcases Nat.lt_or_ge j k with h1 | h1
                  · exact HJ.out j hj h1
                  · obtain rfl : j = k := by omega
                    exact h
                have HN := Lib.hid (downs_succ t k hlt2)
                generalize t[k] = n at *
                by_cases h1 : 2147483647 < n
                · have HE := Lib.hid (HF.out h1)
                  go_wp2_with fail
                  go_ret3
                  exact dec_none HE.out HK.out
                · have HT2 := Lib.hid (HT.out (by omega))
                  have hw1 : IntKind.i64.wrap ((n : Int) + -1) = (n : Int) - 1 := by rw [IntWalk.i64_in _ (by omega)]; omega
                  have hsz := HK4.out.size
                  have hown := Hown.out
                  clear HF HT
                  go_wp2_with (at_builtin; refine wpList_append_lies _ rfl (.tmp 46) (.tmp 50) _ rfl w4.heap.size 3 i0 _ 1 8 Tryd.underlying23 hi0 hz0 hz1 hz2 rfl (by omega) _ _ _ rfl (hown.alloc _) ⟨wr.heap.size, 0, none⟩ 1 1 [iv ((n : Int) - 1)] rfl rfl (World.news_of_block (cs := #[iv ((n : Int) - 1)]) (t := 3) (fr := (0, 0)) (heap_alloc_new wr _)) (by simp [iv, Value.oneCell']) (by omega) (by simp only [maxLen]; omega) (by omega) (by simp; omega) _ rfl ?_; intro gg cap w5 hown2 hgrow hat hlt5)
                  go_roundw
                  case rel =>
                    have hk2 : Kept (Value.slice Av k cv).ownBlock.toList wr w5 := ((Kept.refl _ wr).alloc _).grown hgrow (fun x hx => .inl (by rw [Option.mem_toList]; exact hx))
                    refine ⟨k + 1, _, _, by omega, by go_num, rfl, ?_, HK4.out.trans' hk2 (fun x hx => .inr ((hown.lt x (by simpa using hx)).1)), HT2.out⟩
                    rw [Hid, HN.out, List.map_append]
                    simpa using hown2
                  case measure => simp [intOf]; omega
              · obtain rfl : k = 13 := by omega
                have hc0 := HK4.out.cell HC4.out (fun h => by cases h)
                have hgr : greatB t = false := by
                  rw [greatB, List.any_eq_false]
                  intro n hn
                  obtain ⟨j, hj, rfl⟩ := List.getElem_of_mem hn
                  have := HJ.out j hj (by rw [← Ht.out]; exact hj)
                  simp
                  omega
                have HE : Hid (decL s = (g % 4294967296, t.map (fun n : Nat => (n : Int) - 1), 0)) := by
                  rw [Hid, HD3.out, if_neg (by rw [hgr]; simp)]
                have HW : Hid (downs t 13 = t.map (fun n : Nat => (n : Int) - 1)) := by
                  rw [Hid, downs, List.take_of_length_le (by rw [Ht.out]; exact Nat.le_refl _)]
                clear hgr
                go_wp2_with fail
                go_ret3
                have hlen : (t.map (fun n : Nat => (n : Int) - 1)).length = 13 := by rw [List.length_map, Ht.out]
                refine ⟨Av, cv, ?_, HK.out, ?_⟩
                · rw [HE.out]
                  simp only [hlen]
                  rfl
                · rw [HE.out]
                  simp only [hlen]
                  rw [← HW.out]
                  exact Rd.of_own Hown.out
          · have hz' : r.all (· == 0) = false := by simpa using hz
            have HF : Hid (decL s = (0, [], 32)) := by rw [Hid, HD.out, if_pos (.inr hz')]
            rw [hz']
            go_wp2_with fail
            go_ret3
            exact dec_none HF.out (hk13.out.trans k4)
      · have HF : Hid (decL s = (0, [], 32)) := by rw [Hid, HD.out, if_pos (.inl hf)]
        generalize (getL B fours).1 = m at *
        generalize (getL B fours).2.1 = r at *
        generalize (getL B fours).2.2 = f at *
        go_wp2_with fail
        go_ret3
        exact dec_none HF.out hk13.out
    · have HF : Hid (decL s = (0, [], (openL s).2)) := by rw [Hid, decL, if_neg (by rw [h64]; simp), if_pos h2]
      go_enter Tryd.func9, Tryd.ntmps9
      go_wp2_with fail
      refine (crc_Open s w hs).mono ?_
      rintro e w1 ⟨rfl, k1⟩
      generalize (openL s).1 = B at *
      generalize (openL s).2 = q at *
      go_wp2_with fail
      go_ret3
      exact dec_none HF.out k1
  · have HF : Hid (decL s = (0, [], 21)) := by rw [Hid, decL, if_pos h64]
    have hne : ¬ ((s.length : Int) = 64) := by omega
    clear h64
    go_enter Tryd.func9, Tryd.ntmps9
    go_wp2_with fail
    go_ret3
    exact dec_none HF.out (Kept.refl _ _)
end Go.Proofs.YtjnehijefdbpjaaDoor
