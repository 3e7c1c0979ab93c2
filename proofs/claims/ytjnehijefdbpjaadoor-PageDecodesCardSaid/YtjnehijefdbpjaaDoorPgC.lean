/- The program's pages: a page's sector. -/
import Derived.Test.YtjnehijefdbpjaaDoorPgB
namespace Go.Proofs.YtjnehijefdbpjaaDoor
open Go.RowKit

theorem info64b : (Tryd.prog.info? 36).map (fun i => (i.zero, i.size, i.bytes)) = some (some (.int .u64 0), 1, 8) := by kernel_rfl
/-- the numbers so far -/
def numsTo (gen : Nat) (l : List Int) (k : Nat) : List Nat := gen :: (l.take k).map fun n => (n + 1).toNat
theorem numsTo_succ (gen : Nat) (l : List Int) (k : Nat) (h : k < l.length) : numsTo gen l (k + 1) = numsTo gen l k ++ [(l[k] + 1).toNat] := by
  unfold numsTo
  rw [List.take_succ_eq_append_getElem h, List.map_append]
  rfl
theorem numsTo_len (gen : Nat) (l : List Int) (k : Nat) (h : k ≤ l.length) : (numsTo gen l k).length = k + 1 := by
  simp [numsTo]; omega

set_option maxRecDepth 4000 in
set_option maxHeartbeats 1000000 in
theorem page_Encode (w : World) (gen : Nat) (A : Option Addr) (c : Nat) (l : List Int) (hA : Rd w w.heap.size 1 A l.length (l.map iv)) (hg : gen < 4294967296) :
    Calls Tryd.prog 7 #[.int .u32 (gen : Int), .slice A l.length c] w fun e w' => e = .returned (.tuple #[.string ⟨(encL gen l).1.toArray⟩, .int .i64 (encL gen l).2]) ∧ Kept [] w w' := by
  have HS : Hid (∀ k, (hk : k < l.length) → ∃ b o, A = some ⟨b, o, none⟩ ∧ w.cell? ⟨b, o + k, none⟩ = some (.int .i64 l[k])) := fun k hk => by
    obtain ⟨b, o, e, hb, hc⟩ := hA.2 (by omega)
    exact ⟨b, o, e, hc k (iv l[k]) (by simp [hk])⟩
  clear hA
  by_cases hlen : l.length = 13
  · have Hlen := Lib.hid hlen
    obtain ⟨i0, hi0, hz0, hz1, hz2⟩ := info_parts info64b
    rw [hlen]
    clear hlen
    go_enter Tryd.func7, Tryd.ntmps7
    go_wp2_with fail
    have hown0 : (w.alloc (.cells #[.int .u64 (gen : Int)] 36)).ownsRow w.heap.size 36 1 (.slice (some ⟨w.heap.size, 0, none⟩) 1 1) 1 [uv gen] :=
      ⟨rfl, .inr ⟨w.heap.size, 1, #[uv gen], rfl, Nat.le_refl _, Blk.new w _ _, Nat.le_refl _, by decide, rfl, rfl⟩⟩
    have HO0 := Lib.hid hown0
    have HK0 : Hid (Kept [] w (w.alloc (.cells #[.int .u64 (gen : Int)] 36))) := (Kept.refl [] w).alloc _
    clear hown0
    go_loopw [6, 19] (fun v i W => ∃ (k : Nat) (Av : Option Addr) (cv : Nat), k ≤ 13 ∧ i = .int .i64 k ∧ v = .slice Av (k + 1) cv ∧ Hid (W.ownsRow w.heap.size 36 1 (.slice Av (k + 1) cv) (k + 1) ((numsTo gen l k).map uv)) ∧ Hid (Kept [] w W) ∧ Hid (∀ j, (hj : j < l.length) → j < k → -1 ≤ l[j] ∧ l[j] ≤ 2147483646)) (fun _ i _ => 13 - (intOf i).toNat)
    case atStart => exact ⟨0, some ⟨w.heap.size, 0, none⟩, 1, Nat.zero_le _, rfl, rfl, HO0.out, HK0.out, fun j _ hj => absurd hj (Nat.not_lt_zero _)⟩
    case round =>
      obtain ⟨k, Av, cv, hk, rfl, rfl, Hown, HK, HJ⟩ := hrel
      by_cases hlt : k < 13
      · have hlt2 : k < l.length := by rw [Hlen.out]; exact hlt
        obtain ⟨b, o, rfl, hc⟩ := HS.out k hlt2
        have hc1 := HK.out.cell hc (fun h => by cases h)
        have HF : Hid ((l[k] < -1 ∨ 2147483646 < l[k]) → encL gen l = ([], 1)) := fun h => by
          have : farB l = true := by
            rw [farB, List.any_eq_true]
            exact ⟨l[k], List.getElem_mem hlt2, by simpa using h⟩
          rw [encL, if_pos (.inr this)]
        have HT : Hid (-1 ≤ l[k] ∧ l[k] ≤ 2147483646 → ∀ j, (hj : j < l.length) → j < k + 1 → -1 ≤ l[j] ∧ l[j] ≤ 2147483646) := fun h j hj hjk => by
          rcases Nat.lt_or_ge j k with h1 | h1
          · exact HJ.out j hj h1
          · obtain rfl : j = k := by omega
            exact h
        have HN := Lib.hid (numsTo_succ gen l k hlt2)
        clear hc
        generalize l[k] = n at *
        by_cases h1 : n < -1
        · have HE := Lib.hid (HF.out (.inl h1))
          go_wp2_with fail
          go_ret2
          rw [HE.out]
          exact ⟨rfl, HK.out⟩
        · by_cases h2 : 2147483646 < n
          · have HE := Lib.hid (HF.out (.inr h2))
            go_wp2_with fail
            go_ret2
            rw [HE.out]
            exact ⟨rfl, HK.out⟩
          · have HT2 := Lib.hid (HT.out ⟨by omega, by omega⟩)
            have hw1 : IntKind.i64.wrap (n - -1) = ((n + 1).toNat : Int) := by rw [IntWalk.i64_in _ (by omega)]; omega
            have hw2 : n - -1 = ((n + 1).toNat : Int) := by omega
            have hb : (n + 1).toNat ≤ 2147483647 := by omega
            clear h1 h2 HF HT
            have hsz := HK.out.size
            have hown := Hown.out
            obtain ⟨x, hx⟩ : ∃ x, (n + 1).toNat = x := ⟨_, rfl⟩
            obtain rfl : n = (x : Int) - 1 := by omega
            rw [hx] at HN hb
            clear hx hw1 hw2
            have hxb : x < 4294967296 := by omega
            have hw3 : IntKind.i64.wrap ((x : Int) - 1 - -1) = (x : Int) := by rw [IntWalk.i64_in _ (by omega)]; omega
            go_wp2_with (at_builtin; refine wpList_append_lies _ rfl (.tmp 29) (.tmp 33) _ rfl w.heap.size 36 i0 _ 1 8 Tryd.underlying37 hi0 hz0 hz1 hz2 rfl (by omega) _ _ _ rfl (hown.alloc _) ⟨wr.heap.size, 0, none⟩ 1 1 [uv x] rfl rfl (World.news_of_block (cs := #[uv x]) (t := 36) (fr := (0, 0)) (heap_alloc_new wr _)) (by simp [uv, Value.oneCell']) (by omega) (by simp only [maxLen]; omega) (by omega) (by simp; omega) _ rfl ?_; intro gg cap w2 hown2 hgrow hat hlt2)
            go_roundw
            case rel =>
              have hk2 : Kept (Value.slice Av (k + 1) cv).ownBlock.toList wr w2 := ((Kept.refl _ wr).alloc _).grown hgrow (fun x hx => .inl (by rw [Option.mem_toList]; exact hx))
              refine ⟨k + 1, _, _, by omega, by go_num, rfl, ?_, HK.out.trans' hk2 (fun x hx => .inr ((hown.lt x (by simpa using hx)).1)), HT2.out⟩
              rw [Hid, HN.out, List.map_append]
              simpa using hown2
            case measure => simp [intOf]; omega
      · obtain rfl : k = 13 := by omega
        go_wp2_with fail
        refine (page_sizes wr).mono ?_
        rintro e w2 ⟨b, rfl, hrd, k2⟩
        have hfar : farB l = false := by
          rw [farB, List.any_eq_false]
          intro n hn
          obtain ⟨j, hj, rfl⟩ := List.getElem_of_mem hn
          have := HJ.out j hj (by rw [← Hlen.out]; exact hj)
          simp
          omega
        have hnum : numsTo gen l 13 = numsOf gen l := by rw [numsTo, numsOf, List.take_of_length_le (by rw [Hlen.out]; exact Nat.le_refl _)]
        have hown := Hown.out
        rw [hnum] at hown
        have hnl : (numsOf gen l).length = 13 + 1 := by simp [numsOf, Hlen.out]
        have hR := rd_grow (Rd.of_own hown) k2
        rw [← hnl] at hR
        have hJoin := oct_Join w2 (some ⟨b, 0, none⟩) Av 14 cv fours (numsOf gen l) hrd hR (by decide) (by rw [hnl]; decide) (fun n hn => by have := nums_lt gen l hg hfar n hn; omega)
        have hjf := (join_fours (numsOf gen l) hnl (nums_lt gen l hg hfar))
        rw [hnl, hjf.1] at hJoin
        have HE : Hid (encL gen l = sealL (catL fours (numsOf gen l) 14) 64) := by
          rw [Hid, encL, if_neg (by rw [hfar]; simp [Hlen.out]), hjf.1]
        have HJo := Lib.hid hJoin
        have hcl := hjf.2
        clear hnum hown hnl hR hJoin hjf hfar hrd
        generalize catL fours (numsOf gen l) 14 = cat at *
        go_wp2_with fail
        refine HJo.out.mono ?_
        rintro e w3 ⟨rfl, k3⟩
        clear HJo
        go_wp2_with fail
        refine (crc_Seal cat 64 w3 (by omega)).mono ?_
        rintro e w4 ⟨rfl, k4⟩
        rw [← HE.out]
        go_wp2_with fail
        go_ret2
        exact ⟨rfl, ((HK.out.trans k2).trans k3).trans k4⟩
  · have H : Hid (encL gen l = ([], 1)) := by rw [Hid, encL, if_pos (.inl hlen)]
    have hne : ¬ ((l.length : Int) = 13) := by omega
    clear hlen
    go_enter Tryd.func7, Tryd.ntmps7
    go_wp2_with fail
    go_ret2
    rw [H.out]
    exact ⟨rfl, Kept.refl _ _⟩
end Go.Proofs.YtjnehijefdbpjaaDoor
