/- The document's octet: numbers' bytes, and what a reading of numbers tells. -/
import Derived.Test.YtcjdkanmbafjmaaDoorOctN
import Derived.Test.YtcjdkanmbafjmaaDoorRefZ
import Derived.Deep.RegionHeld3
namespace Go.Proofs.YtcjdkanmbafjmaaDoor
open Go.RowKit

theorem hold_two {w W W' : World} {a b : Addr} {u v : Value} (h : Hid (Kept [] w W) ∧ W.cell? a = some u ∧ W.cell? b = some v) (k : Kept [] W W') : Hid (Kept [] w W') ∧ W'.cell? a = some u ∧ W'.cell? b = some v :=
  ⟨Lib.hid (h.1.out.trans k), k.cell h.2.1 (fun h => by cases h), k.cell h.2.2 (fun h => by cases h)⟩

set_option maxRecDepth 4000 in
set_option maxHeartbeats 2000000 in
theorem ref_Join (w : World) (A B : Option Addr) (c d : Nat) (zs : List Int) (l : List Nat) (hA : Rd w w.heap.size 1 A zs.length (zs.map iv)) (hB : Rd w w.heap.size 1 B l.length (l.map uv)) (hn : zs.length ≤ 1000) (hm : l.length ≤ 1000) (h64 : ∀ n ∈ l, n < 18446744073709551616) :
    Calls Tryd.prog 34 #[.slice A zs.length c, .slice B l.length d] w fun e w' => e = .returned (.tuple #[.string ⟨(joinL zs l).1.toArray⟩, .int .i64 (joinL zs l).2]) ∧ Kept [] w w' := by
  have HS : Hid (∀ k, (hk : k < zs.length) → ∃ b o, A = some ⟨b, o, none⟩ ∧ w.cell? ⟨b, o + k, none⟩ = some (.int .i64 zs[k])) := fun k hk => by
    obtain ⟨b, o, e, hb, hc⟩ := hA.2 (by omega)
    exact ⟨b, o, e, hc k (iv zs[k]) (by simp [hk])⟩
  have HT : Hid (∀ k, (hk : k < l.length) → ∃ b o, B = some ⟨b, o, none⟩ ∧ w.cell? ⟨b, o + k, none⟩ = some (.int .u64 (l[k] : Int))) := fun k hk => by
    obtain ⟨b, o, e, hb, hc⟩ := hB.2 (by omega)
    exact ⟨b, o, e, hc k (uv l[k]) (by simp [hk])⟩
  have H64 := Lib.hid h64
  clear hA hB h64
  by_cases hlen : zs.length = l.length
  · have Hlen := Lib.hid hlen
    rw [hlen]
    clear hlen
    go_enter Tryd.func34, Tryd.ntmps34
    go_wp2_with fail
    go_loop [6] (fun i => ∃ k : Nat, k ≤ l.length ∧ i = .int .i64 k ∧ Hid (∀ j, (hj : j < zs.length) → j < k → sizeB zs[j] = true)) (fun i => l.length - (intOf i).toNat)
    case atStart => exact ⟨0, Nat.zero_le _, rfl, fun j _ hj => absurd hj (Nat.not_lt_zero _)⟩
    case round =>
      obtain ⟨k, hk, rfl, HJ⟩ := hrel
      by_cases hlt : k < l.length
      · have hlt2 : k < zs.length := by rw [Hlen.out]; exact hlt
        obtain ⟨b, o, rfl, hc⟩ := HS.out k hlt2
        have HB : Hid (sizeB zs[k] = false → joinL zs l = ([], 1)) := fun hb => by
          have : badB zs = true := by
            rw [badB, List.any_eq_true]
            exact ⟨zs[k], List.getElem_mem hlt2, by rw [hb]; rfl⟩
          rw [joinL, if_pos (.inr this)]
        have HT2 : Hid (sizeB zs[k] = true → ∀ j, (hj : j < zs.length) → j < k + 1 → sizeB zs[j] = true) := fun hb j hj hjk => by
          rcases Nat.lt_or_ge j k with h1 | h1
          · exact HJ.out j hj h1
          · obtain rfl : j = k := by omega
            exact hb
        generalize zs[k] = z at *
        by_cases h0 : z < 0
        · have HL := Lib.hid (HB.out (by simp [sizeB]; omega))
          go_wp2_with fail
          go_ret2
          rw [HL.out]
          exact ⟨rfl, Kept.refl _ _⟩
        · by_cases h8 : 8 < z
          · have HL := Lib.hid (HB.out (by simp [sizeB]; omega))
            go_wp2_with fail
            go_ret2
            rw [HL.out]
            exact ⟨rfl, Kept.refl _ _⟩
          · have HT3 := Lib.hid (HT2.out (by simp [sizeB]; omega))
            go_wp2_with fail
            go_round
            case rel => exact ⟨k + 1, by omega, by go_num, HT3.out⟩
            case measure => simp [intOf]; omega
      · obtain rfl : k = l.length := by omega
        have hbad : badB zs = false := by
          rw [badB, List.any_eq_false]
          intro z hz
          obtain ⟨j, hj, rfl⟩ := List.getElem_of_mem hz
          rw [HJ.out j hj (by rw [← Hlen.out]; exact hj)]; simp
        have Hbad := Lib.hid hbad
        clear hbad
        go_wp2_with fail
        go_loopw [7, 8] (fun sv i W => ∃ k : Nat, k ≤ l.length ∧ i = .int .i64 k ∧ sv = .string ⟨(catL zs l k).toArray⟩ ∧ Hid (Kept [] w W) ∧ Hid (∀ j, j < k → (putAt zs l j).2 = 0)) (fun _ i _ => l.length - (intOf i).toNat)
        case atStart => exact ⟨0, Nat.zero_le _, rfl, rfl, Kept.refl _ _, fun j hj => absurd hj (Nat.not_lt_zero _)⟩
        case round =>
          obtain ⟨k, hk, rfl, rfl, HK, HJ2⟩ := hrel
          by_cases hlt : k < l.length
          · have hlt2 : k < zs.length := by rw [Hlen.out]; exact hlt
            obtain ⟨b, o, rfl, hc⟩ := HS.out k hlt2
            obtain ⟨b', o', rfl, hc'⟩ := HT.out k hlt
            have hc1 := HK.out.cell hc (fun h => by cases h)
            have hc2 := HK.out.cell hc' (fun h => by cases h)
            have HP := Lib.hid (putAt_eq zs l k hlt2 hlt)
            have hl64 := H64.out _ (List.getElem_mem hlt)
            have hz := good_of zs Hbad.out _ (List.getElem_mem hlt2)
            have Herr := Lib.hid (putL_err l[k] zs[k] hz)
            have Hno := Lib.hid (join_no zs l k Hlen.out Hbad.out hlt)
            have HC := Lib.hid (catL_succ zs l k)
            have hcl := catL_len zs l k
            have hpl := putL_len l[k] zs[k]
            rw [HP.out] at Hno HC
            clear hc hc' hz
            generalize l[k] = n at *
            generalize zs[k] = z at *
            have HK2 := HK
            have hput := fun W => ref_Put n z W hl64
            have HJ3 : Hid ((putL n z).2 = 0 → ∀ j, j < k + 1 → (putAt zs l j).2 = 0) := fun h0 j hj => by
              rcases Nat.lt_or_ge j k with h1 | h1
              · exact HJ2.out j h1
              · obtain rfl : j = k := by omega
                rw [HP.out]; exact h0
            generalize (putL n z).1 = p at *
            generalize (putL n z).2 = q at *
            generalize catL zs l k = C at *
            have happ := app_arr2 C p
            go_wp2_with fail
            go_region_held3 (fun W => Hid (Kept [] w W) ∧ W.cell? ⟨b, o + k, none⟩ = some (.int .i64 z) ∧ W.cell? ⟨b', o' + k, none⟩ = some (.int .u64 (n : Int))) (first | exact hold_two ⟨Lib.hid HK2.out, hc1, hc2⟩ (Kept.refl [] _).drew | exact hold_two (by assumption) k1 | assumption) (first | (go_at_call 47; refine (hput _).mono ?_; rintro e w1 ⟨rfl, k1⟩))
            rename_i hheld
            have HK3 := hheld.1
            clear hheld
            by_cases h0 : q = 0
            · subst h0
              have HJ4 := Lib.hid (HJ3.out rfl)
              clear HJ3 Herr Hno
              go_wp2_with fail
              go_roundw
              case rel =>
                refine ⟨k + 1, by omega, by go_num, ?_, HK3, HJ4.out⟩
                rw [HC.out]
              case measure => simp [intOf]; omega
            · have he := Herr.out h0
              have Hj : Hid (joinL zs l = ([], 2)) := Hno.out h0
              subst he
              clear h0
              go_wp2_with fail
              go_ret2
              rw [Hj.out]
              exact ⟨rfl, HK3.out⟩
          · obtain rfl : k = l.length := by omega
            have Hy := Lib.hid (join_yes zs l Hlen.out Hbad.out HJ2.out)
            go_wp2_with fail
            go_ret2
            rw [Hy.out]
            exact ⟨rfl, HK.out⟩
  · have H : Hid (joinL zs l = ([], 1)) := by rw [Hid, joinL, if_pos (.inl hlen)]
    have hne : ¬ ((zs.length : Int) = (l.length : Int)) := by omega
    go_enter Tryd.func34, Tryd.ntmps34
    go_wp2_with fail
    go_ret2
    rw [H.out]
    exact ⟨rfl, Kept.refl _ _⟩

set_option maxRecDepth 4000 in
set_option maxHeartbeats 1000000 in
theorem ref_Get (w : World) (s : List UInt8) (A : Option Addr) (c : Nat) (zs : List Int) (h : Rd w w.heap.size 1 A zs.length (zs.map iv)) (hn : zs.length ≤ 1000000) (_hs : s.length ≤ 140737488351232) :
    Calls Tryd.prog 41 #[.string ⟨s.toArray⟩, .slice A zs.length c] w (GetPost w s zs) := by
  have HS : Hid (∀ k, (hk : k < zs.length) → ∃ b o, A = some ⟨b, o, none⟩ ∧ w.cell? ⟨b, o + k, none⟩ = some (.int .i64 zs[k])) := fun k hk => by
    obtain ⟨b, o, e, hb, hc⟩ := h.2 (by omega)
    exact ⟨b, o, e, hc k (iv zs[k]) (by simp [hk])⟩
  clear h
  obtain ⟨i0, hi0, hz0, hz1, hz2⟩ := info_parts info64
  go_enter Tryd.func41, Tryd.ntmps41
  go_wp2_with fail
  go_loop [7] (fun i => ∃ k : Nat, k ≤ zs.length ∧ i = .int .i64 k ∧ Hid (∀ j, (hj : j < zs.length) → j < k → sizeB zs[j] = true)) (fun i => zs.length - (intOf i).toNat)
  case atStart => exact ⟨0, Nat.zero_le _, rfl, fun j _ hj => absurd hj (Nat.not_lt_zero _)⟩
  case round =>
    obtain ⟨k, hk, rfl, HJ⟩ := hrel
    by_cases hlt : k < zs.length
    · obtain ⟨b, o, rfl, hc⟩ := HS.out k hlt
      have HB : Hid (sizeB zs[k] = false → getL s zs = ([], [], 1)) := fun hb => by
        have : badB zs = true := by
          rw [badB, List.any_eq_true]
          exact ⟨zs[k], List.getElem_mem hlt, by rw [hb]; rfl⟩
        rw [getL, if_pos this]
      have HT : Hid (sizeB zs[k] = true → ∀ j, (hj : j < zs.length) → j < k + 1 → sizeB zs[j] = true) := fun hb j hj hjk => by
        rcases Nat.lt_or_ge j k with h1 | h1
        · exact HJ.out j hj h1
        · obtain rfl : j = k := by omega
          exact hb
      generalize zs[k] = z at *
      by_cases h0 : z < 0
      · have HL := Lib.hid (HB.out (by simp [sizeB]; omega))
        go_wp2_with fail
        go_ret3
        refine ⟨none, 0, ?_, Kept.refl _ _, ?_⟩
        · rw [HL.out]; rfl
        · rw [HL.out]; exact World.ownsRow_nil _ _ _ _
      · by_cases h8 : 8 < z
        · have HL := Lib.hid (HB.out (by simp [sizeB]; omega))
          go_wp2_with fail
          go_ret3
          refine ⟨none, 0, ?_, Kept.refl _ _, ?_⟩
          · rw [HL.out]; rfl
          · rw [HL.out]; exact World.ownsRow_nil _ _ _ _
        · have HT2 := Lib.hid (HT.out (by simp [sizeB]; omega))
          go_wp2_with fail
          go_round
          case rel => exact ⟨k + 1, by omega, by go_num, HT2.out⟩
          case measure => simp [intOf]; omega
    · obtain rfl : k = zs.length := by omega
      have hbad : badB zs = false := by
        rw [badB, List.any_eq_false]
        intro z hz
        obtain ⟨j, hj, rfl⟩ := List.getElem_of_mem hz
        rw [HJ.out j hj hj]; simp
      have Hg := Lib.hid (good_of zs hbad)
      have HL : Hid (getL s zs = if offN (natZ zs) zs.length ≤ s.length then (numsK s (natZ zs) zs.length, s.drop (offN (natZ zs) zs.length), 0) else ([], [], 21)) := by
        rw [Hid, getL, if_neg (by rw [hbad]; simp)]
      clear hbad
      go_wp2_with fail
      go_loopw [0, 8, 9] (fun sv v i W => ∃ (k : Nat) (Av : Option Addr) (cv : Nat), k ≤ zs.length ∧ i = .int .i64 k ∧ v = .slice Av k cv ∧ sv = .string ⟨(s.drop (offN (natZ zs) k)).toArray⟩ ∧ Hid (offN (natZ zs) k ≤ s.length) ∧ Hid (W.ownsRow w.heap.size 38 1 (.slice Av k cv) k ((numsK s (natZ zs) k).map uv)) ∧ Hid (Kept [] w W)) (fun _ _ i _ => zs.length - (intOf i).toNat)
      case atStart => exact ⟨0, none, 0, Nat.zero_le _, rfl, rfl, by simp [offN], Nat.zero_le _, World.ownsRow_nil _ _ _ _, Kept.refl _ _⟩
      case round =>
        obtain ⟨k, Av, cv, hk, rfl, rfl, rfl, HO, Hown, HK⟩ := hrel
        by_cases hlt : k < zs.length
        · obtain ⟨b, o, rfl, hc⟩ := HS.out k hlt
          have hc2 := HK.out.cell hc (fun h => by cases h)
          have hz8 := Hg.out _ (List.getElem_mem hlt)
          have hnl : k < (natZ zs).length := by simpa [natZ] using hlt
          have hnz : (natZ zs)[k] = zs[k].toNat := by simp [natZ]
          have HE := Lib.hid (offN_succ (natZ zs) k hnl)
          have HN := Lib.hid (numsK_succ s (natZ zs) k hnl)
          rw [hnz] at HE HN
          obtain ⟨z, hz⟩ : ∃ z : Nat, zs[k] = (z : Int) := ⟨zs[k].toNat, by omega⟩
          rw [hz] at HE HN hc2 hz8
          rw [Int.toNat_natCast] at HE HN
          have Hd : Hid ((s.drop (offN (natZ zs) k)).drop z = s.drop (offN (natZ zs) (k + 1))) := by rw [Hid, List.drop_drop, HE.out]
          have hle := HO.out
          have HM := Lib.hid (offN_le (natZ zs) (k + 1) (zs.length - (k + 1)))
          have hdl : Hid ((s.drop (offN (natZ zs) k)).length = s.length - offN (natZ zs) k) := by simp [Hid]
          have hz8' : z ≤ 8 := by omega
          have HcW := Lib.hid hc
          rw [hz] at HcW
          clear hc hnz hz hnl hz8
          by_cases hfit : z ≤ s.length - offN (natZ zs) k
          · generalize hD : s.drop (offN (natZ zs) k) = D at *
            have x1 : (⟨D.toArray⟩ : ByteArray).extract 0 z = ⟨(D.take z).toArray⟩ := by rw [extract_list2]; simp
            have x2 : (⟨D.toArray⟩ : ByteArray).extract z D.length = ⟨(D.drop z).toArray⟩ := by rw [extract_list2, List.take_of_length_le]; simp
            have hzl : (z : Int) ≤ (D.length : Int) := by have := hdl.out; omega
            have hnlt : ((D.length : Int) < (z : Int)) = False := by simp; omega
            go_wp2_with fail
            refine (ref_Number wr (D.take z) (by simp; omega)).mono ?_
            rintro e w1 ⟨rfl, rfl⟩
            have hsz := HK.out.size
            have hown := Hown.out
            generalize numN (D.take z) = nu at *
            go_wp2_with (at_builtin; refine wpList_append_lies _ rfl (.tmp 41) (.tmp 49) _ rfl w.heap.size 38 i0 _ 1 8 Tryd.underlying41 hi0 hz0 hz1 hz2 rfl (by omega) _ _ _ rfl (hown.alloc _) ⟨wr.heap.size, 0, none⟩ 1 1 [uv nu] rfl rfl (World.news_of_block (cs := #[uv nu]) (t := 38) (fr := (0, 0)) (heap_alloc_new wr _)) (by simp [uv, Value.oneCell']) (by omega) (by simp only [maxLen]; omega) (by omega) (by simp; omega) _ rfl ?_; intro gg cap w2 hown2 hgrow hat hlt2; have hk2 : Kept (Value.slice Av k cv).ownBlock.toList wr w2 := ((Kept.refl _ wr).alloc _).grown hgrow (fun x hx => .inl (by rw [Option.mem_toList]; exact hx)); have hk3 : Kept [] w w2 := HK.out.trans' hk2 (fun x hx => .inr ((hown.lt x (by simpa using hx)).1)); have hc3 := hk3.cell (HcW.out) (fun h => by cases h))
            go_roundw
            case rel =>
              refine ⟨k + 1, _, _, by omega, by go_num, rfl, ?_, ?_, ?_, Lib.hid hk3⟩
              · rw [← Hd.out]
              · rw [Hid, HE.out]; omega
              · rw [Hid, HN.out, List.map_append]
                simpa using hown2
            case measure => simp [intOf]; omega
          · have hno : Hid (¬ offN (natZ zs) zs.length ≤ s.length) := by
              have h1 := HM.out
              rw [show k + 1 + (zs.length - (k + 1)) = zs.length by omega, HE.out] at h1
              rw [Hid]; omega
            generalize hD : s.drop (offN (natZ zs) k) = D at *
            have hnlt : ((D.length : Int) < (z : Int)) = True := by have := hdl.out; simp; omega
            go_wp2_with fail
            go_ret3
            refine ⟨none, 0, ?_, HK.out, ?_⟩
            · rw [HL.out, if_neg hno.out]; rfl
            · rw [HL.out, if_neg hno.out]; exact World.ownsRow_nil _ _ _ _
        · obtain rfl : k = zs.length := by omega
          go_wp2_with fail
          go_ret3
          have hl : (numsK s (natZ zs) zs.length).length = zs.length := numsK_len _ _ _
          refine ⟨Av, cv, ?_, HK.out, ?_⟩
          · rw [HL.out, if_pos HO.out]
            simp only [hl]
            rfl
          · rw [HL.out, if_pos HO.out]
            simp only [hl]
            exact Hown.out
end Go.Proofs.YtcjdkanmbafjmaaDoor
