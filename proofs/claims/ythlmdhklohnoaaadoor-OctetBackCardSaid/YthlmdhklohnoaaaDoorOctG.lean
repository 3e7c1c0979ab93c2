/- The document's octet: what a reading of numbers tells. -/
import Derived.Test.YthlmdhklohnoaaaDoorOctF
namespace Go.Proofs.YthlmdhklohnoaaaDoor
open Go.RowKit

set_option maxRecDepth 4000 in
set_option maxHeartbeats 1000000 in
theorem ref_Get (w : World) (s : List UInt8) (A : Option Addr) (c : Nat) (zs : List Int) (h : Rd w w.heap.size 1 A zs.length (zs.map iv)) (hn : zs.length ≤ 1000000) (_hs : s.length ≤ 140737488351232) :
    Calls Tryd.prog 9 #[.string ⟨s.toArray⟩, .slice A zs.length c] w (GetPost w s zs) := by
  have HS : Hid (∀ k, (hk : k < zs.length) → ∃ b o, A = some ⟨b, o, none⟩ ∧ w.cell? ⟨b, o + k, none⟩ = some (.int .i64 zs[k])) := fun k hk => by
    obtain ⟨b, o, e, hb, hc⟩ := h.2 (by omega)
    exact ⟨b, o, e, hc k (iv zs[k]) (by simp [hk])⟩
  clear h
  obtain ⟨i0, hi0, hz0, hz1, hz2⟩ := info_parts info64
  go_enter Tryd.func9, Tryd.ntmps9
  go_wp2_with fail
  go_loop [7] (fun i => ∃ k : Nat, k ≤ zs.length ∧ i = .int .i64 k ∧ Hid (∀ j, (hj : j < zs.length) → j < k → sizeB zs[j] = true)) (fun i => zs.length - (intOf i).toNat)
  case atStart => exact ⟨0, Nat.zero_le _, rfl, fun j _ hj => absurd hj (Nat.not_lt_zero _)⟩
  case round =>
    obtain ⟨k, hk, rfl, HJ⟩ := hrel
    by_cases hlt : k < zs.length
    · obtain ⟨b, o, rfl, hc⟩ := HS.out k hlt
      have HB : Hid (sizeB zs[k] = false → getL s zs = ([], [], 1)) := fun hb => by
        have : badB zs = true := by
          rw [badB, List.any_eq_true]
          exact ⟨zs[k], List.getElem_mem hlt, by rw [hb]; rfl⟩
        rw [getL, if_pos this]
      have HT : Hid (sizeB zs[k] = true → ∀ j, (hj : j < zs.length) → j < k + 1 → sizeB zs[j] = true) := fun hb j hj hjk => by
        rcases Nat.lt_or_ge j k with h1 | h1
        · exact HJ.out j hj h1
        · obtain rfl : j = k := by omega
          exact hb
      generalize zs[k] = z at *
      by_cases h0 : z < 0
      · have HL := Lib.hid (HB.out (by simp [sizeB]; omega))
        go_wp2_with fail
        go_ret3
        refine ⟨none, 0, ?_, Kept.refl _ _, ?_⟩
        · rw [HL.out]; rfl
        · rw [HL.out]; exact World.ownsRow_nil _ _ _ _
      · by_cases h8 : 8 < z
        · have HL := Lib.hid (HB.out (by simp [sizeB]; omega))
          go_wp2_with fail
          go_ret3
          refine ⟨none, 0, ?_, Kept.refl _ _, ?_⟩
          · rw [HL.out]; rfl
          · rw [HL.out]; exact World.ownsRow_nil _ _ _ _
        · have HT2 := Lib.hid (HT.out (by simp [sizeB]; omega))
          go_wp2_with fail
          go_round
          case rel => exact ⟨k + 1, by omega, by go_num, HT2.out⟩
          case measure => simp [intOf]; omega
    · obtain rfl : k = zs.length := by omega
      have hbad : badB zs = false := by
        rw [badB, List.any_eq_false]
        intro z hz
        obtain ⟨j, hj, rfl⟩ := List.getElem_of_mem hz
        rw [HJ.out j hj hj]; simp
      have Hg := Lib.hid (good_of zs hbad)
      have HL : Hid (getL s zs = if offN (natZ zs) zs.length ≤ s.length then (numsK s (natZ zs) zs.length, s.drop (offN (natZ zs) zs.length), 0) else ([], [], 21)) := by
        rw [Hid, getL, if_neg (by rw [hbad]; simp)]
      clear hbad
      go_wp2_with fail
      go_loopw [0, 8, 9] (fun sv v i W => ∃ (k : Nat) (Av : Option Addr) (cv : Nat), k ≤ zs.length ∧ i = .int .i64 k ∧ v = .slice Av k cv ∧ sv = .string ⟨(s.drop (offN (natZ zs) k)).toArray⟩ ∧ Hid (offN (natZ zs) k ≤ s.length) ∧ Hid (W.ownsRow w.heap.size 31 1 (.slice Av k cv) k ((numsK s (natZ zs) k).map uv)) ∧ Hid (Kept [] w W)) (fun _ _ i _ => zs.length - (intOf i).toNat)
      case atStart => exact ⟨0, none, 0, Nat.zero_le _, rfl, rfl, by simp [offN], Nat.zero_le _, World.ownsRow_nil _ _ _ _, Kept.refl _ _⟩
      case round =>
        obtain ⟨k, Av, cv, hk, rfl, rfl, rfl, HO, Hown, HK⟩ := hrel
        by_cases hlt : k < zs.length
        · obtain ⟨b, o, rfl, hc⟩ := HS.out k hlt
          have hc2 := HK.out.cell hc (fun h => by cases h)
          have hz8 := Hg.out _ (List.getElem_mem hlt)
          have hnl : k < (natZ zs).length := by simpa [natZ] using hlt
          have hnz : (natZ zs)[k] = zs[k].toNat := by simp [natZ]
          have HE := Lib.hid (offN_succ (natZ zs) k hnl)
          have HN := Lib.hid (numsK_succ s (natZ zs) k hnl)
          rw [hnz] at HE HN
          obtain ⟨z, hz⟩ : ∃ z : Nat, zs[k] = (z : Int) := ⟨zs[k].toNat, by omega⟩
          rw [hz] at HE HN hc2 hz8
          rw [Int.toNat_natCast] at HE HN
          have Hd : Hid ((s.drop (offN (natZ zs) k)).drop z = s.drop (offN (natZ zs) (k + 1))) := by rw [Hid, List.drop_drop, HE.out]
          have hle := HO.out
          have HM := Lib.hid (offN_le (natZ zs) (k + 1) (zs.length - (k + 1)))
          have hdl : Hid ((s.drop (offN (natZ zs) k)).length = s.length - offN (natZ zs) k) := by simp [Hid]
          have hz8' : z ≤ 8 := by omega
          have HcW := Lib.hid hc
          rw [hz] at HcW
          clear hc hnz hz hnl hz8
          by_cases hfit : z ≤ s.length - offN (natZ zs) k
          · generalize hD : s.drop (offN (natZ zs) k) = D at *
            have x1 : (⟨D.toArray⟩ : ByteArray).extract 0 z = ⟨(D.take z).toArray⟩ := by rw [extract_list2]; simp
            have x2 : (⟨D.toArray⟩ : ByteArray).extract z D.length = ⟨(D.drop z).toArray⟩ := by rw [extract_list2, List.take_of_length_le]; simp
            have hzl : (z : Int) ≤ (D.length : Int) := by have := hdl.out; omega
            have hnlt : ((D.length : Int) < (z : Int)) = False := by simp; omega
            go_wp2_with fail
            refine (ref_Number wr (D.take z) (by simp; omega)).mono ?_
            rintro e w1 ⟨rfl, rfl⟩
            have hsz := HK.out.size
            have hown := Hown.out
            generalize numN (D.take z) = nu at *
            go_wp2_with (at_builtin; refine wpList_append_lies _ rfl (.tmp 41) (.tmp 49) _ rfl w.heap.size 31 i0 _ 1 8 Tryd.underlying24 hi0 hz0 hz1 hz2 rfl (by omega) _ _ _ rfl (hown.alloc _) ⟨wr.heap.size, 0, none⟩ 1 1 [uv nu] rfl rfl (World.news_of_block (cs := #[uv nu]) (t := 31) (fr := (0, 0)) (heap_alloc_new wr _)) (by simp [uv, Value.oneCell']) (by omega) (by simp only [maxLen]; omega) (by omega) (by simp; omega) _ rfl ?_; intro gg cap w2 hown2 hgrow hat hlt2; have hk2 : Kept (Value.slice Av k cv).ownBlock.toList wr w2 := ((Kept.refl _ wr).alloc _).grown hgrow (fun x hx => .inl (by rw [Option.mem_toList]; exact hx)); have hk3 : Kept [] w w2 := HK.out.trans' hk2 (fun x hx => .inr ((hown.lt x (by simpa using hx)).1)); have hc3 := hk3.cell (HcW.out) (fun h => by cases h))
            go_roundw
            case rel =>
              refine ⟨k + 1, _, _, by omega, by go_num, rfl, ?_, ?_, ?_, Lib.hid hk3⟩
              · rw [← Hd.out]
              · rw [Hid, HE.out]; omega
              · rw [Hid, HN.out, List.map_append]
                simpa using hown2
            case measure => simp [intOf]; omega
          · have hno : Hid (¬ offN (natZ zs) zs.length ≤ s.length) := by
              have h1 := HM.out
              rw [show k + 1 + (zs.length - (k + 1)) = zs.length by omega, HE.out] at h1
              rw [Hid]; omega
            generalize hD : s.drop (offN (natZ zs) k) = D at *
            have hnlt : ((D.length : Int) < (z : Int)) = True := by have := hdl.out; simp; omega
            go_wp2_with fail
            go_ret3
            refine ⟨none, 0, ?_, HK.out, ?_⟩
            · rw [HL.out, if_neg hno.out]; rfl
            · rw [HL.out, if_neg hno.out]; exact World.ownsRow_nil _ _ _ _
        · obtain rfl : k = zs.length := by omega
          go_wp2_with fail
          go_ret3
          have hl : (numsK s (natZ zs) zs.length).length = zs.length := numsK_len _ _ _
          refine ⟨Av, cv, ?_, HK.out, ?_⟩
          · rw [HL.out, if_pos HO.out]
            simp only [hl]
            rfl
          · rw [HL.out, if_pos HO.out]
            simp only [hl]
            exact Hown.out
end Go.Proofs.YthlmdhklohnoaaaDoor
