/- The program's disk, its walks (fourth part): Read. -/
import Derived.Test.YtdifolhkbkaamaaDiskC
namespace Go.Proofs.Ytdifolhkbkaamaa
open Go.RowKit

set_option maxRecDepth 10000 in
set_option maxHeartbeats 1000000 in
theorem disk_Read_loop (w : World) (g : Nat) (F : List Nat) (d : D) (h : PD w g F d) (at_ n : Nat) (hd : d.dead = false) (hth : thereE d.ss.length at_ n = 0) (hl : at_ + n ≤ d.ss.length) (hn : 0 < n) :
    Calls Try.prog 23 #[.pointer (some ⟨g, 0, none⟩), .int .i64 (at_ : Int), .int .i64 (n : Int)] w fun e w' => e = .returned (.tuple #[.string ⟨((over at_ n d.ps ((d.ss.drop at_).take n)).flatten).toArray⟩, .int .i64 0]) ∧ Kept [] w w' := by
  obtain ⟨vB, vP, fu, hx, hF⟩ := h
  have Hp : Hid (PD w g F d) := ⟨vB, vP, fu, hx, hF⟩
  have few := hx.ok.few
  obtain ⟨gb, c, hvB, hc⟩ := own_some hx.bytes (by omega)
  obtain ⟨B, cp, hvP, hcp⟩ := own_slice hx.pend
  have hB := hx.bytes
  rw [hvB] at hB
  obtain ⟨rest, hblk, hxl, hrest, hcm⟩ := own_blk hB
  obtain ⟨hs1, hs2, hs3⟩ := secs_mid hx.ok.s64 hl
  have hfl := flat_len d.ss hx.ok.s64
  have c0 := hx.blk.cell 0
  have c1 := hx.blk.cell 1
  have c3 := hx.blk.cell 3
  simp [hvB] at c0
  simp [hvP] at c1
  simp [hd] at c3
  have Hx := Lib.hid hx
  have HvB := Lib.hid hvB
  have HvP := Lib.hid hvP
  have Hblk := Lib.hid hblk
  have Hs1 := Lib.hid hs1
  have Hs2 := Lib.hid hs2
  have Hs3 := Lib.hid hs3
  have Hfl := Lib.hid hfl
  have hg := hx.blk.lt
  have hgb := hblk.lt
  have plen := own_max hx.pend
  unfold maxLen at plen
  have hne : ¬ c = at_ * 64 := by omega
  obtain ⟨i0, hi0, hz0, hz1, hz2⟩ := info_parts infoB
  clear hx hvB hvP hF hd hblk hxl hrest hs1 hs2 hs3 hfl hB
  go_enter Try.func23, Try.ntmps23
  go_wp2_with (first
    | (go_at_call 35; refine (disk_there _ _ _ _ Hp.out _ _).mono ?_; rintro e w' ⟨rfl, rfl⟩)
    | (at_make; refine wpList_make_full _ rfl (.tmp 28) (.tmp 28) 57 rfl 0 5 i0 _ 1 Try.underlying57 hi0 hz0 hz1 .i64 .i64 _ _ (n * 64) rfl rfl (by omega) (by omega) (by rw [hz2]; omega) (by simp only [maxLen]; omega) (by omega) ?_; intro w1 hown1 hgrow1; have hk1 := (Kept.refl [] w).grown hgrow1 (fun _ h => by cases h); have c10 := hk1.cell c0 (by simp); have c11 := hk1.cell c1 (by simp))
    | (refine wpList_copy_run (o := ⟨some 38, _, _, _, _, _⟩) rfl (.tmp 30) (.tmp 37) _ _ rfl _ _ rfl rfl _ (run_copy_sl w1 _ _ _ 5 Try.underlying57 (by kernel_rfl) _ _ _ _ _ _ w.heap.size 0 5 (List.replicate (n * 64) (.int .u8 0)) ?hb (((d.ss.drop at_).take n).flatten.map bv) (bv_one _) ?hln ?hsr (fun _ => ⟨gb, at_ * 64, by simp⟩) (fun _ => rfl) ?hft) ?_; rotate_right; rintro w2 ⟨hb2, hk2⟩; have c21 := hk2.cell c11 (by simp; omega); have Hb2 := Lib.hid hb2; clear hb2))
  case hb =>
    obtain ⟨r1, hb1, hl1, hr1, _⟩ := own_blk hown1
    obtain rfl : r1 = [] := List.eq_nil_of_length_eq_zero (by omega)
    simp only [Value.cells, toList_madeCells_one, List.append_nil, Nat.mul_one] at hb1
    exact hb1
  case hln => rw [List.length_map, Hs3.out, List.length_take, List.length_drop, Hfl.out]; omega
  case hsr =>
    intro b o e j v hv
    injection e with e
    injection e with e1 e2
    subst e1; subst e2
    refine hk1.cell ?_ (by simp)
    rw [Hblk.out.cell]
    rw [Hs3.out, List.map_take, List.map_drop, List.getElem?_take] at hv
    split at hv
    · rw [List.getElem?_drop] at hv
      have hlt := (List.getElem?_eq_some_iff.1 hv).1
      rw [← hv]
      simp only [List.getElem?_toArray]
      rw [List.getElem?_append_left hlt]
    · cases hv
  case hft => rw [List.length_map, Hs3.out, List.length_take, List.length_drop, Hfl.out, List.length_replicate]; omega
  clear hgrow1
  go_loopw [44] (fun i wr => ∃ (k : Nat) (out : List (List UInt8)), k ≤ d.ps.length ∧ i = .int .i64 k ∧ Hid (secs out n) ∧ Hid (over at_ n d.ps ((d.ss.drop at_).take n) = over at_ n (d.ps.drop k) out) ∧ Hid (Blk wr w.heap.size 5 (out.flatten.map bv).toArray) ∧ Kept [w.heap.size] w2 wr) (fun i _ => d.ps.length - (intOf i).toNat)
  case atStart =>
    refine ⟨0, (d.ss.drop at_).take n, by omega, rfl, ⟨Hs1.out, Hs2.out⟩, rfl, ?_, Kept.refl _ _⟩
    have h2 := Hb2.out
    have e : splice (List.replicate (n * 64) (Value.int .u8 0)) 0 (((d.ss.drop at_).take n).flatten.map bv) = ((d.ss.drop at_).take n).flatten.map bv := by
      unfold splice
      rw [List.drop_eq_nil_of_le (show (List.replicate (n * 64) (Value.int .u8 0)).length ≤ 0 + (((d.ss.drop at_).take n).flatten.map bv).length by rw [List.length_replicate, List.length_map, Hs3.out, List.length_take, List.length_drop, Hfl.out]; omega)]
      simp
    rw [e] at h2
    exact h2
  case round =>
    obtain ⟨k, out, hk, rfl, HS, HO, HB, hkr⟩ := hrel
    by_cases hlt : k < d.ps.length
    · have hPk := Hx.out.pend
      obtain ⟨gp, cp', hvp, _⟩ := own_some hPk (by omega)
      rw [hvp] at hPk
      have hat := own_at (f := pcells) (l := d.ps) hPk (fun _ => rfl) k 0 hlt (by decide) rfl
      have hdt := own_at (f := pcells) (l := d.ps) hPk (fun _ => rfl) k 1 hlt (by decide) rfl
      have hpat := Hx.out.ok.pat d.ps[k] (List.getElem_mem hlt)
      have hp64 := Hx.out.ok.p64 d.ps[k] (List.getElem_mem hlt)
      have hdr := List.drop_eq_getElem_cons hlt
      have hgp := own_lt hPk gp rfl
      clear hPk
      generalize hpk : d.ps[k] = p at *
      obtain ⟨pa, pd⟩ := p
      simp only at hpat hp64
      have HDR := Lib.hid hdr
      have H64 := Lib.hid hp64
      clear hdr hpk hp64
      rw [HvP.out] at hvp
      injection hvp with hB1 _ hB3
      subst hB1
      subst hB3
      have hkw := (hk1.trans' hk2 (fun x hx => .inr (by simp at hx; omega))).trans' hkr (fun x hx => .inr (by simp at hx; omega))
      have hat1 := hkw.cell hat (by simp)
      have hdt1 := hkw.cell hdt (by simp)
      simp at hat1
      clear hat hdt
      by_cases hin : at_ ≤ pa ∧ pa < at_ + n
      · obtain ⟨q, rfl⟩ : ∃ q, pa = at_ + q := ⟨pa - at_, by omega⟩
        have hqn : q < n := by omega
        have HN : Hid (over at_ n d.ps ((d.ss.drop at_).take n) = over at_ n (d.ps.drop (k + 1)) (out.set q pd)) := by
          rw [Hid, HO.out, HDR.out, over, if_pos hin, show at_ + q - at_ = q by omega]
        clear hin
        have hbW : Blk (wr.alloc (.cells #[.int .i64 ((at_ + q : Nat) : Int), .string ⟨pd.toArray⟩] 78)).drew w.heap.size 5 (out.flatten.map bv).toArray := HB.out.alloc _
        have HbW := Lib.hid hbW
        clear hbW
        have q1 : IntKind.i64.wrap ((at_ : Int) + (q : Int) - (at_ : Int)) = (q : Int) := by rw [show (at_ : Int) + (q : Int) - (at_ : Int) = q by omega]; exact IntWalk.i64_in _ (by omega)
        have q2 : IntKind.i64.wrap ((q : Int) * 64) = (q : Int) * 64 := IntWalk.i64_in _ (by omega)
        have q3 : q ≤ n := by omega
        have q4 : ((q : Int) * 64).toNat = q * 64 := by omega
        have q5 : 0 ≤ (q : Int) * 64 := by omega
        have q6 : ¬ n * 64 = q * 64 := by omega
        go_wp2
        refine still_tail 9 mixed (by kernel_rfl) ?_
        simp only [List.take_succ_cons, List.take_zero, List.drop_succ_cons, List.drop_zero]
        iterate 9 still_step
        refine wpStill_nil ?_
        refine wpList_copy_run rfl (.tmp 66) (.tmp 68) _ _ rfl _ _ rfl rfl _ (run_copy_str _ _ _ _ 5 Try.underlying57 (by kernel_rfl) _ _ _ _ w.heap.size (q * 64) 5 (out.flatten.map bv) HbW.out pd ?hcs (fun _ => rfl) ?hft2) ?_
        case hcs => rw [List.take_of_length_le]; rw [H64.out]; omega
        case hft2 => rw [H64.out, List.length_map, flat_len _ HS.out.2, HS.out.1]; omega
        rintro w3 ⟨hb3, hk3⟩
        have Hb3 := Lib.hid hb3
        clear hb3
        go_wp2
        go_roundw
        case rel =>
          refine ⟨k + 1, out.set q pd, by omega, by go_num, secs_set HS.out H64.out, HN.out, ?_, ?_⟩
          · have e : splice (out.flatten.map bv) (q * 64) (pd.map bv) = (out.set q pd).flatten.map bv := by
              rw [flat_set _ _ _ HS.out.2 (by rw [HS.out.1]; exact hqn)]
              simp [splice, H64.out]
            have := Hb3.out
            rw [e] at this
            exact this
          · exact hkr.trans (((Kept.refl _ wr).alloc _).drew.trans hk3)
        case measure => simp [intOf]; omega
      · have HN : Hid (over at_ n d.ps ((d.ss.drop at_).take n) = over at_ n (d.ps.drop (k + 1)) out) := by
          rw [Hid, HO.out, HDR.out, over, if_neg hin]
        by_cases h1 : at_ ≤ pa
        · have h2 : ¬ pa < at_ + n := fun h2 => hin ⟨h1, h2⟩
          clear hin
          go_wp2
          go_roundw
          case rel => exact ⟨k + 1, out, by omega, by go_num, HS.out, HN.out, HB.out.alloc _, hkr.alloc _⟩
          case measure => simp [intOf]; omega
        · clear hin
          go_wp2
          go_roundw
          case rel => exact ⟨k + 1, out, by omega, by go_num, HS.out, HN.out, HB.out.alloc _, hkr.alloc _⟩
          case measure => simp [intOf]; omega
    · have HN : Hid (over at_ n d.ps ((d.ss.drop at_).take n) = out) := by
        rw [Hid, HO.out, List.drop_eq_nil_of_le (by omega), over]
      have hcv := conv_bytes (P := Try.prog) (w := wr) (B := w.heap.size + 1) (n := n * 64) (c := n * 64) (A := some ⟨w.heap.size, 0, none⟩) (l := out.flatten) 57 5 Try.underlying57 Try.underlying5 ⟨by rw [List.length_map, flat_len _ HS.out.2, HS.out.1]; omega, fun _ => ⟨_, 0, rfl, by omega, fun j u hu => by rw [HB.out.cell]; simpa using hu⟩⟩ (fun _ => .inr ⟨_, _, rfl⟩)
      go_wp2
      go_ret2
      rw [HN.out]
      exact ⟨rfl, (hk1.trans' hk2 (fun x hx => .inr (by simp at hx; omega))).trans' hkr (fun x hx => .inr (by simp at hx; omega))⟩

theorem over_nil (at_ : Nat) : ∀ (ps : List (Nat × List UInt8)), over at_ 0 ps [] = []
  | [] => rfl
  | p :: ps => by rw [over, if_neg (by omega)]; exact over_nil at_ ps

end Go.Proofs.Ytdifolhkbkaamaa
