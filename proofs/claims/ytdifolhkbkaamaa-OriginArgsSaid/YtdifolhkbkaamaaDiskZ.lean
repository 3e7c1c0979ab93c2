/- The program's disk, its walks (fifth part): Read of no sectors. -/
import Derived.Test.YtdifolhkbkaamaaDiskR
namespace Go.Proofs.Ytdifolhkbkaamaa
open Go.RowKit

set_option maxRecDepth 10000 in
set_option maxHeartbeats 3000000 in
theorem disk_Read_zero (w : World) (g : Nat) (F : List Nat) (d : D) (h : PD w g F d) (at_ n : Nat) (hd : d.dead = false) (hth : thereE d.ss.length at_ n = 0) (hl : at_ + n ≤ d.ss.length) (hn : n = 0) :
    Calls Try.prog 23 #[.pointer (some ⟨g, 0, none⟩), .int .i64 (at_ : Int), .int .i64 (n : Int)] w fun e w' => e = .returned (.tuple #[.string ⟨((over at_ n d.ps ((d.ss.drop at_).take n)).flatten).toArray⟩, .int .i64 0]) ∧ Kept [] w w' := by
  obtain ⟨vB, vP, fu, hx, hF⟩ := h
  have Hp : Hid (PD w g F d) := ⟨vB, vP, fu, hx, hF⟩
  have few := hx.ok.few
  obtain ⟨A, c, hvB, hc⟩ := own_slice hx.bytes
  have Hn := Lib.hid hn
  clear hn
  obtain ⟨B, cp, hvP, hcp⟩ := own_slice hx.pend
  obtain ⟨hs1, hs2, hs3⟩ := secs_mid hx.ok.s64 hl
  have hfl := flat_len d.ss hx.ok.s64
  have c0 := hx.blk.cell 0
  have c1 := hx.blk.cell 1
  have c3 := hx.blk.cell 3
  simp [hvB] at c0
  simp [hvP] at c1
  simp [hd] at c3
  have Hx := Lib.hid hx
  have HvB := Lib.hid hvB
  have HvP := Lib.hid hvP
  have Hs1 := Lib.hid hs1
  have Hs2 := Lib.hid hs2
  have Hs3 := Lib.hid hs3
  have Hfl := Lib.hid hfl
  have hg := hx.blk.lt
  have plen := own_max hx.pend
  unfold maxLen at plen
  obtain ⟨i0, hi0, hz0, hz1, hz2⟩ := info_parts infoB
  clear hx hvB hvP hF hd hs1 hs2 hs3 hfl
  go_enter Try.func23, Try.ntmps23
  go_wp2_with (first
    | (go_at_call 35; refine (disk_there _ _ _ _ Hp.out _ _).mono ?_; rintro e w' ⟨rfl, rfl⟩)
    | (at_make; refine wpList_make_full _ rfl (.tmp 28) (.tmp 28) 57 rfl 0 5 i0 _ 1 Try.underlying57 hi0 hz0 hz1 .i64 .i64 _ _ (n * 64) rfl rfl (by omega) (by omega) (by rw [hz2]; omega) (by simp only [maxLen]; omega) (by omega) ?_; intro w1 hown1 hgrow1; have hk1 := (Kept.refl [] w).grown hgrow1 (fun _ h => by cases h); have c10 := hk1.cell c0 (by simp); have c11 := hk1.cell c1 (by simp))
    | (refine wpList_copy_nothing (o := ⟨some 38, _, _, _, _, _⟩) rfl (.tmp 30) (.tmp 37) _ _ rfl 5 Try.underlying57 (by kernel_rfl) _ _ _ _ _ _ rfl rfl (by rw [Hn.out]; exact Nat.min_zero _) ?_))
  all_goals
    have hcx : 64 * d.ss.length - at_ * 64 ≤ 64 * d.ss.length := by omega
    (first | (rename_i hcc _; clear hcc) | skip)
    clear hgrow1 hcx hc
    go_loopw [44] (fun i wr => ∃ (k : Nat) (out : List (List UInt8)), k ≤ d.ps.length ∧ i = .int .i64 k ∧ Hid (secs out n) ∧ Hid (over at_ n d.ps ((d.ss.drop at_).take n) = over at_ n (d.ps.drop k) out) ∧ Hid (Blk wr w.heap.size 5 (out.flatten.map bv).toArray) ∧ Kept [w.heap.size] w1 wr) (fun i _ => d.ps.length - (intOf i).toNat)
    case atStart =>
      refine ⟨0, (d.ss.drop at_).take n, by omega, rfl, ⟨Hs1.out, Hs2.out⟩, rfl, ?_, Kept.refl _ _⟩
      obtain ⟨r1, hb1, hl1, hr1, _⟩ := own_blk hown1
      have e : ((d.ss.drop at_).take n) = [] := by rw [Hn.out]; rfl
      have e2 : (madeCells (Value.int IntKind.u8 0).cells (n * 64 * 1)).toList = [] := by rw [Hn.out]; simp only [Value.cells, toList_madeCells_one]; rfl
      rw [e2] at hb1
      obtain rfl : r1 = [] := List.eq_nil_of_length_eq_zero (by rw [Hn.out] at hr1; omega)
      rw [e]
      exact hb1
    case round =>
      obtain ⟨k, out, hk, rfl, HS, HO, HB, hkr⟩ := hrel
      by_cases hlt : k < d.ps.length
      · have hPk := Hx.out.pend
        obtain ⟨gp, cp', hvp, _⟩ := own_some hPk (by omega)
        rw [hvp] at hPk
        have hat := own_at (f := pcells) (l := d.ps) hPk (fun _ => rfl) k 0 hlt (by decide) rfl
        have hdt := own_at (f := pcells) (l := d.ps) hPk (fun _ => rfl) k 1 hlt (by decide) rfl
        have hpat := Hx.out.ok.pat d.ps[k] (List.getElem_mem hlt)
        have hp64 := Hx.out.ok.p64 d.ps[k] (List.getElem_mem hlt)
        have hdr := List.drop_eq_getElem_cons hlt
        have hgp := own_lt hPk gp rfl
        clear hPk
        generalize hpk : d.ps[k] = p at *
        obtain ⟨pa, pd⟩ := p
        simp only at hpat hp64
        have HDR := Lib.hid hdr
        have H64 := Lib.hid hp64
        clear hdr hpk hp64
        rw [HvP.out] at hvp
        injection hvp with hB1 _ hB3
        subst hB1
        subst hB3
        have hkw := hk1.trans' hkr (fun x hx => .inr (Nat.le_of_eq (List.mem_singleton.1 hx).symm))
        have hat1 := hkw.cell hat (by simp)
        have hdt1 := hkw.cell hdt (by simp)
        simp at hat1
        clear hat hdt
        have hn0 := Hn.out
        have hin : ¬ (at_ ≤ pa ∧ pa < at_ + n) := by omega
        clear hn0
        · have HN : Hid (over at_ n d.ps ((d.ss.drop at_).take n) = over at_ n (d.ps.drop (k + 1)) out) := by
            rw [Hid, HO.out, HDR.out, over, if_neg hin]
          by_cases h1 : at_ ≤ pa
          · have h2 : at_ + n ≤ pa := by omega
            clear hin
            go_wp2
            go_roundw
            case rel => exact ⟨k + 1, out, by omega, by go_num, HS.out, HN.out, HB.out.alloc _, hkr.alloc _⟩
            case measure => simp [intOf]; omega
          · clear hin
            go_wp2
            go_roundw
            case rel => exact ⟨k + 1, out, by omega, by go_num, HS.out, HN.out, HB.out.alloc _, hkr.alloc _⟩
            case measure => simp [intOf]; omega
      · have HN : Hid (over at_ n d.ps ((d.ss.drop at_).take n) = out) := by
          rw [Hid, HO.out, List.drop_eq_nil_of_le (by omega), over]
        have hcv := conv_bytes (P := Try.prog) (w := wr) (B := w.heap.size + 1) (n := n * 64) (c := n * 64) (A := some ⟨w.heap.size, 0, none⟩) (l := out.flatten) 57 5 Try.underlying57 Try.underlying5 ⟨by rw [List.length_map, flat_len _ HS.out.2, HS.out.1]; omega, fun _ => ⟨_, 0, rfl, by omega, fun j u hu => by rw [HB.out.cell]; simpa using hu⟩⟩ (fun _ => .inr ⟨_, _, rfl⟩)
        go_wp2
        go_ret2
        rw [HN.out]
        exact ⟨rfl, hk1.trans' hkr (fun x hx => .inr (Nat.le_of_eq (List.mem_singleton.1 hx).symm))⟩

end Go.Proofs.Ytdifolhkbkaamaa
