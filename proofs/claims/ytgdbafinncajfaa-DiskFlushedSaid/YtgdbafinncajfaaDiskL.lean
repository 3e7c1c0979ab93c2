/- The program's disk, its walks (sixth part): Read whole, Load, Clone. -/
import Derived.Test.YtgdbafinncajfaaDiskZ
namespace Go.Proofs.Ytgdbafinncajfaa
open Go.RowKit

set_option maxHeartbeats 1000000 in
theorem disk_Read (w : World) (g : Nat) (F : List Nat) (d : D) (h : PD w g F d) (at_ n : Int) :
    Calls Try.prog 26 #[.pointer (some ⟨g, 0, none⟩), .int .i64 at_, .int .i64 n] w fun e w' => e = .returned (.tuple #[.string ⟨(d.read at_ n).1.toArray⟩, .int .i64 (d.read at_ n).2]) ∧ Kept [] w w' := by
  cases hd : d.dead
  · rcases thereE_cases d.ss.length at_ n with ⟨ht, _⟩ | ⟨ht, h1, h2, h3⟩
    · have HW : Hid (d.read at_ n = ([], 2)) := by
        unfold Hid D.read
        rw [if_neg (by rw [hd]; decide), if_pos (by rw [ht]; decide)]
      obtain ⟨A, a, B, b, fu, c0, c1, c2, c3, fz, hf, hf1, hf2⟩ := h.open
      rw [hd] at c3
      have Ht := Lib.hid ht
      clear c0 c1 c2 fz hf hd ht
      go_enter Try.func26, Try.ntmps26
      go_wp2_with fail
      refine (disk_there _ _ _ _ h _ _).mono ?_
      rintro e w' ⟨rfl, rfl⟩
      rw [Ht.out]
      go_wp2
      go_ret2
      rw [HW.out]
      exact ⟨rfl, Kept.refl _ _⟩
    · obtain ⟨k, rfl⟩ := Int.eq_ofNat_of_zero_le h1
      obtain ⟨m, rfl⟩ := Int.eq_ofNat_of_zero_le h2
      have HW : d.read (k : Int) (m : Int) = ((over k m d.ps ((d.ss.drop k).take m)).flatten, 0) := by
        unfold D.read
        rw [if_neg (by rw [hd]; decide), if_neg (by rw [ht]; decide)]
        rfl
      rw [HW]
      by_cases hm : m = 0
      · exact disk_Read_zero w g F d h k m hd ht (by omega) hm
      · exact disk_Read_loop w g F d h k m hd ht (by omega) (by omega)
  · have HW : Hid (d.read at_ n = ([], 41)) := by simp [Hid, D.read, hd]
    obtain ⟨A, a, B, b, fu, c0, c1, c2, c3, fz, hf, hf1, hf2⟩ := h.open
    rw [hd] at c3
    clear c0 c1 c2 fz hf hd
    go_enter Try.func26, Try.ntmps26
    go_wp2
    go_ret2
    rw [HW.out]
    exact ⟨rfl, Kept.refl _ _⟩
theorem disk_Read_nil (w : World) (at_ n : Int) : Calls Try.prog 26 #[.pointer none, .int .i64 at_, .int .i64 n] w fun e w' => e = .returned (.tuple #[.string ⟨#[]⟩, .int .i64 1]) ∧ w = w' := by
  go_enter Try.func26, Try.ntmps26
  go_wp2
  go_ret2
  exact ⟨rfl, rfl⟩

-- Load: no disk, where there would be too many sectors
set_option maxHeartbeats 400000 in
theorem disk_Load_no (w : World) (data : List UInt8) (hl : data.length ≤ 140737488351232) (h : 1048576 < (data.length + 63) / 64) :
    Calls Try.prog 17 #[.string ⟨data.toArray⟩] w fun e w' => e = .returned (.pointer none) ∧ w = w' := by
  have h1 : rightB (((data.length : Int) + 64 - 1) / 64) = false := by simp [rightB]; omega
  go_enter Try.func17, Try.ntmps17
  go_wp2_with fail
  refine (disk_New_no _ _ h1).mono ?_
  rintro e w' ⟨rfl, rfl⟩
  go_wp2
  go_ret
  exact ⟨rfl, rfl⟩

theorem PDx.loaded {w1 w2 : World} {g gb c n : Nat} {vB vP : Value} {fu : Int} {data : List UInt8} {rest : List Value} (hx : PDx w1 g vB vP fu ⟨List.replicate n zsec, [], -1, false⟩) (hl : data.length ≤ n * 64) (hn : n ≤ 1048576)
    (hv : vB = .slice (some ⟨gb, 0, none⟩) (64 * n) c) (hblk : Blk w1 gb 5 ((List.replicate n zsec).flatten.map bv ++ rest).toArray) (hxl : ((List.replicate n zsec).flatten.map bv).length = 64 * n) (hrest : 64 * n + rest.length = c) (hcm : c ≤ maxLen)
    (hb2 : Blk w2 gb 5 (splice ((List.replicate n zsec).flatten.map bv ++ rest) 0 (data.map bv)).toArray) (hk2 : Kept [gb] w1 w2) : PDx w2 g vB vP fu ⟨loadS data n, [], -1, false⟩ := by
  have e : splice ((List.replicate n zsec).flatten.map bv ++ rest) 0 (data.map bv) = (loadS data n).flatten.map bv ++ rest := by
    rw [splice_app _ _ _ _ (by rw [hxl, List.length_map]; omega), loadS_flat data n hl, flat_rep]
    simp [splice, List.drop_replicate]
  rw [e] at hb2
  refine ⟨loadS_ok data n hn, hx.blk.kept hk2 (by rw [List.mem_singleton]; exact (hblk.ne_ hx.blk (by decide)).symm), hx.fuse, ?_, hk2.owns hx.pend (fun k e => by rw [List.mem_singleton]; exact own_ne hx.pend hblk (by decide) k e)⟩
  rw [hv, loadS_len]
  exact blk_own (rest := rest) hb2 (by rw [List.length_map, flat_len _ (loadS_secs data n).2, loadS_len]) hrest hcm

set_option maxHeartbeats 1000000 in
theorem disk_Load_yes (w : World) (data : List UInt8) (n : Nat) (h : n = (data.length + 63) / 64) (hn : n ≤ 1048576) :
    Calls Try.prog 17 #[.string ⟨data.toArray⟩] w fun e w' => ∃ g F, e = .returned (.pointer (some ⟨g, 0, none⟩)) ∧ PD w' g F ⟨loadS data n, [], -1, false⟩ ∧ Kept [] w w' ∧ ∀ x ∈ F, w.heap.size ≤ x := by
  have h1 : Hid (((data.length : Int) + 64 - 1) / 64 = (n : Int)) := by unfold Hid; omega
  have hl : data.length ≤ n * 64 := by omega
  have hl2 : n * 64 < data.length + 64 := by omega
  clear h
  go_enter Try.func17, Try.ntmps17
  go_wp2_with fail
  rw [h1.out]
  refine (disk_New_yes n _ hn).mono ?_
  rintro e w1 ⟨g, F, rfl, hP, hk, hF⟩
  obtain ⟨vB, vP, fu, hx, hFe⟩ := hP
  obtain ⟨A, c, hvB, hc⟩ := own_slice hx.bytes
  have c0 := hx.blk.cell 0
  simp [hvB] at c0
  have Hx := Lib.hid hx
  have HvB := Lib.hid hvB
  have HFe := Lib.hid hFe
  clear hx hvB hFe
  have fin : ∀ w2 : World, PDx w2 g vB vP fu ⟨loadS data n, [], -1, false⟩ → PD w2 g F ⟨loadS data n, [], -1, false⟩ := fun w2 h => ⟨vB, vP, fu, h, HFe.out⟩
  have Fin := Lib.hid fin
  clear fin
  by_cases h0 : n = 0
  · have hd0 : data = [] := List.eq_nil_of_length_eq_zero (by omega)
    have Hd0 := Lib.hid hd0
    have he : Hid (List.replicate n zsec = loadS data n) := by rw [Hid, h0]; rfl
    clear hd0 h0
    rw [Hd0.out]
    go_wp2_with (refine wpList_copy_run (o := ⟨some 17, _, _, _, _, _⟩) rfl (.tmp 15) (.tmp 16) _ _ rfl _ _ rfl rfl 0 (R := fun w' => w' = w1) ⟨_, run_copy_empty _ _ _ _ 5 Try.underlying72 (by kernel_rfl) _ _ _, rfl⟩ ?_; rintro w2 rfl)
    go_ret
    refine ⟨g, F, rfl, ?_, hk, hF⟩
    refine Fin.out _ ?_
    rw [← he.out]
    exact Hx.out
  · obtain ⟨gb, c', hvb, _⟩ := own_some Hx.out.bytes (by simp; omega)
    have hB := Hx.out.bytes
    rw [hvb] at hB
    obtain ⟨rest, hblk, hxl, hrest, hcm⟩ := own_blk hB
    have HvB2 := Lib.hid hvb
    rw [HvB.out] at hvb
    injection hvb with hA1 _ hA3
    subst hA1
    subst hA3
    have hn64 : (List.replicate n zsec).length = n := List.length_replicate
    simp only [List.length_replicate] at hblk hxl hrest HvB2
    go_wp2_with (refine wpList_copy_run (o := ⟨some 17, _, _, _, _, _⟩) rfl (.tmp 15) (.tmp 16) _ _ rfl _ _ rfl rfl _ (run_copy_str _ _ _ _ 5 Try.underlying72 (by kernel_rfl) _ _ _ _ gb 0 5 ((List.replicate n zsec).flatten.map bv ++ rest) hblk data ?hcs (fun _ => rfl) ?hft) ?_; rotate_right; rintro w2 ⟨hb2, hk2⟩; have Hb2 := Lib.hid hb2; clear hb2)
    case hcs => rw [List.take_of_length_le]; omega
    case hft => rw [List.length_append, hxl]; omega
    go_ret
    refine ⟨g, F, rfl, Fin.out _ ?_, ?_, hF⟩
    · exact Hx.out.loaded hl hn HvB2.out hblk hxl hrest hcm Hb2.out hk2
    · exact hk.trans' hk2 (fun x hx => .inr (by rw [List.mem_singleton] at hx; subst hx; exact hF _ (by rw [HFe.out, HvB.out]; simp [Value.ownBlock])))
end Go.Proofs.Ytgdbafinncajfaa
