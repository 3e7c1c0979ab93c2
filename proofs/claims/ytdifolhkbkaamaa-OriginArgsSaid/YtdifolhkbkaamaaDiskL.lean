/- The program's disk, its walks (sixth part): Read whole, Load, Clone. -/
import Derived.Test.YtdifolhkbkaamaaDiskZ
namespace Go.Proofs.Ytdifolhkbkaamaa
open Go.RowKit

set_option maxRecDepth 10000 in
set_option maxHeartbeats 1000000 in
theorem disk_Read (w : World) (g : Nat) (F : List Nat) (d : D) (h : PD w g F d) (at_ n : Int) :
    Calls Try.prog 23 #[.pointer (some ⟨g, 0, none⟩), .int .i64 at_, .int .i64 n] w fun e w' => e = .returned (.tuple #[.string ⟨(d.read at_ n).1.toArray⟩, .int .i64 (d.read at_ n).2]) ∧ Kept [] w w' := by
  cases hd : d.dead
  · rcases thereE_cases d.ss.length at_ n with ⟨ht, _⟩ | ⟨ht, h1, h2, h3⟩
    · have HW : Hid (d.read at_ n = ([], 2)) := by
        unfold Hid D.read
        rw [if_neg (by rw [hd]; decide), if_pos (by rw [ht]; decide)]
      obtain ⟨A, a, B, b, fu, c0, c1, c2, c3, fz, hf, hf1, hf2⟩ := h.open
      rw [hd] at c3
      have Ht := Lib.hid ht
      clear c0 c1 c2 fz hf hd ht
      go_enter Try.func23, Try.ntmps23
      go_wp2_with fail
      refine (disk_there _ _ _ _ h _ _).mono ?_
      rintro e w' ⟨rfl, rfl⟩
      rw [Ht.out]
      go_wp2
      go_ret2
      rw [HW.out]
      exact ⟨rfl, Kept.refl _ _⟩
    · obtain ⟨k, rfl⟩ := Int.eq_ofNat_of_zero_le h1
      obtain ⟨m, rfl⟩ := Int.eq_ofNat_of_zero_le h2
      have HW : d.read (k : Int) (m : Int) = ((over k m d.ps ((d.ss.drop k).take m)).flatten, 0) := by
        unfold D.read
        rw [if_neg (by rw [hd]; decide), if_neg (by rw [ht]; decide)]
        rfl
      rw [HW]
      by_cases hm : m = 0
      · exact disk_Read_zero w g F d h k m hd ht (by omega) hm
      · exact disk_Read_loop w g F d h k m hd ht (by omega) (by omega)
  · have HW : Hid (d.read at_ n = ([], 41)) := by simp [Hid, D.read, hd]
    obtain ⟨A, a, B, b, fu, c0, c1, c2, c3, fz, hf, hf1, hf2⟩ := h.open
    rw [hd] at c3
    clear c0 c1 c2 fz hf hd
    go_enter Try.func23, Try.ntmps23
    go_wp2
    go_ret2
    rw [HW.out]
    exact ⟨rfl, Kept.refl _ _⟩
theorem disk_Read_nil (w : World) (at_ n : Int) : Calls Try.prog 23 #[.pointer none, .int .i64 at_, .int .i64 n] w fun e w' => e = .returned (.tuple #[.string ⟨#[]⟩, .int .i64 1]) ∧ w = w' := by
  go_enter Try.func23, Try.ntmps23
  go_wp2
  go_ret2
  exact ⟨rfl, rfl⟩

-- Load: no disk, where there would be too many sectors
theorem PDx.loaded {w1 w2 : World} {g gb c n : Nat} {vB vP : Value} {fu : Int} {data : List UInt8} {rest : List Value} (hx : PDx w1 g vB vP fu ⟨List.replicate n zsec, [], -1, false⟩) (hl : data.length ≤ n * 64) (hn : n ≤ 1048576)
    (hv : vB = .slice (some ⟨gb, 0, none⟩) (64 * n) c) (hblk : Blk w1 gb 5 ((List.replicate n zsec).flatten.map bv ++ rest).toArray) (hxl : ((List.replicate n zsec).flatten.map bv).length = 64 * n) (hrest : 64 * n + rest.length = c) (hcm : c ≤ maxLen)
    (hb2 : Blk w2 gb 5 (splice ((List.replicate n zsec).flatten.map bv ++ rest) 0 (data.map bv)).toArray) (hk2 : Kept [gb] w1 w2) : PDx w2 g vB vP fu ⟨loadS data n, [], -1, false⟩ := by
  have e : splice ((List.replicate n zsec).flatten.map bv ++ rest) 0 (data.map bv) = (loadS data n).flatten.map bv ++ rest := by
    rw [splice_app _ _ _ _ (by rw [hxl, List.length_map]; omega), loadS_flat data n hl, flat_rep]
    simp [splice, List.drop_replicate]
  rw [e] at hb2
  refine ⟨loadS_ok data n hn, hx.blk.kept hk2 (by rw [List.mem_singleton]; exact (hblk.ne_ hx.blk (by decide)).symm), hx.fuse, ?_, hk2.owns hx.pend (fun k e => by rw [List.mem_singleton]; exact own_ne hx.pend hblk (by decide) k e)⟩
  rw [hv, loadS_len]
  exact blk_own (rest := rest) hb2 (by rw [List.length_map, flat_len _ (loadS_secs data n).2, loadS_len]) hrest hcm

end Go.Proofs.Ytdifolhkbkaamaa
