/- The law CrcByte: its walk. -/
import Derived.Test.YthdigddbhlakmaaCrcD
import Derived.Test.YthdigddbhlakmaaCrcG
import Derived.Deep.RegionWith
namespace Go.Proofs.Ythdigddbhlakmaa
open Go.RowKit

set_option maxRecDepth 4000 in
set_option maxHeartbeats 1000000 in
theorem byte_no (w : World) (s : List UInt8) (n : Int) (x y : UInt8) (h : 200 < s.length ∨ 400 < n) :
    Calls Try.prog 3 #[.string ⟨s.toArray⟩, .int .i64 n, .agg #[bv x, bv y]] w fun e w' => e = .returned (.bool true) ∧ Kept [] w w' := by
  by_cases h1 : 200 < s.length
  · go_enter Try.func3, Try.ntmps3
    go_wp2_with (go_at_call 5; refine (crc_alive _).mono ?_; rintro e w2 ⟨rfl, k2⟩)
    go_ret
    exact ⟨rfl, ((Kept.refl [] w).alloc _).trans k2⟩
  · have h2 : 400 < n := by omega
    go_enter Try.func3, Try.ntmps3
    go_wp2_with (go_at_call 5; refine (crc_alive _).mono ?_; rintro e w2 ⟨rfl, k2⟩)
    go_ret
    exact ⟨rfl, ((Kept.refl [] w).alloc _).trans k2⟩

theorem cell_arr (w w2 : World) (t : TypeId) (cs : Array Value) (k : Kept [] (w.alloc (.cells cs t)) w2) (i : Nat) (v : Value) (h : cs[i]? = some v) : w2.cell? ⟨w.heap.size, i, none⟩ = some v := by
  refine k.cell (p := ⟨w.heap.size, i, none⟩) ?_ (fun h => by cases h)
  rw [(Blk.new w t cs).cell, h]

theorem conv_one (w : World) (y : UInt8) : (convert 28 9 (.slice (some ⟨w.heap.size, 0, none⟩) 1 1)).run Try.prog (w.alloc (.cells #[.int .u8 (y.toNat : Int)] 5)).drew = .ok (.string ⟨#[y]⟩) (w.alloc (.cells #[.int .u8 (y.toNat : Int)] 5)).drew := by
  have hrd : Rd (w.alloc (.cells #[bv y] 5)).drew (w.alloc (.cells #[bv y] 5)).heap.size 1 (some ⟨w.heap.size, 0, none⟩) 1 ([y].map bv) := by
    refine ⟨by simp, fun _ => ⟨_, 0, rfl, (Blk.new w _ #[bv y]).lt, fun j u hu => ?_⟩⟩
    show (w.alloc (.cells #[bv y] 5)).cell? _ = _
    rw [Nat.zero_add, (Blk.new w _ #[bv y]).cell]
    simpa using hu
  exact conv_bytes (P := Try.prog) (c := 1) 28 5 Try.underlying28 Try.underlying5 hrd (fun _ => .inr ⟨_, _, rfl⟩) 9 Try.underlying9

theorem hold_alloc {w W : World} {a : Addr} {v : Value} (o : Obj) (h : Hid (Kept [] w W) ∧ W.cell? a = some v) : Hid (Kept [] w (W.alloc o)) ∧ (W.alloc o).cell? a = some v :=
  ⟨Lib.hid (h.1.out.alloc o), ((Kept.refl [] W).alloc o).cell h.2 (fun h => by cases h)⟩
theorem hold_drew {w W : World} {a : Addr} {v : Value} (h : Hid (Kept [] w W) ∧ W.cell? a = some v) : Hid (Kept [] w W.drew) ∧ W.drew.cell? a = some v :=
  ⟨Lib.hid h.1.out.drew, h.2⟩

theorem seal_bad (s : List UInt8) (n : Int) (h : (sealL s n).2 ≠ 0) : (sealL s n).1 = [] := by
  unfold sealL at h ⊢
  split
  · rfl
  · rename_i h1
    rw [if_neg h1] at h
    split
    · rfl
    · rename_i h2
      rw [if_neg h2] at h
      exact absurd rfl h

set_option maxRecDepth 4000 in
set_option maxHeartbeats 1000000 in
theorem byte_bad (w : World) (s : List UInt8) (n : Int) (x y : UInt8) (hs : s.length ≤ 200) (hn : n ≤ 400) (h : (sealL s n).2 ≠ 0) :
    Calls Try.prog 3 #[.string ⟨s.toArray⟩, .int .i64 n, .agg #[bv x, bv y]] w fun e w' => e = .returned (.bool true) ∧ Kept [] w w' := by
  have hb := seal_bad s n h
  go_enter Try.func3, Try.ntmps3
  go_wp2_with fail
  refine (crc_Seal s n _ (by omega)).mono ?_
  rintro e w1 ⟨rfl, k1⟩
  rw [hb]
  generalize (sealL s n).2 = r at *
  go_wp2_with fail
  refine (crc_alive _).mono ?_
  rintro e w2 ⟨rfl, k2⟩
  go_wp2_with fail
  go_ret
  exact ⟨rfl, (((Kept.refl [] w).alloc _).trans k1).trans k2⟩

set_option maxRecDepth 4000 in
set_option maxHeartbeats 400000 in
theorem byte_good (w : World) (s p : List UInt8) (x y : UInt8) (hs : s.length ≤ 200) (hm : p.length ≤ 396) (hsp : p.take s.length = s) (hl : s.length ≤ p.length) (h : sealL s ((p.length : Int) + 4) = (p ++ lowL (sumN p) 4, 0)) :
    Calls Try.prog 3 #[.string ⟨s.toArray⟩, .int .i64 ((p.length : Int) + 4), .agg #[bv x, bv y]] w fun e w' => e = .returned (.bool true) ∧ Kept [] w w' := by
  have ho := open_sealed p
  have ht := open_turned p (x.toNat % (p.length + 4)) y (Nat.mod_lt _ (by omega))
  have hL : (p ++ lowL (sumN p) 4).length = p.length + 4 := by simp [lowL_len]
  generalize p ++ lowL (sumN p) 4 = S at *
  have hk : x.toNat % (p.length + 4) < p.length + 4 := Nat.mod_lt _ (by omega)
  have hr : ((x.toNat : Int)).tmod ((p.length : Int) + 4) = ((x.toNat % (p.length + 4) : Nat) : Int) := rfl
  have hs2 : s.length ≤ 140737488351232 := by omega
  have hS2 : S.length ≤ 140737488351232 := by omega
  generalize x.toNat % (p.length + 4) = k at *
  have h := Lib.hid h
  have ho := Lib.hid ho
  have hx1 : (⟨p.toArray⟩ : ByteArray).extract 0 s.length = ⟨s.toArray⟩ := by rw [extract_list]; simp [hsp]
  have hlp : (s.length : Int) ≤ (p.length : Int) := by omega
  have hw : IntKind.i64.wrap (p.length : Int) = (p.length : Int) := IntWalk.i64_in _ (by omega)
  have hk1 : (k : Int) ≤ (p.length : Int) + 4 := by omega
  have hk2 : (k : Int) + 1 ≤ (p.length : Int) + 4 := by omega
  have hk3 : 0 ≤ (k : Int) + 1 := by omega
  have hk4 : IntKind.i64.wrap ((k : Int) + 1) = (k : Int) + 1 := IntWalk.i64_in _ (by omega)
  have hz : ¬ ((p.length : Int) + 4 = 0) := by omega
  have hsp := Lib.hid hsp
  clear hk
  go_enter Try.func3, Try.ntmps3
  go_wp2_with fail
  refine (crc_Seal s _ _ hs2).mono ?_
  rintro e w1 ⟨rfl, k1⟩
  rw [h.out]
  go_wp2_with fail
  refine (crc_Open S _ hS2).mono ?_
  rintro e w2 ⟨rfl, k2⟩
  rw [ho.out]
  have hc0 : w2.cell? ⟨w.heap.size, 0, none⟩ = some (.int .u8 (x.toNat : Int)) := cell_arr w w2 _ _ (k1.trans k2) 0 _ rfl
  have hc1 : w2.cell? ⟨w.heap.size, 1, none⟩ = some (.int .u8 (y.toNat : Int)) := cell_arr w w2 _ _ (k1.trans k2) 1 _ rfl
  have hx0 : 0 ≤ (x.toNat : Int) := by omega
  have hx9 : (x.toNat : Int) < 256 := by have := UInt8.toNat_lt x; omega
  have hwx : IntKind.i64.wrap (x.toNat : Int) = (x.toNat : Int) := IntWalk.i64_in _ (by omega)
  go_wp2_with fail
  have hcv := conv_one
  have y1 : (⟨S.toArray⟩ : ByteArray).extract 0 k = ⟨(S.take k).toArray⟩ := by rw [extract_list]; simp
  have y2 : (⟨S.toArray⟩ : ByteArray).extract (k + 1) (p.length + 4) = ⟨(S.drop (k + 1)).toArray⟩ := by rw [extract_list, List.take_of_length_le]; simp [hL]
  have hTl : (S.take k ++ y :: S.drop (k + 1)).length ≤ 140737488351232 := by simp [hL]; omega
  have lA : (S.take k).length ≤ 400 := by simp; omega
  have lB : (S.drop (k + 1)).length ≤ 400 := by simp [hL]; omega
  have hT2 := Lib.hid ht
  clear ht
  generalize S.take k = A at *
  generalize S.drop (k + 1) = B at *
  have z1 : (⟨A.toArray⟩ : ByteArray) ++ ⟨#[y]⟩ = ⟨(A ++ [y]).toArray⟩ := app_arr A [y]
  have z2 : (⟨(A ++ [y]).toArray⟩ : ByteArray) ++ ⟨B.toArray⟩ = ⟨(A ++ y :: B).toArray⟩ := by rw [app_arr]; simp
  have hkk := Lib.hid (((Kept.refl [] w).alloc (.cells #[bv x, bv y] 22)).trans (k1.trans k2))
  go_region_with (fail)
  go_wp2_with fail
  obtain ⟨T, hT⟩ : ∃ T, A ++ y :: B = T := ⟨_, rfl⟩
  rw [hT] at hT2 hTl ⊢
  clear z1 z2 hT
  refine (crc_Open T _ hTl).mono ?_
  rintro e w3 ⟨rfl, k3⟩
  have hfin := hkk.out.trans ((((Kept.refl [] w2).alloc (.cells #[.int .u8 (y.toNat : Int)] 5)).drew).trans k3)
  by_cases hTS : T = S
  · have hb : (T == S) = true := by rw [beq_iff_eq]; exact hTS
    clear hTS
    generalize (openL T).1 = o1 at *
    generalize (openL T).2 = o2 at *
    go_wp2_with fail
    refine (crc_alive _).mono ?_
    rintro e w4 ⟨rfl, k4⟩
    go_wp2_with fail
    go_ret
    exact ⟨rfl, hfin.trans k4⟩
  · rw [hT2.out hTS]
    have hb : (T == S) = false := by rw [beq_eq_false_iff_ne]; exact hTS
    clear hTS
    go_wp2_with fail
    refine (crc_alive _).mono ?_
    rintro e w4 ⟨rfl, k4⟩
    go_wp2_with fail
    go_ret
    exact ⟨rfl, hfin.trans k4⟩

theorem seal_ok (s : List UInt8) (n : Int) (h : (sealL s n).2 = 0) : ∃ p : List UInt8, n = (p.length : Int) + 4 ∧ p.take s.length = s ∧ s.length ≤ p.length ∧ sealL s n = (p ++ lowL (sumN p) 4, 0) := by
  unfold sealL at h
  split at h
  · cases h
  · rename_i h1
    split at h
    · rename_i h2
      exact absurd h h2
    · rename_i h2
      have h3 : (padL s (n - 4)).2 = 0 := by simpa using h2
      have hp : padL s (n - 4) = (s ++ List.replicate ((n - 4).toNat - s.length) 0, 0) := by
        unfold padL at h3 ⊢
        split at h3
        · cases h3
        · rename_i h4
          rw [if_neg h4]
      have hn : ¬ (n - 4 < s.length) := by
        intro h4
        unfold padL at h3
        rw [if_pos (.inl h4)] at h3
        cases h3
      refine ⟨s ++ List.replicate ((n - 4).toNat - s.length) 0, ?_, by simp, by simp, ?_⟩
      · simp; omega
      · rw [sealL, if_neg h1, if_neg h2, hp]
theorem byte_run (w : World) (s : List UInt8) (n : Int) (x y : UInt8) (hs : s.length ≤ 140737488351232) :
    Calls Try.prog 3 #[.string ⟨s.toArray⟩, .int .i64 n, .agg #[bv x, bv y]] w fun e w' => e = .returned (.bool true) ∧ Kept [] w w' := by
  by_cases h : 200 < s.length ∨ 400 < n
  · exact byte_no w s n x y h
  · by_cases h2 : (sealL s n).2 = 0
    · obtain ⟨p, rfl, h3, h4, h5⟩ := seal_ok s n h2
      exact byte_good w s p x y (by omega) (by omega) h3 h4 h5
    · exact byte_bad w s n x y (by omega) (by omega) h2
end Go.Proofs.Ythdigddbhlakmaa
