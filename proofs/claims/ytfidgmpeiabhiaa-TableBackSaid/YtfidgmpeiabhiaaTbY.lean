/- Tables: the law's alive. -/
import Derived.Test.YtfidgmpeiabhiaaTbX
namespace Go.Proofs.Ytfidgmpeiabhiaa
open Go.RowKit Go.Maps

theorem fresh_kept {n₀ : Nat} {W w1 w2 : World} {t : Tb} {p : List Int} (h : TbAt n₀ w1 t p) (hn : W.heap.size ≤ n₀) (K : Kept [] W w1) (k : Kept (t.bm :: t.v.ownBlock.toList) w1 w2) : Kept [] W w2 :=
  K.trans' k (fun z hz => .inr (by
    rcases List.mem_cons.1 hz with e | hz
    · have := h.lo.2
      omega
    · have := (h.pl.lt z (Option.mem_toList.1 hz)).1
      omega))
theorem all_alive {l : List En} (h : IsAll [9, 5, -1] l) : l = [⟨5, 1⟩, ⟨9, 0⟩] := by
  refine h.one ⟨by simp [Rise], fun x => ?_⟩
  constructor
  · intro hx
    simp only [List.mem_cons, List.not_mem_nil, or_false] at hx
    rcases hx with rfl | rfl
    · exact ⟨1, rfl, by decide, rfl⟩
    · exact ⟨0, rfl, by decide, rfl⟩
  · rintro ⟨i, h1, h2, h3⟩
    obtain ⟨o, j⟩ := x
    simp only at h1 h2 h3
    match i, h1 with
    | 0, h1 =>
      simp at h1
      simp [← h1, h3]
    | 1, h1 =>
      simp at h1
      simp [← h1, h3]
    | 2, h1 =>
      simp at h1
      omega
    | k + 3, h1 => simp at h1
set_option maxRecDepth 4000 in
set_option maxHeartbeats 2000000 in
theorem law_alive (W : World) : Calls Try.prog 6 #[] W (TrueK W) := by
  go_enter Try.func6, Try.ntmps6
  go_wp2_with fail
  refine (tb_New W 3 (by omega)).mono ?_
  rintro e w1 ⟨t, rfl, hT1, K1⟩
  have HT1 : Hid (TbAt W.heap.size w1 t [-1, -1, -1]) := hT1
  replace K1 := Lib.hid K1
  obtain ⟨q, hq⟩ : ∃ q, q = tbV t := ⟨_, rfl⟩
  rw [← hq]
  have HQp : Hid (∀ V p (o : Int), (-9223372036854775808 ≤ o ∧ o ≤ 9223372036854775807) → TbAt W.heap.size V t p → Calls Try.prog 16 #[q, .int .i64 o] V (PutPost W.heap.size t p o V)) := fun V p o ho hV => hq ▸ tb_Put V _ t p o ho hV
  have HQd : Hid (∀ V p (o : Int), (-9223372036854775808 ≤ o ∧ o ≤ 9223372036854775807) → TbAt W.heap.size V t p → Calls Try.prog 18 #[q, .int .i64 o] V (DropPost W.heap.size t p o V)) := fun V p o ho hV => hq ▸ tb_Drop V _ t p o ho hV
  have HQf : Hid (∀ V p (o : Int), (-9223372036854775808 ≤ o ∧ o ≤ 9223372036854775807) → TbAt W.heap.size V t p → Calls Try.prog 17 #[q, .int .i64 o] V fun e w' => e = .returned (.tuple #[.int .i64 (fndI o p), .bool (fndB o p)]) ∧ V = w') := fun V p o ho hV => hq ▸ tb_Find V _ t p o ho hV
  have HQl : Hid (∀ V p, TbAt W.heap.size V t p → Calls Try.prog 21 #[q] V fun e w' => e = .returned (.int .i64 ((p.length : Int) - lenP p)) ∧ Dr V w') := fun V p hV => hq ▸ tb_Left V _ t p hV
  have HQa : Hid (∀ V p, TbAt W.heap.size V t p → Calls Try.prog 22 #[q] V (AllPost p V)) := fun V p hV => hq ▸ tb_All V _ t p hV
  clear hq hT1
  go_wp2_with fail
  refine (HQp.out w1 _ 7 (by omega) HT1.out).mono ?_
  rintro e w2 ⟨rfl, hT2, k2⟩
  have K2 := Lib.hid (fresh_kept HT1.out (Nat.le_refl _) K1.out k2)
  have HT2 : Hid (TbAt W.heap.size w2 t [7, -1, -1]) := hT2
  clear hT2 k2
  rw [show putI 7 [-1, -1, -1] = (0, 0) by decide]
  go_wp2_with fail
  refine (HQp.out w2 _ 5 (by omega) HT2.out).mono ?_
  rintro e w3 ⟨rfl, hT3, k3⟩
  have K3 := Lib.hid (fresh_kept HT2.out (Nat.le_refl _) K2.out k3)
  have HT3 : Hid (TbAt W.heap.size w3 t [7, 5, -1]) := hT3
  clear hT3 k3
  rw [show putI 5 [7, -1, -1] = (1, 0) by decide]
  go_wp2_with fail
  refine (HQd.out w3 _ 7 (by omega) HT3.out).mono ?_
  rintro e w4 ⟨rfl, hT4, k4⟩
  have K4 := Lib.hid (fresh_kept HT3.out (Nat.le_refl _) K3.out k4)
  have HT4 : Hid (TbAt W.heap.size w4 t [-1, 5, -1]) := hT4
  clear hT4 k4
  rw [show dropI 7 [7, 5, -1] = (0, 0) by decide]
  go_wp2_with fail
  refine (HQp.out w4 _ 9 (by omega) HT4.out).mono ?_
  rintro e w5 ⟨rfl, hT5, k5⟩
  have K5 := Lib.hid (fresh_kept HT4.out (Nat.le_refl _) K4.out k5)
  have HT5 : Hid (TbAt W.heap.size w5 t [9, 5, -1]) := hT5
  clear hT5 k5
  rw [show putI 9 [-1, 5, -1] = (0, 0) by decide]
  go_wp2_with fail
  refine (HQa.out w5 _ HT5.out).mono ?_
  rintro e w6 ⟨v6, l6, rfl, ha6, hl6, ho6, k6⟩
  obtain rfl := all_alive ha6
  obtain ⟨b6, c6, rfl, _⟩ := own_some ho6 (by decide)
  have ho6' : EAt w5.heap.size w6 (some ⟨b6, 0, none⟩) c6 [⟨5, 1⟩, ⟨9, 0⟩] := ho6
  obtain ⟨b7, e7, d0, d1⟩ := ho6'.at_.out 0 (by decide)
  injection e7 with e7
  injection e7 with e7
  subst e7
  have d0' : w6.cell? ⟨b6, 0, none⟩ = some (.int .i64 5) := d0
  have d1' : w6.cell? ⟨b6, 1, none⟩ = some (.int .i64 1) := d1
  have K6 := Lib.hid (K5.out.trans k6)
  have HT6 := Lib.hid (HT5.out.kept0 k6)
  have hb6 : w5.heap.size ≤ b6 := (ho6.lt b6 rfl).1
  have hne : b6 ∉ t.bm :: t.v.ownBlock.toList := by
    intro hm
    rcases List.mem_cons.1 hm with e | hm
    · have := HT5.out.mp.lt
      omega
    · have := own_lt HT5.out.pl _ (Option.mem_toList.1 hm)
      omega
  replace hne := Lib.hid hne
  replace d0' := Lib.hid d0'
  replace d1' := Lib.hid d1'
  clear k6 ho6 ho6' ha6 hl6 d0 d1 hb6
  go_wp2_with fail
  refine (HQf.out w6 _ 7 (by omega) HT6.out).mono ?_
  rintro e w7 ⟨rfl, rfl⟩
  rw [show fndB 7 [9, 5, -1] = false by decide]
  go_wp2_with fail
  refine (HQd.out _ _ 7 (by omega) HT6.out).mono ?_
  rintro e w7 ⟨rfl, hT7, k7⟩
  have d0 := k7.cell d0'.out hne.out
  have d1 := k7.cell d1'.out hne.out
  have K7 := Lib.hid (fresh_kept HT6.out (Nat.le_refl _) K6.out k7)
  have HT7 : Hid (TbAt W.heap.size w7 t [9, 5, -1]) := hT7
  clear hT7 k7
  rw [show dropI 7 [9, 5, -1] = (0, 161) by decide]
  go_wp2_with fail
  refine (HQl.out w7 _ HT7.out).mono ?_
  rintro e w8 ⟨rfl, d8⟩
  rw [show lenP [9, 5, -1] = 2 by decide]
  have K8 := Lib.hid (K7.out.trans d8.kept)
  clear d8
  go_wp2_with fail
  go_ret
  exact ⟨rfl, K8.out⟩
end Go.Proofs.Ytfidgmpeiabhiaa
