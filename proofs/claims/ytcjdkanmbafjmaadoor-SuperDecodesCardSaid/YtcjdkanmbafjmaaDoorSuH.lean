/- A superblock: the document's Right, and its sector; the law SuperEncodes: its walk. -/
import Derived.Test.YtcjdkanmbafjmaaDoorSuD
import Derived.Deep.RegionHeld3
namespace Go.Proofs.YtcjdkanmbafjmaaDoor
open Go.RowKit

theorem ref_supers (w : World) : Calls Tryd.prog 17 #[] w fun e w' => e = .returned (.slice (some ⟨w.heap.size, 0, none⟩) 3 3) ∧ w' = w.alloc (.cells (zsS.map iv).toArray 3) := by
  go_enter Tryd.func17, Tryd.ntmps17
  go_wp2_with fail
  go_ret
  exact ⟨rfl, rfl⟩
set_option maxHeartbeats 2000000 in
theorem ref_RightS (h : Su) (hw : wfS h) (w : World) : Calls Tryd.prog 10 #[sv h] w fun e w' => e = .returned (.bool (rightS h)) ∧ Kept [] w w' := by
  obtain ⟨g, c, p⟩ := h
  obtain ⟨⟨g0, g1⟩, ⟨c0, c1⟩, p0, p1⟩ := hw
  simp only at g0 g1 c0 c1 p0 p1
  have H : Hid (∀ x, rightS ⟨g, c, p⟩ = x ↔ ((decide (1 ≤ c) && decide (c ≤ 1048576)) && (decide (1 ≤ p) && decide (p ≤ 128)) && decide (g ≤ 1048576) && decide (c + 17 ≤ g)) = x) := fun x => Iff.rfl
  unfold sv
  by_cases h0 : 1 ≤ c
  · by_cases h1 : c ≤ 1048576
    · by_cases h2 : 1 ≤ p
      · by_cases h3 : p ≤ 128
        · by_cases h4 : g ≤ 1048576
          · by_cases h9 : c + 17 ≤ g
            all_goals
              go_enter Tryd.func10, Tryd.ntmps10
              go_wp2_with fail
              go_ret
              refine ⟨?_, (Kept.refl [] w).alloc _⟩
              rw [(H.out _).2 rfl]
              congr 2
              simp
              omega
          · go_enter Tryd.func10, Tryd.ntmps10
            go_wp2_with fail
            go_ret
            refine ⟨?_, (Kept.refl [] w).alloc _⟩
            rw [(H.out false).2 (by simp; omega)]
            rfl
        · go_enter Tryd.func10, Tryd.ntmps10
          go_wp2_with fail
          go_ret
          refine ⟨?_, (Kept.refl [] w).alloc _⟩
          rw [(H.out false).2 (by simp; omega)]
          rfl
      · go_enter Tryd.func10, Tryd.ntmps10
        go_wp2_with fail
        go_ret
        refine ⟨?_, (Kept.refl [] w).alloc _⟩
        rw [(H.out false).2 (by simp; omega)]
        rfl
    · go_enter Tryd.func10, Tryd.ntmps10
      go_wp2_with fail
      go_ret
      refine ⟨?_, (Kept.refl [] w).alloc _⟩
      rw [(H.out false).2 (by simp; omega)]
      rfl
  · go_enter Tryd.func10, Tryd.ntmps10
    go_wp2_with fail
    go_ret
    refine ⟨?_, (Kept.refl [] w).alloc _⟩
    rw [(H.out false).2 (by simp; omega)]
    rfl
set_option maxHeartbeats 1000000 in
theorem ref_sealed (w : World) (L : List UInt8) (A B : Option Addr) (c d : Nat) (zs : List Int) (l : List Nat) (J : List UInt8) (hJ : Hid (joinL zs l = (J, 0))) (hA : Rd w w.heap.size 1 A zs.length (zs.map iv)) (hB : Rd w w.heap.size 1 B l.length (l.map uv)) (hn : zs.length ≤ 1000) (hm : l.length ≤ 1000) (h64 : ∀ n ∈ l, n < 18446744073709551616) (hl : (L ++ J).length ≤ 4096) :
    Calls Tryd.prog 16 #[.string ⟨L.toArray⟩, .slice A zs.length c, .slice B l.length d] w fun e w' => e = .returned (.string ⟨(sealL (L ++ J) 64).1.toArray⟩) ∧ Kept [] w w' := by
  have hj := ref_Join w A B c d zs l hA hB hn hm h64
  rw [hJ.out] at hj
  have HJ := Lib.hid hj
  have happ := app_arr L J
  have HL := Lib.hid hl
  have hlL : L.length ≤ 4096 := by rw [List.length_append] at hl; omega
  have hlJ : J.length ≤ 4096 := by rw [List.length_append] at hl; omega
  clear hj hA hB h64 hl
  go_enter Tryd.func16, Tryd.ntmps16
  go_wp2_with fail
  refine HJ.out.mono ?_
  rintro e w1 ⟨rfl, k1⟩
  clear HJ
  go_wp2_with fail
  refine (ref_Seal (L ++ J) 64 w1 HL.out).mono ?_
  rintro e w2 ⟨rfl, k2⟩
  go_wp2_with fail
  go_ret
  exact ⟨rfl, k1.trans k2⟩
theorem sealed_three (W : World) (b d : Nat) (t u : TypeId) (g c p : Nat) (hA : Blk W b t (zsS.map iv).toArray) (hB : Blk W d u #[.int .u64 (g : Int), .int .u64 (c : Int), .int .u64 (p : Int)]) (J : List UInt8) (hJ : Hid (joinL zsS [g, c, p] = (J, 0)))
    (h : g < 4294967296 ∧ c < 4294967296 ∧ p < 4294967296) (hl : (lettersS ++ J).length ≤ 4096) :
    Calls Tryd.prog 16 #[.string ⟨#[79, 65, 75, 49]⟩, .slice (some ⟨b, 0, none⟩) 3 3, .slice (some ⟨d, 0, none⟩) 3 3] W fun e w' => e = .returned (.string ⟨(sealL (lettersS ++ J) 64).1.toArray⟩) ∧ Kept [] W w' :=
  ref_sealed W lettersS (some ⟨b, 0, none⟩) (some ⟨d, 0, none⟩) 3 3 zsS [g, c, p] J hJ (rd_iv hA) (rd_uv hB) (by decide) (by simp) (by
    intro n hn
    simp only [List.mem_cons, List.not_mem_nil, or_false] at hn
    rcases hn with rfl | rfl | rfl <;> omega) hl

set_option maxRecDepth 4000 in
set_option maxHeartbeats 1000000 in
theorem ref_EncodeS (w : World) (h : Su) (hw : wfS h) :
    Calls Tryd.prog 7 #[sv h] w fun e w' => e = .returned (.tuple #[.string ⟨(encS h).1.toArray⟩, .int .i64 (encS h).2]) ∧ Kept [] w w' := by
  cases hr : rightS h
  · have H : Hid (encS h = ([], 1)) := by rw [Hid, encS, if_neg (by rw [hr]; simp)]
    obtain ⟨g, c, p⟩ := h
    unfold sv
    go_enter Tryd.func7, Tryd.ntmps7
    go_wp2_with fail
    refine (ref_RightS ⟨g, c, p⟩ hw _).mono ?_
    rintro e w1 ⟨rfl, k1⟩
    rw [hr]
    go_wp2_with fail
    go_ret2
    rw [H.out]
    exact ⟨rfl, ((Kept.refl [] w).alloc _).trans k1⟩
  · have hJ := joinS h hr
    have H : Hid (encS h = sealL (lettersS ++ (joinL zsS (numsS h)).1) 64) := by rw [Hid, encS, if_pos hr]
    have hr' := (rightS_iff h).1 hr
    obtain ⟨g, c, p⟩ := h
    simp only at hr'
    obtain ⟨gn, rfl⟩ : ∃ n : Nat, g = n := ⟨g.toNat, by omega⟩
    obtain ⟨cn, rfl⟩ : ∃ n : Nat, c = n := ⟨c.toNat, by omega⟩
    obtain ⟨pn, rfl⟩ : ∃ n : Nat, p = n := ⟨p.toNat, by omega⟩
    simp only [numsS, Int.toNat_natCast] at hJ H
    obtain ⟨J, hJe⟩ : ∃ J, (joinL zsS [gn, cn, pn]).1 = J := ⟨_, rfl⟩
    have HJ : Hid (joinL zsS [gn, cn, pn] = (J, 0)) := by
      rw [Hid]
      show ((joinL zsS [gn, cn, pn]).1, (joinL zsS [gn, cn, pn]).2) = _
      rw [hJ.1, hJe]
    rw [hJe] at hJ H
    have hJl := hJ.2
    have HR := Lib.hid hr
    have HW := Lib.hid hw
    clear hJ hr hJe hw
    unfold sv
    have hb := Blk.new w 23 #[.int .i64 (gn : Int), .int .i64 (cn : Int), .int .i64 (pn : Int)]
    go_enter Tryd.func7, Tryd.ntmps7
    go_wp2_with fail
    refine (ref_RightS ⟨gn, cn, pn⟩ HW.out _).mono ?_
    rintro e w1 ⟨rfl, k1⟩
    rw [HR.out]
    have HK1 := Lib.hid k1
    obtain ⟨d0, d1, d2⟩ := agg3 hb k1
    clear hb k1
    have w1' : IntKind.u64.wrap (gn : Int) = (gn : Int) := by rw [IntWalk.u64_in _ (by omega)]
    have w2' : IntKind.u64.wrap (cn : Int) = (cn : Int) := by rw [IntWalk.u64_in _ (by omega)]
    have w3' : IntKind.u64.wrap (pn : Int) = (pn : Int) := by rw [IntWalk.u64_in _ (by omega)]
    have HB : Hid (gn < 4294967296 ∧ cn < 4294967296 ∧ pn < 4294967296) := ⟨by omega, by omega, by omega⟩
    clear hr'
    have hsl : (sealL (lettersS ++ J) 64).2 = 0 := by rw [seal_short _ (by rw [List.length_append, hJl]; decide)]
    have H2 : Hid (encS ⟨(gn : Int), (cn : Int), (pn : Int)⟩ = ((sealL (lettersS ++ J) 64).1, 0)) := by
      rw [Hid, H.out]
      show ((sealL (lettersS ++ J) 64).1, (sealL (lettersS ++ J) 64).2) = _
      rw [hsl]
    clear hsl
    go_wp2_with fail
    go_region_held3 (fun W => W.cell? ⟨w.heap.size, 0, none⟩ = some (.int .i64 (gn : Int)) ∧ W.cell? ⟨w.heap.size, 1, none⟩ = some (.int .i64 (cn : Int)) ∧ W.cell? ⟨w.heap.size, 2, none⟩ = some (.int .i64 (pn : Int))) (first | go_keep | exact ⟨((((Kept.refl [] w1).alloc _).alloc _).drew.trans k3).cell d0 (fun h => by cases h), ((((Kept.refl [] w1).alloc _).alloc _).drew.trans k3).cell d1 (fun h => by cases h), ((((Kept.refl [] w1).alloc _).alloc _).drew.trans k3).cell d2 (fun h => by cases h)⟩) ((first | (go_at_call 17; refine (ref_supers _).mono ?_; rintro e w2 ⟨rfl, rfl⟩) | (go_at_call 16; refine (sealed_three _ _ _ _ _ gn cn pn (by first | exact blk_drew ((blk_new (by simp)).alloc _) | exact blk_drew (blk_new (by simp))) (by first | exact blk_drew ((blk_new (by simp)).alloc _) | exact blk_drew (blk_new (by simp))) J HJ HB.out (by rw [List.length_append, hJl]; decide)).mono ?_; rintro e w3 ⟨rfl, k3⟩)))
    all_goals
      go_wp2_with fail
      have hk3 := Lib.hid ((((Kept.refl [] w1).alloc _).alloc _).drew.trans k3)
      clear k3
      go_ret2
      rw [H2.out]
      exact ⟨rfl, (((Kept.refl [] w).alloc _).trans HK1.out).trans hk3.out⟩
set_option maxRecDepth 8000 in
set_option maxHeartbeats 2000000 in
theorem encodes_run (w : World) (h : Su) (hg : wfS h) :
    Calls Tryd.prog 3 #[sv h] w fun e w' => e = .returned (.bool true) ∧ Kept [] w w' := by
  obtain ⟨g, c, p⟩ := h
  unfold sv
  go_enter Tryd.func3, Tryd.ntmps3
  go_wp2_with fail
  refine (super_Encode _ ⟨g, c, p⟩ hg).mono ?_
  rintro e w1 ⟨rfl, k1⟩
  have hb1 := (Blk.new w 23 #[.int .i64 g, .int .i64 c, .int .i64 p]).kept k1 (fun h => by cases h)
  have HB1 := Lib.hid hb1
  have HK1 := Lib.hid (((Kept.refl [] w).alloc _).trans k1)
  obtain ⟨q0, q1, q2⟩ := agg3 hb1 (Kept.refl [] w1)
  clear hb1 k1
  go_wp2_with fail
  refine (ref_EncodeS _ ⟨g, c, p⟩ hg).mono ?_
  rintro e w2 ⟨rfl, k2⟩
  have HB2 := Lib.hid (blk_drew (HB1.out.kept k2 (fun h => by cases h)))
  have HK2 := Lib.hid (HK1.out.trans k2)
  clear q0 q1 q2 k2 HB1 HK1
  generalize (encS ⟨g, c, p⟩).1 = E1 at *
  generalize (encS ⟨g, c, p⟩).2 = E2 at *
  obtain ⟨r, hr⟩ : ∃ r, rightS ⟨g, c, p⟩ = r := ⟨_, rfl⟩
  have HR := Lib.hid hr
  clear hr
  go_wp2_with fail
  go_region_held3 (fun W => W.cell? ⟨w.heap.size, 0, none⟩ = some (.int .i64 g) ∧ W.cell? ⟨w.heap.size, 1, none⟩ = some (.int .i64 c) ∧ W.cell? ⟨w.heap.size, 2, none⟩ = some (.int .i64 p)) (first | exact agg3 HB2.out ((ka.trans kb).trans kc) | exact agg3 HB2.out ((ka.trans kc).trans kb) | exact agg3 HB2.out (ka.trans kb) | exact agg3 HB2.out (ka.trans kc) | exact agg3 HB2.out ka | exact agg3 HB2.out (Kept.refl [] _)) ((first | (go_at_call 8; refine (super_alive _).mono ?_; rintro e wa ⟨rfl, ka⟩) | (go_at_call 9; refine (super_Right ⟨g, c, p⟩ hg _).mono ?_; rw [HR.out]; rintro e wb ⟨rfl, kb⟩) | (go_at_call 10; refine (ref_RightS ⟨g, c, p⟩ hg _).mono ?_; rw [HR.out]; rintro e wc ⟨rfl, kc⟩)))
  all_goals
    go_wp2_with fail
    go_ret
    first
      | exact ⟨rfl, HK2.out.drew.trans ((ka.trans kb).trans kc)⟩
      | exact ⟨rfl, HK2.out.drew.trans ((ka.trans kc).trans kb)⟩
end Go.Proofs.YtcjdkanmbafjmaaDoor
