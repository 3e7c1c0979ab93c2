/- The law OriginArgs: its walk. -/
import Derived.Test.YtdifolhkbkaamaaOrgD
namespace Go.Proofs.Ytdifolhkbkaamaa
open Go.RowKit

theorem agg4 {w W : World} {b : Nat} {t : TypeId} {c0 c1 c2 c3 : Value} (h : Blk w b t #[c0, c1, c2, c3]) (k : Kept [] w W) :
    W.cell? ⟨b, 0, none⟩ = some c0 ∧ W.cell? ⟨b, 1, none⟩ = some c1 ∧ W.cell? ⟨b, 2, none⟩ = some c2 ∧ W.cell? ⟨b, 3, none⟩ = some c3 := by
  have h2 := h.kept k (fun h => by cases h)
  exact ⟨h2.cell 0, h2.cell 1, h2.cell 2, h2.cell 3⟩
set_option maxRecDepth 10000 in
set_option maxHeartbeats 8000000 in
theorem args_run (w : World) (h : Su) (hw : wfS h) (a : Ac) :
    Calls Try.prog 3 #[sv h, av a] w fun e w' => e = .returned (.bool true) ∧ Kept [] w w' := by
  obtain ⟨g, c, p⟩ := h
  obtain ⟨k, at_, n, data⟩ := a
  unfold sv av
  obtain ⟨fit, hfit⟩ : ∃ x, decide (data.length ≤ 8320) = x := ⟨_, rfl⟩
  have HFit := Lib.hid hfit
  clear hfit
  cases hr : rightS ⟨g, c, p⟩
  · have KA := Lib.hid (((Kept.refl [] w).alloc (.cells #[.int .i64 g, .int .i64 c, .int .i64 p] 23)).alloc (.cells #[.int .u8 (k : Int), .int .i64 at_, .int .i64 n, .string ⟨data.toArray⟩] 25))
    have HSb := Lib.hid ((Blk.new w 23 #[.int .i64 g, .int .i64 c, .int .i64 p]).alloc (.cells #[.int .u8 (k : Int), .int .i64 at_, .int .i64 n, .string ⟨data.toArray⟩] 25))
    have HAb := Lib.hid (blk_new (w := w.alloc (.cells #[.int .i64 g, .int .i64 c, .int .i64 p] 23)) (t := 25) (cs := #[.int .u8 (k : Int), .int .i64 at_, .int .i64 n, .string ⟨data.toArray⟩]) (g := w.heap.size + 1) (by simp))
    go_enter Try.func3, Try.ntmps3
    go_wp2_with fail
    refine (ref_RightS ⟨g, c, p⟩ hw _).mono ?_
    rintro e w1 ⟨rfl, k1⟩
    rw [hr]
    have KA1 := Lib.hid (KA.out.trans k1)
    have HSb1 := Lib.hid (HSb.out.kept k1 (fun h => by cases h))
    have HAb1 := Lib.hid (HAb.out.kept k1 (fun h => by cases h))
    obtain ⟨a0, a1, a2, a3⟩ := agg4 HAb1.out (Kept.refl [] _)
    clear KA HSb HAb k1
    go_wp2_with fail
    refine (law_fits ⟨k, at_, n, data⟩ _ w1.heap.size (Blk.new w1 25 #[.int .u8 (k : Int), .int .i64 at_, .int .i64 n, .string ⟨data.toArray⟩])).mono ?_
    rintro e w2 ⟨rfl, rfl⟩
    rw [HFit.out]
    obtain ⟨s0, s1, s2⟩ := agg3 (HSb1.out.alloc (.cells #[.int .u8 (k : Int), .int .i64 at_, .int .i64 n, .string ⟨data.toArray⟩] 25)) (Kept.refl [] _)
    clear a0 a1 a2 a3
    go_wp2_with fail
    refine (layout_Of ⟨g, c, p⟩ hw _).mono ?_
    rintro e w3 ⟨rfl, k3⟩
    rw [if_neg (by rw [hr]; simp), if_neg (by rw [hr]; simp), show sv zeroS = .agg #[.int .i64 0, .int .i64 0, .int .i64 0] from rfl]
    have KA3 := Lib.hid (((KA1.out.alloc (.cells #[.int .u8 (k : Int), .int .i64 at_, .int .i64 n, .string ⟨data.toArray⟩] 25)).trans k3).alloc (.cells #[.int .i64 0, .int .i64 0, .int .i64 0] 30))
    have HSb3 := Lib.hid (((HSb1.out.alloc (.cells #[.int .u8 (k : Int), .int .i64 at_, .int .i64 n, .string ⟨data.toArray⟩] 25)).kept k3 (fun h => by cases h)).alloc (.cells #[.int .i64 0, .int .i64 0, .int .i64 0] 30))
    have HAb3 := Lib.hid (((HAb1.out.alloc (.cells #[.int .u8 (k : Int), .int .i64 at_, .int .i64 n, .string ⟨data.toArray⟩] 25)).kept k3 (fun h => by cases h)).alloc (.cells #[.int .i64 0, .int .i64 0, .int .i64 0] 30))
    have HLb3 := Lib.hid (Blk.new w3 30 #[.int .i64 0, .int .i64 0, .int .i64 0])
    clear s0 s1 s2 k3 KA1 HSb1 HAb1
    go_wp2_with fail
    refine (origin_Of_nil zeroS _).mono ?_
    rintro e w4 ⟨rfl, k4⟩
    have KA4 := Lib.hid (KA3.out.trans k4)
    have HSb4 := Lib.hid (HSb3.out.kept k4 (fun h => by cases h))
    have HAb4 := Lib.hid (HAb3.out.kept k4 (fun h => by cases h))
    have HLb4 := Lib.hid (HLb3.out.kept k4 (fun h => by cases h))
    obtain ⟨l0, l1, l2⟩ := agg3 (blk_drew HLb4.out) (Kept.refl [] _)
    clear KA3 HSb3 HAb3 HLb3 k4
    go_wp2_with fail
    go_region_held3 (fun W => W.cell? ⟨w3.heap.size, 0, none⟩ = some (.int .i64 0) ∧ W.cell? ⟨w3.heap.size, 1, none⟩ = some (.int .i64 0) ∧ W.cell? ⟨w3.heap.size, 2, none⟩ = some (.int .i64 0)) (first | exact ⟨l0, l1, l2⟩ | exact agg3 (blk_drew HLb4.out) (kn.trans ko) | exact agg3 (blk_drew HLb4.out) kn | go_keep) ((first | (go_at_call 8; refine (disk_New_yes 0 _ (by decide)).mono ?_; rintro e w5 ⟨gz, Fz, rfl, hz, kn, _⟩) | (go_at_call 7; refine (origin_Of_zero gz _).mono ?_; rintro e w6 ⟨rfl, ko⟩)))
    all_goals
      have KA6 := Lib.hid (KA4.out.drew.trans (kn.trans ko))
      have HSb6 := Lib.hid ((blk_drew HSb4.out).kept (kn.trans ko) (fun h => by cases h))
      have HAb6 := Lib.hid ((blk_drew HAb4.out).kept (kn.trans ko) (fun h => by cases h))
      have HLb6 := Lib.hid ((blk_drew HLb4.out).kept (kn.trans ko) (fun h => by cases h))
      obtain ⟨a0, a1, a2, a3⟩ := agg4 HAb6.out (Kept.refl [] _)
      obtain ⟨s0, s1, s2⟩ := agg3 HSb6.out (Kept.refl [] _)
      clear KA4 HSb4 HAb4 HLb4 l0 l1 l2 kn ko
      go_wp2_with fail
      refine (org_Read_nil at_ n w6).mono ?_
      rintro e w7 ⟨rfl, rfl⟩
      go_wp2_with fail
      refine (org_Chunk_nil at_ w6).mono ?_
      rintro e w7 ⟨rfl, rfl⟩
      go_wp2_with fail
      refine (org_Write_nil at_ ⟨data.toArray⟩ w6).mono ?_
      rintro e w7 ⟨rfl, rfl⟩
      go_wp2_with fail
      refine (org_Put_nil at_ ⟨data.toArray⟩ w6).mono ?_
      rintro e w7 ⟨rfl, rfl⟩
      go_wp2_with fail
      refine (org_Flush_nil w6).mono ?_
      rintro e w7 ⟨rfl, rfl⟩
      go_wp2_with fail
      refine (org_alive w6).mono ?_
      rintro e w8 ⟨rfl, k8⟩
      go_wp2_with fail
      go_ret
      exact ⟨rfl, KA6.out.trans k8⟩
  · have hi := (rightS_iff _).1 hr
    simp only at hi
    by_cases hbig : 300 < g
    · have KA := Lib.hid (((Kept.refl [] w).alloc (.cells #[.int .i64 g, .int .i64 c, .int .i64 p] 23)).alloc (.cells #[.int .u8 (k : Int), .int .i64 at_, .int .i64 n, .string ⟨data.toArray⟩] 25))
      have HSb := Lib.hid ((Blk.new w 23 #[.int .i64 g, .int .i64 c, .int .i64 p]).alloc (.cells #[.int .u8 (k : Int), .int .i64 at_, .int .i64 n, .string ⟨data.toArray⟩] 25))
      have HAb := Lib.hid (blk_new (w := w.alloc (.cells #[.int .i64 g, .int .i64 c, .int .i64 p] 23)) (t := 25) (cs := #[.int .u8 (k : Int), .int .i64 at_, .int .i64 n, .string ⟨data.toArray⟩]) (g := w.heap.size + 1) (by simp))
      go_enter Try.func3, Try.ntmps3
      go_wp2_with fail
      refine (ref_RightS ⟨g, c, p⟩ hw _).mono ?_
      rintro e w1 ⟨rfl, k1⟩
      rw [hr]
      have KA1 := Lib.hid (KA.out.trans k1)
      have HSb1 := Lib.hid (HSb.out.kept k1 (fun h => by cases h))
      have HAb1 := Lib.hid (HAb.out.kept k1 (fun h => by cases h))
      obtain ⟨a0, a1, a2, a3⟩ := agg4 HAb1.out (Kept.refl [] _)
      clear KA HSb HAb k1
      go_wp2_with fail
      refine (law_fits ⟨k, at_, n, data⟩ _ w1.heap.size (Blk.new w1 25 #[.int .u8 (k : Int), .int .i64 at_, .int .i64 n, .string ⟨data.toArray⟩])).mono ?_
      rintro e w2 ⟨rfl, rfl⟩
      rw [HFit.out]
      obtain ⟨s0, s1, s2⟩ := agg3 (HSb1.out.alloc (.cells #[.int .u8 (k : Int), .int .i64 at_, .int .i64 n, .string ⟨data.toArray⟩] 25)) (Kept.refl [] _)
      clear a0 a1 a2 a3
      go_wp2_with fail
      refine (layout_Of ⟨g, c, p⟩ hw _).mono ?_
      rintro e w3 ⟨rfl, k3⟩
      rw [if_pos hr, if_pos hr, show sv ⟨g, c, p⟩ = .agg #[.int .i64 g, .int .i64 c, .int .i64 p] from rfl]
      have KA3 := Lib.hid (((KA1.out.alloc (.cells #[.int .u8 (k : Int), .int .i64 at_, .int .i64 n, .string ⟨data.toArray⟩] 25)).trans k3).alloc (.cells #[.int .i64 g, .int .i64 c, .int .i64 p] 30))
      have HSb3 := Lib.hid (((HSb1.out.alloc (.cells #[.int .u8 (k : Int), .int .i64 at_, .int .i64 n, .string ⟨data.toArray⟩] 25)).kept k3 (fun h => by cases h)).alloc (.cells #[.int .i64 g, .int .i64 c, .int .i64 p] 30))
      have HAb3 := Lib.hid (((HAb1.out.alloc (.cells #[.int .u8 (k : Int), .int .i64 at_, .int .i64 n, .string ⟨data.toArray⟩] 25)).kept k3 (fun h => by cases h)).alloc (.cells #[.int .i64 g, .int .i64 c, .int .i64 p] 30))
      have HLb3 := Lib.hid (Blk.new w3 30 #[.int .i64 g, .int .i64 c, .int .i64 p])
      clear s0 s1 s2 k3 KA1 HSb1 HAb1
      go_wp2_with fail
      refine (origin_Of_nil ⟨g, c, p⟩ _).mono ?_
      rintro e w4 ⟨rfl, k4⟩
      have KA4 := Lib.hid (KA3.out.trans k4)
      have HSb4 := Lib.hid (HSb3.out.kept k4 (fun h => by cases h))
      have HAb4 := Lib.hid (HAb3.out.kept k4 (fun h => by cases h))
      have HLb4 := Lib.hid (HLb3.out.kept k4 (fun h => by cases h))
      obtain ⟨l0, l1, l2⟩ := agg3 (blk_drew HLb4.out) (Kept.refl [] _)
      clear KA3 HSb3 HAb3 HLb3 k4
      go_wp2_with fail
      go_region_held3 (fun W => W.cell? ⟨w3.heap.size, 0, none⟩ = some (.int .i64 g) ∧ W.cell? ⟨w3.heap.size, 1, none⟩ = some (.int .i64 c) ∧ W.cell? ⟨w3.heap.size, 2, none⟩ = some (.int .i64 p)) (first | exact ⟨l0, l1, l2⟩ | exact agg3 (blk_drew HLb4.out) (kn.trans ko) | exact agg3 (blk_drew HLb4.out) kn | go_keep) ((first | (go_at_call 8; refine (disk_New_yes 0 _ (by decide)).mono ?_; rintro e w5 ⟨gz, Fz, rfl, hz, kn, _⟩) | (go_at_call 7; refine (origin_Of_some ⟨g, c, p⟩ hr _ gz Fz _ hz).mono ?_; rintro e w6 ⟨ko, ho⟩; rw [if_pos (by simp; omega)] at ho; subst ho)))
      all_goals
        have KA6 := Lib.hid (KA4.out.drew.trans (kn.trans ko))
        have HSb6 := Lib.hid ((blk_drew HSb4.out).kept (kn.trans ko) (fun h => by cases h))
        have HAb6 := Lib.hid ((blk_drew HAb4.out).kept (kn.trans ko) (fun h => by cases h))
        have HLb6 := Lib.hid ((blk_drew HLb4.out).kept (kn.trans ko) (fun h => by cases h))
        obtain ⟨a0, a1, a2, a3⟩ := agg4 HAb6.out (Kept.refl [] _)
        obtain ⟨s0, s1, s2⟩ := agg3 HSb6.out (Kept.refl [] _)
        clear KA4 HSb4 HAb4 HLb4 l0 l1 l2 kn ko
        go_wp2_with fail
        refine (org_Read_nil at_ n w6).mono ?_
        rintro e w7 ⟨rfl, rfl⟩
        go_wp2_with fail
        refine (org_Chunk_nil at_ w6).mono ?_
        rintro e w7 ⟨rfl, rfl⟩
        go_wp2_with fail
        refine (org_Write_nil at_ ⟨data.toArray⟩ w6).mono ?_
        rintro e w7 ⟨rfl, rfl⟩
        go_wp2_with fail
        refine (org_Put_nil at_ ⟨data.toArray⟩ w6).mono ?_
        rintro e w7 ⟨rfl, rfl⟩
        go_wp2_with fail
        refine (org_Flush_nil w6).mono ?_
        rintro e w7 ⟨rfl, rfl⟩
        go_wp2_with fail
        refine (org_alive w6).mono ?_
        rintro e w8 ⟨rfl, k8⟩
        go_wp2_with fail
        go_ret
        exact ⟨rfl, KA6.out.trans k8⟩
    · cases fit
      · have KA := Lib.hid (((Kept.refl [] w).alloc (.cells #[.int .i64 g, .int .i64 c, .int .i64 p] 23)).alloc (.cells #[.int .u8 (k : Int), .int .i64 at_, .int .i64 n, .string ⟨data.toArray⟩] 25))
        have HSb := Lib.hid ((Blk.new w 23 #[.int .i64 g, .int .i64 c, .int .i64 p]).alloc (.cells #[.int .u8 (k : Int), .int .i64 at_, .int .i64 n, .string ⟨data.toArray⟩] 25))
        have HAb := Lib.hid (blk_new (w := w.alloc (.cells #[.int .i64 g, .int .i64 c, .int .i64 p] 23)) (t := 25) (cs := #[.int .u8 (k : Int), .int .i64 at_, .int .i64 n, .string ⟨data.toArray⟩]) (g := w.heap.size + 1) (by simp))
        go_enter Try.func3, Try.ntmps3
        go_wp2_with fail
        refine (ref_RightS ⟨g, c, p⟩ hw _).mono ?_
        rintro e w1 ⟨rfl, k1⟩
        rw [hr]
        have KA1 := Lib.hid (KA.out.trans k1)
        have HSb1 := Lib.hid (HSb.out.kept k1 (fun h => by cases h))
        have HAb1 := Lib.hid (HAb.out.kept k1 (fun h => by cases h))
        obtain ⟨a0, a1, a2, a3⟩ := agg4 HAb1.out (Kept.refl [] _)
        clear KA HSb HAb k1
        go_wp2_with fail
        refine (law_fits ⟨k, at_, n, data⟩ _ w1.heap.size (Blk.new w1 25 #[.int .u8 (k : Int), .int .i64 at_, .int .i64 n, .string ⟨data.toArray⟩])).mono ?_
        rintro e w2 ⟨rfl, rfl⟩
        rw [HFit.out]
        obtain ⟨s0, s1, s2⟩ := agg3 (HSb1.out.alloc (.cells #[.int .u8 (k : Int), .int .i64 at_, .int .i64 n, .string ⟨data.toArray⟩] 25)) (Kept.refl [] _)
        clear a0 a1 a2 a3
        go_wp2_with fail
        refine (layout_Of ⟨g, c, p⟩ hw _).mono ?_
        rintro e w3 ⟨rfl, k3⟩
        rw [if_pos hr, if_pos hr, show sv ⟨g, c, p⟩ = .agg #[.int .i64 g, .int .i64 c, .int .i64 p] from rfl]
        have KA3 := Lib.hid (((KA1.out.alloc (.cells #[.int .u8 (k : Int), .int .i64 at_, .int .i64 n, .string ⟨data.toArray⟩] 25)).trans k3).alloc (.cells #[.int .i64 g, .int .i64 c, .int .i64 p] 30))
        have HSb3 := Lib.hid (((HSb1.out.alloc (.cells #[.int .u8 (k : Int), .int .i64 at_, .int .i64 n, .string ⟨data.toArray⟩] 25)).kept k3 (fun h => by cases h)).alloc (.cells #[.int .i64 g, .int .i64 c, .int .i64 p] 30))
        have HAb3 := Lib.hid (((HAb1.out.alloc (.cells #[.int .u8 (k : Int), .int .i64 at_, .int .i64 n, .string ⟨data.toArray⟩] 25)).kept k3 (fun h => by cases h)).alloc (.cells #[.int .i64 g, .int .i64 c, .int .i64 p] 30))
        have HLb3 := Lib.hid (Blk.new w3 30 #[.int .i64 g, .int .i64 c, .int .i64 p])
        clear s0 s1 s2 k3 KA1 HSb1 HAb1
        go_wp2_with fail
        refine (origin_Of_nil ⟨g, c, p⟩ _).mono ?_
        rintro e w4 ⟨rfl, k4⟩
        have KA4 := Lib.hid (KA3.out.trans k4)
        have HSb4 := Lib.hid (HSb3.out.kept k4 (fun h => by cases h))
        have HAb4 := Lib.hid (HAb3.out.kept k4 (fun h => by cases h))
        have HLb4 := Lib.hid (HLb3.out.kept k4 (fun h => by cases h))
        obtain ⟨l0, l1, l2⟩ := agg3 (blk_drew HLb4.out) (Kept.refl [] _)
        clear KA3 HSb3 HAb3 HLb3 k4
        go_wp2_with fail
        go_region_held3 (fun W => W.cell? ⟨w3.heap.size, 0, none⟩ = some (.int .i64 g) ∧ W.cell? ⟨w3.heap.size, 1, none⟩ = some (.int .i64 c) ∧ W.cell? ⟨w3.heap.size, 2, none⟩ = some (.int .i64 p)) (first | exact ⟨l0, l1, l2⟩ | exact agg3 (blk_drew HLb4.out) (kn.trans ko) | exact agg3 (blk_drew HLb4.out) kn | go_keep) ((first | (go_at_call 8; refine (disk_New_yes 0 _ (by decide)).mono ?_; rintro e w5 ⟨gz, Fz, rfl, hz, kn, _⟩) | (go_at_call 7; refine (origin_Of_some ⟨g, c, p⟩ hr _ gz Fz _ hz).mono ?_; rintro e w6 ⟨ko, ho⟩; rw [if_pos (by simp; omega)] at ho; subst ho)))
        all_goals
          have KA6 := Lib.hid (KA4.out.drew.trans (kn.trans ko))
          have HSb6 := Lib.hid ((blk_drew HSb4.out).kept (kn.trans ko) (fun h => by cases h))
          have HAb6 := Lib.hid ((blk_drew HAb4.out).kept (kn.trans ko) (fun h => by cases h))
          have HLb6 := Lib.hid ((blk_drew HLb4.out).kept (kn.trans ko) (fun h => by cases h))
          obtain ⟨a0, a1, a2, a3⟩ := agg4 HAb6.out (Kept.refl [] _)
          obtain ⟨s0, s1, s2⟩ := agg3 HSb6.out (Kept.refl [] _)
          clear KA4 HSb4 HAb4 HLb4 l0 l1 l2 kn ko
          go_wp2_with fail
          refine (org_Read_nil at_ n w6).mono ?_
          rintro e w7 ⟨rfl, rfl⟩
          go_wp2_with fail
          refine (org_Chunk_nil at_ w6).mono ?_
          rintro e w7 ⟨rfl, rfl⟩
          go_wp2_with fail
          refine (org_Write_nil at_ ⟨data.toArray⟩ w6).mono ?_
          rintro e w7 ⟨rfl, rfl⟩
          go_wp2_with fail
          refine (org_Put_nil at_ ⟨data.toArray⟩ w6).mono ?_
          rintro e w7 ⟨rfl, rfl⟩
          go_wp2_with fail
          refine (org_Flush_nil w6).mono ?_
          rintro e w7 ⟨rfl, rfl⟩
          go_wp2_with fail
          refine (org_alive w6).mono ?_
          rintro e w8 ⟨rfl, k8⟩
          go_wp2_with fail
          go_ret
          exact ⟨rfl, KA6.out.trans k8⟩
      · obtain ⟨gn, rfl⟩ : ∃ m : Nat, g = m := ⟨g.toNat, by omega⟩
        have KA := Lib.hid (((Kept.refl [] w).alloc (.cells #[.int .i64 (gn : Int), .int .i64 c, .int .i64 p] 23)).alloc (.cells #[.int .u8 (k : Int), .int .i64 at_, .int .i64 n, .string ⟨data.toArray⟩] 25))
        have HSb := Lib.hid ((Blk.new w 23 #[.int .i64 (gn : Int), .int .i64 c, .int .i64 p]).alloc (.cells #[.int .u8 (k : Int), .int .i64 at_, .int .i64 n, .string ⟨data.toArray⟩] 25))
        have HAb := Lib.hid (blk_new (w := w.alloc (.cells #[.int .i64 (gn : Int), .int .i64 c, .int .i64 p] 23)) (t := 25) (cs := #[.int .u8 (k : Int), .int .i64 at_, .int .i64 n, .string ⟨data.toArray⟩]) (g := w.heap.size + 1) (by simp))
        go_enter Try.func3, Try.ntmps3
        go_wp2_with fail
        refine (ref_RightS ⟨(gn : Int), c, p⟩ hw _).mono ?_
        rintro e w1 ⟨rfl, k1⟩
        rw [hr]
        have KA1 := Lib.hid (KA.out.trans k1)
        have HSb1 := Lib.hid (HSb.out.kept k1 (fun h => by cases h))
        have HAb1 := Lib.hid (HAb.out.kept k1 (fun h => by cases h))
        obtain ⟨a0, a1, a2, a3⟩ := agg4 HAb1.out (Kept.refl [] _)
        clear KA HSb HAb k1
        go_wp2_with fail
        refine (law_fits ⟨k, at_, n, data⟩ _ w1.heap.size (Blk.new w1 25 #[.int .u8 (k : Int), .int .i64 at_, .int .i64 n, .string ⟨data.toArray⟩])).mono ?_
        rintro e w2 ⟨rfl, rfl⟩
        rw [HFit.out]
        obtain ⟨s0, s1, s2⟩ := agg3 (HSb1.out.alloc (.cells #[.int .u8 (k : Int), .int .i64 at_, .int .i64 n, .string ⟨data.toArray⟩] 25)) (Kept.refl [] _)
        clear a0 a1 a2 a3
        go_wp2_with fail
        refine (layout_Of ⟨(gn : Int), c, p⟩ hw _).mono ?_
        rintro e w3 ⟨rfl, k3⟩
        rw [if_pos hr, if_pos hr, show sv ⟨(gn : Int), c, p⟩ = .agg #[.int .i64 (gn : Int), .int .i64 c, .int .i64 p] from rfl]
        have KA3 := Lib.hid (((KA1.out.alloc (.cells #[.int .u8 (k : Int), .int .i64 at_, .int .i64 n, .string ⟨data.toArray⟩] 25)).trans k3).alloc (.cells #[.int .i64 (gn : Int), .int .i64 c, .int .i64 p] 30))
        have HSb3 := Lib.hid (((HSb1.out.alloc (.cells #[.int .u8 (k : Int), .int .i64 at_, .int .i64 n, .string ⟨data.toArray⟩] 25)).kept k3 (fun h => by cases h)).alloc (.cells #[.int .i64 (gn : Int), .int .i64 c, .int .i64 p] 30))
        have HAb3 := Lib.hid (((HAb1.out.alloc (.cells #[.int .u8 (k : Int), .int .i64 at_, .int .i64 n, .string ⟨data.toArray⟩] 25)).kept k3 (fun h => by cases h)).alloc (.cells #[.int .i64 (gn : Int), .int .i64 c, .int .i64 p] 30))
        have HLb3 := Lib.hid (Blk.new w3 30 #[.int .i64 (gn : Int), .int .i64 c, .int .i64 p])
        clear s0 s1 s2 k3 KA1 HSb1 HAb1
        go_wp2_with fail
        refine (origin_Of_nil ⟨(gn : Int), c, p⟩ _).mono ?_
        rintro e w4 ⟨rfl, k4⟩
        have KA4 := Lib.hid (KA3.out.trans k4)
        have HSb4 := Lib.hid (HSb3.out.kept k4 (fun h => by cases h))
        have HAb4 := Lib.hid (HAb3.out.kept k4 (fun h => by cases h))
        have HLb4 := Lib.hid (HLb3.out.kept k4 (fun h => by cases h))
        obtain ⟨l0, l1, l2⟩ := agg3 (blk_drew HLb4.out) (Kept.refl [] _)
        clear KA3 HSb3 HAb3 HLb3 k4
        go_wp2_with fail
        go_region_held3 (fun W => W.cell? ⟨w3.heap.size, 0, none⟩ = some (.int .i64 (gn : Int)) ∧ W.cell? ⟨w3.heap.size, 1, none⟩ = some (.int .i64 c) ∧ W.cell? ⟨w3.heap.size, 2, none⟩ = some (.int .i64 p)) (first | exact ⟨l0, l1, l2⟩ | exact agg3 (blk_drew HLb4.out) (kn.trans ko) | exact agg3 (blk_drew HLb4.out) kn | go_keep) ((first | (go_at_call 8; refine (disk_New_yes 0 _ (by decide)).mono ?_; rintro e w5 ⟨gz, Fz, rfl, hz, kn, _⟩) | (go_at_call 7; refine (origin_Of_some ⟨(gn : Int), c, p⟩ hr _ gz Fz _ hz).mono ?_; rintro e w6 ⟨ko, ho⟩; rw [if_pos (by simp; omega)] at ho; subst ho)))
        all_goals
          have KA6 := Lib.hid (KA4.out.drew.trans (kn.trans ko))
          have HSb6 := Lib.hid ((blk_drew HSb4.out).kept (kn.trans ko) (fun h => by cases h))
          have HAb6 := Lib.hid ((blk_drew HAb4.out).kept (kn.trans ko) (fun h => by cases h))
          have HLb6 := Lib.hid ((blk_drew HLb4.out).kept (kn.trans ko) (fun h => by cases h))
          obtain ⟨a0, a1, a2, a3⟩ := agg4 HAb6.out (Kept.refl [] _)
          obtain ⟨s0, s1, s2⟩ := agg3 HSb6.out (Kept.refl [] _)
          clear KA4 HSb4 HAb4 HLb4 l0 l1 l2 kn ko
          go_wp2_with fail
          refine (org_Read_nil at_ n w6).mono ?_
          rintro e w7 ⟨rfl, rfl⟩
          go_wp2_with fail
          refine (org_Chunk_nil at_ w6).mono ?_
          rintro e w7 ⟨rfl, rfl⟩
          go_wp2_with fail
          refine (org_Write_nil at_ ⟨data.toArray⟩ w6).mono ?_
          rintro e w7 ⟨rfl, rfl⟩
          go_wp2_with fail
          refine (org_Put_nil at_ ⟨data.toArray⟩ w6).mono ?_
          rintro e w7 ⟨rfl, rfl⟩
          go_wp2_with fail
          refine (org_Flush_nil w6).mono ?_
          rintro e w7 ⟨rfl, rfl⟩
          go_wp2_with fail
          refine (disk_New_yes gn w6 (by omega)).mono ?_
          rintro e w7 ⟨gd, F, rfl, hd, k7, hF⟩
          obtain ⟨l0, l1, l2⟩ := agg3 HLb6.out k7
          have KA7 := Lib.hid (KA6.out.trans k7)
          have HF := Lib.hid (fun x hx => Nat.le_trans KA6.out.size (hF x hx))
          clear a0 a1 a2 a3 s0 s1 s2
          go_wp2_with fail
          refine (origin_Of_some ⟨(gn : Int), c, p⟩ hr _ gd F _ hd).mono ?_
          rintro e w8 ⟨k8, hB⟩
          rw [if_neg (by simp)] at hB
          obtain ⟨B, rfl, hBw, hBB⟩ := hB
          have HB8 : Hid (OB w8 B gd c p) := hBB
          have hBF : B ∉ F := fun h => by
            have := hd.lt B h
            omega
          have hd8 := hd.kept k8 (fun x hx h => by cases h)
          have KA8 := Lib.hid (KA7.out.trans k8)
          clear hd k7 k8 hF hBB l0 l1 l2
          go_wp2_with fail
          refine (disk_Fail w8 gd F _ hd8 0 (by decide) (by decide)).mono ?_
          rintro e w9 ⟨rfl, hd9, k9⟩
          have hgF := hd8.mem_self
          have HB9 := Lib.hid (HB8.out.kept k9 (fun h => hBF (by simp at h; rw [h]; exact hgF)))
          have KA9 := Lib.hid (KA8.out.trans' k9 (fun x hx => .inr (by simp at hx; rw [hx]; exact HF.out gd hgF)))
          obtain ⟨D1, hD1⟩ : ∃ D1 : D, (D.mk (List.replicate gn zsec) [] 0 true) = D1 := ⟨_, rfl⟩
          have hfl : (D.mk (List.replicate gn zsec) [] (max 0 (-1)) false).flush = (41, D1) := by rw [← hD1]; rfl
          have hfl2 : D1.flush = (41, D1) := by rw [← hD1]; rfl
          have hrd : ∀ x y, D1.read x y = ([], 41) := fun x y => by rw [← hD1]; rfl
          clear hd8 k9 KA8 HB8 hD1
          have HFl := Lib.hid (disk_Flush w9 gd F _ hd9)
          go_wp2_with fail
          refine HFl.out.mono ?_
          rintro e w10 ⟨rfl, ⟨F2, hd10, hF2⟩, k10⟩
          rw [show ({ ss := List.replicate gn zsec, ps := [], fuse := max 0 (-1), dead := false } : D).flush = (41, D1) from hfl] at hd10 ⊢
          have HB10 := Lib.hid (HB9.out.kept k10 hBF)
          have KA10 := Lib.hid (KA9.out.trans' k10 (fun x hx => .inr (HF.out x hx)))
          have hGc : rightG c p = true := by simp [rightG]; omega
          have HR := org_Read_one w10 B gd F2 D1 c p 0 HB10.out hd10 hGc (by omega) (by omega)
          rw [hrd] at HR
          have HR := Lib.hid HR
          have HD10 := Lib.hid hd10
          clear hd9 k10 KA9 HB9 HFl hd10 hfl
          go_wp2_with fail
          refine HR.out.mono ?_
          rintro e w11 ⟨rfl, k11⟩
          have HB11 := Lib.hid (HB10.out.kept k11 (fun h => by cases h))
          have HD11 := Lib.hid (HD10.out.kept k11 (fun x hx h => by cases h))
          have KA11 := Lib.hid (KA10.out.trans k11)
          have hch : 0 < (c + p - 1) / p := by
            have : 1 ≤ (c + p - 1) / p := by rw [Int.le_ediv_iff_mul_le (by omega)]; omega
            omega
          have HC := Lib.hid (org_Chunk w11 B gd F2 D1 c p 0 0 (min p (c - 0)) [] 41 (p * 64).toNat HB11.out HD11.out hGc (by omega) hch (by omega) rfl (by omega) (hrd _ _) (by simp; omega))
          clear k11 HR HB10 HD10 KA10 hch hrd
          go_wp2_with fail
          refine HC.out.mono ?_
          rintro e w12 ⟨he, k12⟩
          rw [if_neg (by decide)] at he
          subst he
          have HB12 := Lib.hid (HB11.out.kept k12 (fun h => by cases h))
          have HD12 := Lib.hid (HD11.out.kept k12 (fun x hx h => by cases h))
          have KA12 := Lib.hid (KA11.out.trans k12)
          clear HC HB11 HD11 KA11 k12
          go_wp2_with fail
          refine (org_alive w12).mono ?_
          rintro e w13 ⟨rfl, k13⟩
          have HB13 := Lib.hid (HB12.out.kept k13 (fun h => by cases h))
          have HD13 := Lib.hid (HD12.out.kept k13 (fun x hx h => by cases h))
          have KA13 := Lib.hid (KA12.out.trans k13)
          have HFn := org_Flush w13 B gd F2 D1 c p HB13.out HD13.out
          rw [hfl2] at HFn
          have HFn := Lib.hid HFn
          clear HB12 HD12 KA12 k13 hfl2
          go_wp2_with fail
          refine HFn.out.mono ?_
          rintro e w14 ⟨rfl, _, k14⟩
          go_wp2_with fail
          go_ret
          exact ⟨rfl, KA13.out.trans' k14 (fun x hx => .inr (HF.out x (hF2 x hx)))⟩
end Go.Proofs.Ytdifolhkbkaamaa
