/- A superblock: what the document reads of a sector; the law SuperDecodes: its walk. -/
import Derived.Test.YtcjdkanmbafjmaaDoorSuH
namespace Go.Proofs.YtcjdkanmbafjmaaDoor
open Go.RowKit

set_option maxRecDepth 4000 in
set_option maxHeartbeats 1000000 in
theorem ref_opened (w : World) (s : List UInt8) (A : Option Addr) (c : Nat) (L : List UInt8) (zs : List Int) (hA : Rd w w.heap.size 1 A zs.length (zs.map iv)) (hn : zs.length ≤ 1000) (hs : s.length ≤ 4096) (q : List Nat × Int)
    (hq : q = if s.length ≠ 64 then ([], 21) else if (openL s).2 ≠ 0 then ([], (openL s).2) else if (openL s).1.take 4 ≠ L then ([], 22) else if (getL ((openL s).1.drop 4) zs).2.1.all (· == 0) = false then ([], 32) else ((getL ((openL s).1.drop 4) zs).1, 0)) :
    Calls Tryd.prog 25 #[.string ⟨s.toArray⟩, .string ⟨L.toArray⟩, .slice A zs.length c] w fun e w' => ∃ A' c', e = .returned (.tuple #[.slice A' q.1.length c', .int .i64 q.2]) ∧ Kept [] w w' ∧ Rd w' w'.heap.size 1 A' q.1.length (q.1.map uv) ∧ q.1.length ≤ c' := by
  have HQ := Lib.hid hq
  clear hq
  by_cases h64 : s.length = 64
  · by_cases h2 : (openL s).2 = 0
    · have hB60 : (openL s).1.length = 60 := by rw [(open_64 s h64 h2).1]; simp; omega
      have HA := Lib.hid hA
      have HQ2 : Hid (q = if (openL s).1.take 4 ≠ L then ([], 22) else if (getL ((openL s).1.drop 4) zs).2.1.all (· == 0) = false then ([], 32) else ((getL ((openL s).1.drop 4) zs).1, 0)) := by
        rw [Hid, HQ.out, if_neg (by rw [h64]; simp), if_neg (by rw [h2]; simp)]
      clear hA HQ
      go_enter Tryd.func25, Tryd.ntmps25
      go_wp2_with fail
      refine (ref_Open s _ hs).mono ?_
      rintro e w1 ⟨rfl, k1⟩
      rw [h2]
      clear h2
      generalize (openL s).1 = B at *
      have x1 : (⟨B.toArray⟩ : ByteArray).extract 0 4 = ⟨(B.take 4).toArray⟩ := by rw [extract_list3]; simp
      have x2 : (⟨B.toArray⟩ : ByteArray).extract 4 60 = ⟨(B.drop 4).toArray⟩ := by rw [extract_list3, List.take_of_length_le]; simp; omega
      by_cases h3 : B.take 4 = L
      · have hC : (B.drop 4).length ≤ 60 := by simp; omega
        have HQ3 : Hid (q = if (getL (B.drop 4) zs).2.1.all (· == 0) = false then ([], 32) else ((getL (B.drop 4) zs).1, 0)) := by
          rw [Hid, HQ2.out, if_neg (by rw [h3]; simp)]
        rw [h3] at x1
        clear h3 HQ2
        generalize B.drop 4 = C at *
        have HG := Lib.hid (ref_Get w1 C A c zs (rd_grow HA.out k1) (by omega) (by omega))
        go_wp2_with fail
        refine HG.out.mono ?_
        rintro e w2 ⟨A3, c3, rfl, k2, hown⟩
        have hrest := got_rest C zs
        have HO := Lib.hid hown
        clear HG hown
        obtain ⟨m, hm⟩ : ∃ m, (getL C zs).1 = m := ⟨_, rfl⟩
        obtain ⟨f, hf⟩ : ∃ f, (getL C zs).2.2 = f := ⟨_, rfl⟩
        rw [hm] at HO HQ3 ⊢
        rw [hf]
        clear hm hf
        generalize (getL C zs).2.1 = r at *
        have hr : r.length ≤ 1000000 := by omega
        go_wp2_with fail
        refine (ref_Zero r w2 hr).mono ?_
        rintro e w3 ⟨rfl, rfl⟩
        by_cases hz : r.all (· == 0) = true
        · have HF : Hid (q = (m, 0)) := by rw [Hid, HQ3.out, if_neg (by rw [hz]; simp)]
          rw [hz]
          clear hz HQ3
          go_wp2_with fail
          go_ret2
          rw [HF.out]
          obtain ⟨_, _, e5, h5⟩ := own_slice HO.out
          injection e5 with _ _ e5
          subst e5
          exact ⟨A3, c3, rfl, k1.trans k2, Rd.of_own HO.out, h5⟩
        · have hz : r.all (· == 0) = false := by simpa using hz
          have HF : Hid (q = ([], 32)) := by rw [Hid, HQ3.out, if_pos hz]
          rw [hz]
          clear hz HQ3
          go_wp2_with fail
          go_ret2
          rw [HF.out]
          exact ⟨none, 0, rfl, k1.trans k2, Rd.nil _ _ _ _, Nat.le_refl _⟩
      · have HF : Hid (q = ([], 22)) := by rw [Hid, HQ2.out, if_pos h3]
        have hne : (B.take 4 == L) = false := by
          rw [beq_eq_false_iff_ne]
          exact h3
        clear h3 HQ2
        go_wp2_with fail
        go_ret2
        rw [HF.out]
        exact ⟨none, 0, rfl, k1, Rd.nil _ _ _ _, Nat.le_refl _⟩
    · have HF : Hid (q = ([], (openL s).2)) := by rw [Hid, HQ.out, if_neg (by rw [h64]; simp), if_pos h2]
      go_enter Tryd.func25, Tryd.ntmps25
      go_wp2_with fail
      refine (ref_Open s _ hs).mono ?_
      rintro e w1 ⟨rfl, k1⟩
      generalize (openL s).1 = B at *
      generalize (openL s).2 = f at *
      go_wp2_with fail
      go_ret2
      rw [HF.out]
      exact ⟨none, 0, rfl, k1, Rd.nil _ _ _ _, Nat.le_refl _⟩
  · have HF : Hid (q = ([], 21)) := by rw [Hid, HQ.out, if_pos h64]
    have hne : ¬ ((s.length : Int) = 64) := by omega
    clear h64
    go_enter Tryd.func25, Tryd.ntmps25
    go_wp2_with fail
    go_ret2
    rw [HF.out]
    exact ⟨none, 0, rfl, Kept.refl _ _, Rd.nil _ _ _ _, Nat.le_refl _⟩

def DecS (w : World) (s : List UInt8) (e : Ending) (w' : World) : Prop := e = .returned (.tuple #[sv (decS s).1, .int .i64 (decS s).2]) ∧ Kept [] w w'
def OutS (w W : World) (b : Nat) : Prop := w.heap.size ≤ b ∧ Blk W b 23 #[.int .i64 0, .int .i64 0, .int .i64 0]
theorem OutS.facts {w W : World} {b : Nat} (h : OutS w W b) : W.cell? ⟨b, 0, none⟩ = some (.int .i64 0) ∧ W.cell? ⟨b, 1, none⟩ = some (.int .i64 0) ∧ W.cell? ⟨b, 2, none⟩ = some (.int .i64 0) ∧ W.frozen? ⟨b, 0, none⟩ = false ∧ W.frozen? ⟨b, 1, none⟩ = false ∧ W.frozen? ⟨b, 2, none⟩ = false :=
  ⟨h.2.cell 0, h.2.cell 1, h.2.cell 2, h.2.frozen 0, h.2.frozen 1, h.2.frozen 2⟩
theorem outS {w W : World} (k : Kept [] (w.alloc (.cells #[.int .i64 0, .int .i64 0, .int .i64 0] 23)) W) : OutS w W w.heap.size :=
  ⟨Nat.le_refl _, (Blk.new w 23 #[.int .i64 0, .int .i64 0, .int .i64 0]).kept k (fun h => by cases h)⟩
set_option maxRecDepth 4000 in
set_option maxHeartbeats 1000000 in
theorem ref_DecodeS (w : World) (s : List UInt8) (hs : s.length ≤ 4096) :
    Calls Tryd.prog 12 #[.string ⟨s.toArray⟩] w (DecS w s) := by
  have KA : Kept [] w (w.alloc (.cells #[.int .i64 0, .int .i64 0, .int .i64 0] 23)) := (Kept.refl [] w).alloc _
  have KA := Lib.hid KA
  obtain ⟨q, hq⟩ : ∃ q, q = if s.length ≠ 64 then ([], 21) else if (openL s).2 ≠ 0 then ([], (openL s).2) else if (openL s).1.take 4 ≠ lettersS then ([], 22) else if (getL ((openL s).1.drop 4) zsS).2.1.all (· == 0) = false then ([], 32) else ((getL ((openL s).1.drop 4) zsS).1, 0) := ⟨_, rfl⟩
  have HD : Hid (decS s = if q.2 ≠ 0 then (zeroS, q.2) else if rightS (ofS q.1) = true then (ofS q.1, 0) else (zeroS, 32)) := by
    rw [Hid, ← docS_decS, docS, hq]
    repeat' split
    all_goals first | rfl | (exfalso; simp_all; done) | skip
  have HN : Hid (q.2 = 0 → ∃ a b c, q.1 = [a, b, c] ∧ a < 4294967296 ∧ b < 4294967296 ∧ c < 4294967296) := by
    intro h
    rw [hq] at h ⊢
    by_cases c1 : s.length ≠ 64
    · rw [if_pos c1] at h
      exact absurd h (by decide)
    · by_cases c2 : (openL s).2 ≠ 0
      · rw [if_neg c1, if_pos c2] at h
        exact absurd h c2
      · by_cases c3 : (openL s).1.take 4 ≠ lettersS
        · rw [if_neg c1, if_neg c2, if_pos c3] at h
          exact absurd h (by decide)
        · by_cases c4 : (getL ((openL s).1.drop 4) zsS).2.1.all (· == 0) = false
          · rw [if_neg c1, if_neg c2, if_neg c3, if_pos c4] at h
            exact absurd h (by decide)
          · rw [if_neg c1, if_neg c2, if_neg c3, if_neg c4]
            have hB : (openL s).1.length = 60 := by rw [(open_64 s (by omega) (by omega)).1]; simp; omega
            obtain ⟨a, b, c, hg, h1⟩ := got_12 ((openL s).1.drop 4) (by simp; omega)
            exact ⟨a, b, c, by rw [hg], h1⟩
  have HO := Lib.hid (fun W A c hA => ref_opened W s A c lettersS zsS hA (by decide) hs q hq)
  clear hq
  go_enter Tryd.func12, Tryd.ntmps12
  go_wp2_with fail
  refine (ref_supers _).mono ?_
  rintro e w1 ⟨rfl, rfl⟩
  have HO2 := Lib.hid (HO.out _ (some ⟨w.heap.size + 1, 0, none⟩) 3 (rd_iv ((blk_new (w := w.alloc (.cells #[.int .i64 0, .int .i64 0, .int .i64 0] 23)) (t := 3) (cs := (zsS.map iv).toArray) (by simp)))))
  go_wp2_with fail
  refine HO2.out.mono ?_
  rintro e w2 ⟨A2, c2, rfl, k2, hR2, hc2⟩
  have HK2 := Lib.hid (((Kept.refl [] _).alloc _).trans k2)
  obtain ⟨m, hm⟩ : ∃ m, q.1 = m := ⟨_, rfl⟩
  obtain ⟨f, hf⟩ : ∃ f, q.2 = f := ⟨_, rfl⟩
  rw [hm] at HD HN hR2 hc2 ⊢
  rw [hf] at HD HN ⊢
  clear hm hf HO HO2 k2
  by_cases hf : f = 0
  · obtain ⟨a, b, c, hm, ha, hb, hc⟩ := HN.out hf
    subst hm
    subst hf
    have HD2 : Hid (decS s = if rightS ⟨(a : Int), (b : Int), (c : Int)⟩ = true then (⟨(a : Int), (b : Int), (c : Int)⟩, 0) else (zeroS, 32)) := by
      rw [Hid, HD.out, if_neg (by simp)]
      rfl
    obtain ⟨g, o, rfl, hlt, hcs⟩ := hR2.2 (by simp)
    have m0 : w2.cell? ⟨g, o, none⟩ = some (.int .u64 (a : Int)) := hcs 0 (uv a) rfl
    have m1 : w2.cell? ⟨g, o + 1, none⟩ = some (.int .u64 (b : Int)) := hcs 1 (uv b) rfl
    have m2 : w2.cell? ⟨g, o + 2, none⟩ = some (.int .u64 (c : Int)) := hcs 2 (uv c) rfl
    have cc : (3 : Int) ≤ (c2 : Int) := by simp at hc2; omega
    have hWS : wfS ⟨(a : Int), (b : Int), (c : Int)⟩ := ⟨⟨by show (-9223372036854775808 : Int) ≤ (a : Int); omega, by show (a : Int) ≤ 9223372036854775807; omega⟩, ⟨by show (-9223372036854775808 : Int) ≤ (b : Int); omega, by show (b : Int) ≤ 9223372036854775807; omega⟩, by show (-9223372036854775808 : Int) ≤ (c : Int); omega, by show (c : Int) ≤ 9223372036854775807; omega⟩
    have HWS := Lib.hid hWS
    clear HD HN hcs hlt hR2 hc2 hWS
    go_wp2_with fail
    go_region_held3 (fun W => W.cell? ⟨g, o, none⟩ = some (.int .u64 (a : Int)) ∧ W.cell? ⟨g, o + 1, none⟩ = some (.int .u64 (b : Int)) ∧ W.cell? ⟨g, o + 2, none⟩ = some (.int .u64 (c : Int))) (go_keep) (fail)
    go_wp2_with fail
    have hK5 := Lib.hid ((Kept.refl [] w2).alloc (.cells #[.int .i64 (a : Int), .int .i64 (b : Int), .int .i64 (c : Int)] 23)).drew
    have hB5 := Lib.hid (blk_drew (Blk.new w2 23 #[.int .i64 (a : Int), .int .i64 (b : Int), .int .i64 (c : Int)]))
    clear m0 m1 m2 ha hb hc
    refine (ref_RightS ⟨(a : Int), (b : Int), (c : Int)⟩ HWS.out _).mono ?_
    rintro e w5 ⟨rfl, k5⟩
    have HK5 := Lib.hid (HK2.out.trans (hK5.out.trans k5))
    have hB6 := hB5.out.kept k5 (fun h => by cases h)
    have n0 := hB6.cell 0
    have n1 := hB6.cell 1
    have n2 := hB6.cell 2
    have HU := Lib.hid (outS HK5.out)
    obtain ⟨o0, o1, o2, o4, o5, o6⟩ := HU.out.facts
    clear hB6 hB5 hK5 k5
    cases hr : rightS ⟨(a : Int), (b : Int), (c : Int)⟩
    · have HF : Hid (decS s = (zeroS, 32)) := by rw [Hid, HD2.out, if_neg (by rw [hr]; simp)]
      clear HD2
      go_wp2_with fail
      refine bodyPost_ret (v := .tuple #[.agg #[.int .i64 0, .int .i64 0, .int .i64 0], .int .i64 32]) (by simp [results, Tryd.results12, go_sem, set3 HU.out.2 (.int .i64 0) (.int .i64 0) (.int .i64 0)]) rfl ⟨by rw [HF.out]; rfl, ?_⟩
      exact kept3 (KA.out.trans HK5.out) HU.out.1 _ _ _
    · have HF : Hid (decS s = (⟨(a : Int), (b : Int), (c : Int)⟩, 0)) := by rw [Hid, HD2.out, if_pos hr]
      clear HD2 hr
      go_wp2_with fail
      refine bodyPost_ret (v := .tuple #[.agg #[.int .i64 (a : Int), .int .i64 (b : Int), .int .i64 (c : Int)], .int .i64 0]) (by simp [results, Tryd.results12, go_sem, set3 HU.out.2 (.int .i64 (a : Int)) (.int .i64 (b : Int)) (.int .i64 (c : Int))]) rfl ⟨by rw [HF.out]; rfl, ?_⟩
      exact kept3 (KA.out.trans HK5.out) HU.out.1 _ _ _
  · have HF : Hid (decS s = (zeroS, f)) := by rw [Hid, HD.out, if_pos hf]
    have HU := Lib.hid (outS HK2.out)
    obtain ⟨o0, o1, o2, o4, o5, o6⟩ := HU.out.facts
    clear HD HN hR2 hc2
    go_wp2_with fail
    refine bodyPost_ret (v := .tuple #[.agg #[.int .i64 0, .int .i64 0, .int .i64 0], .int .i64 f]) (by simp [results, Tryd.results12, go_sem, set3 HU.out.2 (.int .i64 0) (.int .i64 0) (.int .i64 0)]) rfl ⟨by rw [HF.out]; rfl, ?_⟩
    exact kept3 (KA.out.trans HK2.out) HU.out.1 _ _ _
set_option maxRecDepth 8000 in
set_option maxHeartbeats 2000000 in
theorem decodes_run (w : World) (s : List UInt8) (hs : s.length ≤ 140737488351232) :
    Calls Tryd.prog 4 #[.string ⟨s.toArray⟩] w fun e w' => e = .returned (.bool true) ∧ Kept [] w w' := by
  by_cases h1 : 200 < s.length
  · go_enter Tryd.func4, Tryd.ntmps4
    go_wp2_with (go_at_call 8; refine (super_alive _).mono ?_; rintro e w2 ⟨rfl, k2⟩)
    go_ret
    exact ⟨rfl, k2⟩
  · obtain ⟨z, hz⟩ : ∃ z, (decS s).1 = z := ⟨_, rfl⟩
    obtain ⟨f, hf⟩ : ∃ f, (decS s).2 = f := ⟨_, rfl⟩
    obtain ⟨g, c, p⟩ := z
    have HZ := Lib.hid hz
    have HF := Lib.hid hf
    clear hz hf
    go_enter Tryd.func4, Tryd.ntmps4
    go_wp2_with fail
    refine (super_Decode _ s hs).mono ?_
    rintro e w1 ⟨rfl, k1⟩
    rw [HZ.out, HF.out, show sv ⟨g, c, p⟩ = .agg #[.int .i64 g, .int .i64 c, .int .i64 p] from rfl]
    go_wp2_with fail
    refine (ref_DecodeS _ s (by omega)).mono ?_
    rintro e w2 ⟨rfl, k2⟩
    rw [HZ.out, HF.out, show sv ⟨g, c, p⟩ = .agg #[.int .i64 g, .int .i64 c, .int .i64 p] from rfl]
    have hb1 := ((Blk.new w1 23 #[.int .i64 g, .int .i64 c, .int .i64 p]).kept k2 (fun h => by cases h)).alloc (.cells #[.int .i64 g, .int .i64 c, .int .i64 p] 23)
    have hb2 := Blk.new w2 23 #[.int .i64 g, .int .i64 c, .int .i64 p]
    have HK2 := Lib.hid (((k1.alloc _).trans k2).alloc (.cells #[.int .i64 g, .int .i64 c, .int .i64 p] 23))
    have HB1 := Lib.hid hb1
    have HB2 := Lib.hid hb2
    clear hb1 hb2 k1 k2
    go_wp2_with fail
    refine (super_alive _).mono ?_
    rintro e w3 ⟨rfl, k3⟩
    obtain ⟨q0, q1, q2⟩ := agg3 HB1.out k3
    obtain ⟨r0, r1, r2⟩ := agg3 HB2.out k3
    go_wp2_with fail
    go_ret
    exact ⟨rfl, HK2.out.trans k3⟩
end Go.Proofs.YtcjdkanmbafjmaaDoor
