/- A store's head: what the document reads of a sector; the laws HeadEncodes, HeadDecodes: their walks. -/
import Derived.Test.YtkcapkineifhkaaDoorHdI
namespace Go.Proofs.YtkcapkineifhkaaDoor
open Go.RowKit

theorem agg4b {w W : World} {b : Nat} {t : TypeId} {c0 c1 c2 c3 : Value} (h : Blk w b t #[c0, c1, c2, c3]) (k : Kept [] w W) :
    W.cell? ⟨b, 0, none⟩ = some c0 ∧ W.cell? ⟨b, 1, none⟩ = some c1 ∧ W.cell? ⟨b, 2, none⟩ = some c2 ∧ W.cell? ⟨b, 3, none⟩ = some c3 := by
  have h2 := h.kept k (fun h => by cases h)
  exact ⟨h2.cell 0, h2.cell 1, h2.cell 2, h2.cell 3⟩
set_option maxRecDepth 8000 in
set_option maxHeartbeats 2000000 in
theorem encodes_run (w : World) (h : Hd) (hg : h.gen < 4294967296) :
    Calls Tryd.prog 3 #[hv h] w fun e w' => e = .returned (.bool true) ∧ Kept [] w w' := by
  obtain ⟨g, c, p, i⟩ := h
  unfold hv
  go_enter Tryd.func3, Tryd.ntmps3
  go_wp2_with fail
  refine (head_Encode _ ⟨g, c, p, i⟩ hg).mono ?_
  rintro e w1 ⟨rfl, k1⟩
  have hb1 := (Blk.new w 24 #[.int .u32 (g : Int), .int .i64 c, .int .i64 p, .bool i]).kept k1 (fun h => by cases h)
  have HB1 := Lib.hid hb1
  have HK1 := Lib.hid (((Kept.refl [] w).alloc _).trans k1)
  obtain ⟨q0, q1, q2, q3⟩ := agg4b hb1 (Kept.refl [] w1)
  clear hb1 k1
  go_wp2_with fail
  refine (ref_Encode _ ⟨g, c, p, i⟩ hg).mono ?_
  rintro e w2 ⟨rfl, k2⟩
  have HB2 := Lib.hid (blk_drew (HB1.out.kept k2 (fun h => by cases h)))
  have HK2 := Lib.hid (HK1.out.trans k2)
  clear q0 q1 q2 q3 k2 HB1 HK1
  generalize (encH ⟨g, c, p, i⟩).1 = E1 at *
  generalize (encH ⟨g, c, p, i⟩).2 = E2 at *
  obtain ⟨r, hr⟩ : ∃ r, rightH ⟨g, c, p, i⟩ = r := ⟨_, rfl⟩
  have HR := Lib.hid hr
  clear hr
  go_wp2_with fail
  go_region_held3 (fun W => W.cell? ⟨w.heap.size, 0, none⟩ = some (.int .u32 (g : Int)) ∧ W.cell? ⟨w.heap.size, 1, none⟩ = some (.int .i64 c) ∧ W.cell? ⟨w.heap.size, 2, none⟩ = some (.int .i64 p) ∧ W.cell? ⟨w.heap.size, 3, none⟩ = some (.bool i)) (first | exact agg4b HB2.out ((ka.trans kb).trans kc) | exact agg4b HB2.out ((ka.trans kc).trans kb) | exact agg4b HB2.out (ka.trans kb) | exact agg4b HB2.out (ka.trans kc) | exact agg4b HB2.out ka | exact agg4b HB2.out (Kept.refl [] _)) ((first | (go_at_call 8; refine (head_alive _).mono ?_; rintro e wa ⟨rfl, ka⟩) | (go_at_call 9; refine (head_Right ⟨g, c, p, i⟩ _).mono ?_; rw [HR.out]; rintro e wb ⟨rfl, kb⟩) | (go_at_call 10; refine (ref_Right ⟨g, c, p, i⟩ _).mono ?_; rw [HR.out]; rintro e wc ⟨rfl, kc⟩)))
  all_goals
    go_wp2_with fail
    go_ret
    first
      | exact ⟨rfl, HK2.out.drew.trans ((ka.trans kb).trans kc)⟩
      | exact ⟨rfl, HK2.out.drew.trans ((ka.trans kc).trans kb)⟩
set_option maxRecDepth 4000 in
set_option maxHeartbeats 1000000 in
theorem ref_opened (w : World) (s : List UInt8) (A : Option Addr) (c : Nat) (L : List UInt8) (zs : List Int) (hA : Rd w w.heap.size 1 A zs.length (zs.map iv)) (hn : zs.length ≤ 1000) (hs : s.length ≤ 4096) (q : List Nat × Int)
    (hq : q = if s.length ≠ 64 then ([], 21) else if (openL s).2 ≠ 0 then ([], (openL s).2) else if (openL s).1.take 4 ≠ L then ([], 22) else if (getL ((openL s).1.drop 4) zs).2.1.all (· == 0) = false then ([], 32) else ((getL ((openL s).1.drop 4) zs).1, 0)) :
    Calls Tryd.prog 24 #[.string ⟨s.toArray⟩, .string ⟨L.toArray⟩, .slice A zs.length c] w fun e w' => ∃ A' c', e = .returned (.tuple #[.slice A' q.1.length c', .int .i64 q.2]) ∧ Kept [] w w' ∧ Rd w' w'.heap.size 1 A' q.1.length (q.1.map uv) ∧ q.1.length ≤ c' := by
  have HQ := Lib.hid hq
  clear hq
  by_cases h64 : s.length = 64
  · by_cases h2 : (openL s).2 = 0
    · have hB60 : (openL s).1.length = 60 := by rw [(open_64 s h64 h2).1]; simp; omega
      have HA := Lib.hid hA
      have HQ2 : Hid (q = if (openL s).1.take 4 ≠ L then ([], 22) else if (getL ((openL s).1.drop 4) zs).2.1.all (· == 0) = false then ([], 32) else ((getL ((openL s).1.drop 4) zs).1, 0)) := by
        rw [Hid, HQ.out, if_neg (by rw [h64]; simp), if_neg (by rw [h2]; simp)]
      clear hA HQ
      go_enter Tryd.func24, Tryd.ntmps24
      go_wp2_with fail
      refine (ref_Open s _ hs).mono ?_
      rintro e w1 ⟨rfl, k1⟩
      rw [h2]
      clear h2
      generalize (openL s).1 = B at *
      have x1 : (⟨B.toArray⟩ : ByteArray).extract 0 4 = ⟨(B.take 4).toArray⟩ := by rw [extract_list3]; simp
      have x2 : (⟨B.toArray⟩ : ByteArray).extract 4 60 = ⟨(B.drop 4).toArray⟩ := by rw [extract_list3, List.take_of_length_le]; simp; omega
      by_cases h3 : B.take 4 = L
      · have hC : (B.drop 4).length ≤ 60 := by simp; omega
        have HQ3 : Hid (q = if (getL (B.drop 4) zs).2.1.all (· == 0) = false then ([], 32) else ((getL (B.drop 4) zs).1, 0)) := by
          rw [Hid, HQ2.out, if_neg (by rw [h3]; simp)]
        rw [h3] at x1
        clear h3 HQ2
        generalize B.drop 4 = C at *
        have HG := Lib.hid (ref_Get w1 C A c zs (rd_grow HA.out k1) (by omega) (by omega))
        go_wp2_with fail
        refine HG.out.mono ?_
        rintro e w2 ⟨A3, c3, rfl, k2, hown⟩
        have hrest := got_rest C zs
        have HO := Lib.hid hown
        clear HG hown
        obtain ⟨m, hm⟩ : ∃ m, (getL C zs).1 = m := ⟨_, rfl⟩
        obtain ⟨f, hf⟩ : ∃ f, (getL C zs).2.2 = f := ⟨_, rfl⟩
        rw [hm] at HO HQ3 ⊢
        rw [hf]
        clear hm hf
        generalize (getL C zs).2.1 = r at *
        have hr : r.length ≤ 1000000 := by omega
        go_wp2_with fail
        refine (ref_Zero r w2 hr).mono ?_
        rintro e w3 ⟨rfl, rfl⟩
        by_cases hz : r.all (· == 0) = true
        · have HF : Hid (q = (m, 0)) := by rw [Hid, HQ3.out, if_neg (by rw [hz]; simp)]
          rw [hz]
          clear hz HQ3
          go_wp2_with fail
          go_ret2
          rw [HF.out]
          obtain ⟨_, _, e5, h5⟩ := own_slice HO.out
          injection e5 with _ _ e5
          subst e5
          exact ⟨A3, c3, rfl, k1.trans k2, Rd.of_own HO.out, h5⟩
        · have hz : r.all (· == 0) = false := by simpa using hz
          have HF : Hid (q = ([], 32)) := by rw [Hid, HQ3.out, if_pos hz]
          rw [hz]
          clear hz HQ3
          go_wp2_with fail
          go_ret2
          rw [HF.out]
          exact ⟨none, 0, rfl, k1.trans k2, Rd.nil _ _ _ _, Nat.le_refl _⟩
      · have HF : Hid (q = ([], 22)) := by rw [Hid, HQ2.out, if_pos h3]
        have hne : (B.take 4 == L) = false := by
          rw [beq_eq_false_iff_ne]
          exact h3
        clear h3 HQ2
        go_wp2_with fail
        go_ret2
        rw [HF.out]
        exact ⟨none, 0, rfl, k1, Rd.nil _ _ _ _, Nat.le_refl _⟩
    · have HF : Hid (q = ([], (openL s).2)) := by rw [Hid, HQ.out, if_neg (by rw [h64]; simp), if_pos h2]
      go_enter Tryd.func24, Tryd.ntmps24
      go_wp2_with fail
      refine (ref_Open s _ hs).mono ?_
      rintro e w1 ⟨rfl, k1⟩
      generalize (openL s).1 = B at *
      generalize (openL s).2 = f at *
      go_wp2_with fail
      go_ret2
      rw [HF.out]
      exact ⟨none, 0, rfl, k1, Rd.nil _ _ _ _, Nat.le_refl _⟩
  · have HF : Hid (q = ([], 21)) := by rw [Hid, HQ.out, if_pos h64]
    have hne : ¬ ((s.length : Int) = 64) := by omega
    clear h64
    go_enter Tryd.func24, Tryd.ntmps24
    go_wp2_with fail
    go_ret2
    rw [HF.out]
    exact ⟨none, 0, rfl, Kept.refl _ _, Rd.nil _ _ _ _, Nat.le_refl _⟩

set_option maxRecDepth 4000 in
set_option maxHeartbeats 1000000 in
theorem ref_Decode (w : World) (s : List UInt8) (hs : s.length ≤ 4096) :
    Calls Tryd.prog 12 #[.string ⟨s.toArray⟩] w (DecH w s) := by
  have KA : Kept [] w (w.alloc (.cells #[.int .u32 0, .int .i64 0, .int .i64 0, .bool false] 24)) := (Kept.refl [] w).alloc _
  have KA := Lib.hid KA
  obtain ⟨q, hq⟩ : ∃ q, q = if s.length ≠ 64 then ([], 21) else if (openL s).2 ≠ 0 then ([], (openL s).2) else if (openL s).1.take 4 ≠ lettersH then ([], 22) else if (getL ((openL s).1.drop 4) zsH).2.1.all (· == 0) = false then ([], 32) else ((getL ((openL s).1.drop 4) zsH).1, 0) := ⟨_, rfl⟩
  have HD : Hid (decH s = if q.2 ≠ 0 then (zeroH, q.2) else if rightH (ofNums q.1) = true ∧ q.1[3]?.getD 0 ≤ 1 then (ofNums q.1, 0) else (zeroH, 32)) := by
    rw [Hid, ← docH_decH, docH, hq]
    repeat' split
    all_goals first | rfl | (exfalso; simp_all; done) | skip
  have HN : Hid (q.2 = 0 → ∃ a b c d, q.1 = [a, b, c, d] ∧ a < 4294967296 ∧ b < 65536 ∧ c < 4294967296 ∧ d < 256) := by
    intro h
    rw [hq] at h ⊢
    by_cases c1 : s.length ≠ 64
    · rw [if_pos c1] at h
      exact absurd h (by decide)
    · by_cases c2 : (openL s).2 ≠ 0
      · rw [if_neg c1, if_pos c2] at h
        exact absurd h c2
      · by_cases c3 : (openL s).1.take 4 ≠ lettersH
        · rw [if_neg c1, if_neg c2, if_pos c3] at h
          exact absurd h (by decide)
        · by_cases c4 : (getL ((openL s).1.drop 4) zsH).2.1.all (· == 0) = false
          · rw [if_neg c1, if_neg c2, if_neg c3, if_pos c4] at h
            exact absurd h (by decide)
          · rw [if_neg c1, if_neg c2, if_neg c3, if_neg c4]
            have hB : (openL s).1.length = 60 := by rw [(open_64 s (by omega) (by omega)).1]; simp; omega
            obtain ⟨a, b, c, d, hg, h1⟩ := got_11 ((openL s).1.drop 4) (by simp; omega)
            exact ⟨a, b, c, d, by rw [hg], h1⟩
  have HO := Lib.hid (fun W A c hA => ref_opened W s A c lettersH zsH hA (by decide) hs q hq)
  clear hq
  go_enter Tryd.func12, Tryd.ntmps12
  go_wp2_with fail
  refine (ref_heads _).mono ?_
  rintro e w1 ⟨rfl, rfl⟩
  have HO2 := Lib.hid (HO.out _ (some ⟨w.heap.size + 1, 0, none⟩) 4 (rd_iv ((blk_new (w := w.alloc (.cells #[.int .u32 0, .int .i64 0, .int .i64 0, .bool false] 24)) (t := 3) (cs := (zsH.map iv).toArray) (by simp)))))
  go_wp2_with fail
  refine HO2.out.mono ?_
  rintro e w2 ⟨A2, c2, rfl, k2, hR2, hc2⟩
  have HK2 := Lib.hid (((Kept.refl [] _).alloc _).trans k2)
  obtain ⟨m, hm⟩ : ∃ m, q.1 = m := ⟨_, rfl⟩
  obtain ⟨f, hf⟩ : ∃ f, q.2 = f := ⟨_, rfl⟩
  rw [hm] at HD HN hR2 hc2 ⊢
  rw [hf] at HD HN ⊢
  clear hm hf HO HO2 k2
  by_cases hf : f = 0
  · obtain ⟨a, b, c, d, hm, ha, hb, hc, hd⟩ := HN.out hf
    subst hm
    subst hf
    have HD2 : Hid (decH s = if rightH (ofNums [a, b, c, d]) = true ∧ d ≤ 1 then (ofNums [a, b, c, d], 0) else (zeroH, 32)) := by
      rw [Hid, HD.out, if_neg (by simp)]
      rfl
    obtain ⟨g, o, rfl, hlt, hcs⟩ := hR2.2 (by simp)
    have m0 : w2.cell? ⟨g, o, none⟩ = some (.int .u64 (a : Int)) := hcs 0 (uv a) rfl
    have m1 : w2.cell? ⟨g, o + 1, none⟩ = some (.int .u64 (b : Int)) := hcs 1 (uv b) rfl
    have m2 : w2.cell? ⟨g, o + 2, none⟩ = some (.int .u64 (c : Int)) := hcs 2 (uv c) rfl
    have m3 : w2.cell? ⟨g, o + 3, none⟩ = some (.int .u64 (d : Int)) := hcs 3 (uv d) rfl
    have cc : (4 : Int) ≤ (c2 : Int) := by simp at hc2; omega
    obtain ⟨v, hv1⟩ : ∃ v, ((d : Int) == 1) = v := ⟨_, rfl⟩
    have hof : ofNums [a, b, c, d] = ⟨a, (b : Int), (c : Int), v⟩ := by
      have : (d == 1) = v := by
        rw [← hv1, Bool.eq_iff_iff]
        simp
        omega
      rw [← this]
      show Hd.mk (a % 4294967296) _ _ _ = _
      rw [Nat.mod_eq_of_lt ha]
      rfl
    rw [hof] at HD2
    clear hof hd HD HN hcs hlt hR2 hc2
    go_wp2_with fail
    go_region_held3 (fun W => W.cell? ⟨g, o, none⟩ = some (.int .u64 (a : Int)) ∧ W.cell? ⟨g, o + 1, none⟩ = some (.int .u64 (b : Int)) ∧ W.cell? ⟨g, o + 2, none⟩ = some (.int .u64 (c : Int)) ∧ W.cell? ⟨g, o + 3, none⟩ = some (.int .u64 (d : Int))) (go_keep) (fail)
    go_wp2_with fail
    have hK5 := Lib.hid ((Kept.refl [] w2).alloc (.cells #[.int .u32 (a : Int), .int .i64 (b : Int), .int .i64 (c : Int), .bool v] 24)).drew
    have hB5 := Lib.hid (blk_drew (Blk.new w2 24 #[.int .u32 (a : Int), .int .i64 (b : Int), .int .i64 (c : Int), .bool v]))
    have M3 := Lib.hid m3
    clear m0 m1 m2 m3 hv1 hb hc
    refine (ref_Right ⟨a, (b : Int), (c : Int), v⟩ _).mono ?_
    rintro e w5 ⟨rfl, k5⟩
    have HK5 := Lib.hid (HK2.out.trans (hK5.out.trans k5))
    have hB6 := hB5.out.kept k5 (fun h => by cases h)
    have n0 : w5.cell? ⟨w2.heap.size, 0, none⟩ = some (.int .u32 (a : Int)) := hB6.cell 0
    have n1 : w5.cell? ⟨w2.heap.size, 1, none⟩ = some (.int .i64 (b : Int)) := hB6.cell 1
    have n2 : w5.cell? ⟨w2.heap.size, 2, none⟩ = some (.int .i64 (c : Int)) := hB6.cell 2
    have n3 : w5.cell? ⟨w2.heap.size, 3, none⟩ = some (.bool v) := hB6.cell 3
    have m3 := (hK5.out.trans k5).cell M3.out (fun h => by cases h)
    have HU := Lib.hid (outH HK5.out)
    obtain ⟨o0, o1, o2, o3, o4, o5, o6, o7⟩ := HU.out.facts
    clear hB6 hB5 hK5 k5
    cases hr : rightH ⟨a, (b : Int), (c : Int), v⟩
    · have HF : Hid (decH s = (zeroH, 32)) := by rw [Hid, HD2.out, if_neg (by rw [hr]; simp)]
      clear HD2
      go_wp2_with fail
      refine bodyPost_ret (v := .tuple #[.agg #[.int .u32 0, .int .i64 0, .int .i64 0, .bool false], .int .i64 32]) (by simp [results, Tryd.results12, go_sem, set4 HU.out.2 (.int .u32 0) (.int .i64 0) (.int .i64 0) (.bool false)]) rfl ⟨by rw [HF.out]; rfl, ?_⟩
      exact kept4 (KA.out.trans HK5.out) HU.out.1 _ _ _ _
    · by_cases hd1 : d ≤ 1
      · have HF : Hid (decH s = (⟨a, (b : Int), (c : Int), v⟩, 0)) := by rw [Hid, HD2.out, if_pos ⟨hr, hd1⟩]
        clear HD2 hr
        have hd2 : ¬ ((1 : Int) < (d : Int)) := by omega
        clear hd1
        go_wp2_with fail
        refine bodyPost_ret (v := .tuple #[.agg #[.int .u32 (a : Int), .int .i64 (b : Int), .int .i64 (c : Int), .bool v], .int .i64 0]) (by simp [results, Tryd.results12, go_sem, set4 HU.out.2 (.int .u32 (a : Int)) (.int .i64 (b : Int)) (.int .i64 (c : Int)) (.bool v)]) rfl ⟨by rw [HF.out]; rfl, ?_⟩
        exact kept4 (KA.out.trans HK5.out) HU.out.1 _ _ _ _
      · have HF : Hid (decH s = (zeroH, 32)) := by rw [Hid, HD2.out, if_neg (fun h => hd1 h.2)]
        clear HD2 hr
        go_wp2_with fail
        refine bodyPost_ret (v := .tuple #[.agg #[.int .u32 0, .int .i64 0, .int .i64 0, .bool false], .int .i64 32]) (by simp [results, Tryd.results12, go_sem, set4 HU.out.2 (.int .u32 0) (.int .i64 0) (.int .i64 0) (.bool false)]) rfl ⟨by rw [HF.out]; rfl, ?_⟩
        exact kept4 (KA.out.trans HK5.out) HU.out.1 _ _ _ _
  · have HF : Hid (decH s = (zeroH, f)) := by rw [Hid, HD.out, if_pos hf]
    have HU := Lib.hid (outH HK2.out)
    obtain ⟨o0, o1, o2, o3, o4, o5, o6, o7⟩ := HU.out.facts
    clear HD HN hR2 hc2
    go_wp2_with fail
    refine bodyPost_ret (v := .tuple #[.agg #[.int .u32 0, .int .i64 0, .int .i64 0, .bool false], .int .i64 f]) (by simp [results, Tryd.results12, go_sem, set4 HU.out.2 (.int .u32 0) (.int .i64 0) (.int .i64 0) (.bool false)]) rfl ⟨by rw [HF.out]; rfl, ?_⟩
    exact kept4 (KA.out.trans HK2.out) HU.out.1 _ _ _ _
set_option maxRecDepth 8000 in
set_option maxHeartbeats 2000000 in
theorem decodes_run (w : World) (s : List UInt8) (hs : s.length ≤ 140737488351232) :
    Calls Tryd.prog 4 #[.string ⟨s.toArray⟩] w fun e w' => e = .returned (.bool true) ∧ Kept [] w w' := by
  by_cases h1 : 200 < s.length
  · go_enter Tryd.func4, Tryd.ntmps4
    go_wp2_with (go_at_call 8; refine (head_alive _).mono ?_; rintro e w2 ⟨rfl, k2⟩)
    go_ret
    exact ⟨rfl, k2⟩
  · obtain ⟨g, c, p, i⟩ : Hd := (decH s).1
    obtain ⟨z, hz⟩ : ∃ z, (decH s).1 = z := ⟨_, rfl⟩
    obtain ⟨f, hf⟩ : ∃ f, (decH s).2 = f := ⟨_, rfl⟩
    obtain ⟨g, c, p, i⟩ := z
    have HZ := Lib.hid hz
    have HF := Lib.hid hf
    clear hz hf
    go_enter Tryd.func4, Tryd.ntmps4
    go_wp2_with fail
    refine (head_Decode _ s hs).mono ?_
    rintro e w1 ⟨rfl, k1⟩
    rw [HZ.out, HF.out, show hv ⟨g, c, p, i⟩ = .agg #[.int .u32 (g : Int), .int .i64 c, .int .i64 p, .bool i] from rfl]
    go_wp2_with fail
    refine (ref_Decode _ s (by omega)).mono ?_
    rintro e w2 ⟨rfl, k2⟩
    rw [HZ.out, HF.out, show hv ⟨g, c, p, i⟩ = .agg #[.int .u32 (g : Int), .int .i64 c, .int .i64 p, .bool i] from rfl]
    have hb1 := ((Blk.new w1 24 #[.int .u32 (g : Int), .int .i64 c, .int .i64 p, .bool i]).kept k2 (fun h => by cases h)).alloc (.cells #[.int .u32 (g : Int), .int .i64 c, .int .i64 p, .bool i] 24)
    have hb2 := Blk.new w2 24 #[.int .u32 (g : Int), .int .i64 c, .int .i64 p, .bool i]
    have HK2 := Lib.hid (((k1.alloc _).trans k2).alloc (.cells #[.int .u32 (g : Int), .int .i64 c, .int .i64 p, .bool i] 24))
    have HB1 := Lib.hid hb1
    have HB2 := Lib.hid hb2
    clear hb1 hb2 k1 k2
    go_wp2_with fail
    refine (head_alive _).mono ?_
    rintro e w3 ⟨rfl, k3⟩
    obtain ⟨q0, q1, q2, q3⟩ := agg4b HB1.out k3
    obtain ⟨r0, r1, r2, r3⟩ := agg4b HB2.out k3
    go_wp2_with fail
    go_ret
    exact ⟨rfl, HK2.out.trans k3⟩
end Go.Proofs.YtkcapkineifhkaaDoor
