/- A store's head: what is read of a sector. -/
import Derived.Test.YtkcapkineifhkaaDoorHdC
import Derived.Deep.RegionWith
import Derived.Deep.RegionHeld3
import Derived.Lib.Strings
import Derived.Lib.Slices
import Derived.Lib.Walk
namespace Go.Proofs.YtkcapkineifhkaaDoor
open Go.RowKit

def DecH (w : World) (s : List UInt8) (e : Ending) (w' : World) : Prop := e = .returned (.tuple #[hv (decH s).1, .int .i64 (decH s).2]) ∧ Kept [] w w'
def zerosH : Array Value := #[.int .u32 0, .int .i64 0, .int .i64 0, .bool false]
def OutH (w W : World) (b : Nat) : Prop := w.heap.size ≤ b ∧ Blk W b 24 #[.int .u32 0, .int .i64 0, .int .i64 0, .bool false]
theorem OutH.facts {w W : World} {b : Nat} (h : OutH w W b) : W.cell? ⟨b, 0, none⟩ = some (.int .u32 0) ∧ W.cell? ⟨b, 1, none⟩ = some (.int .i64 0) ∧ W.cell? ⟨b, 2, none⟩ = some (.int .i64 0) ∧ W.cell? ⟨b, 3, none⟩ = some (.bool false) ∧ W.frozen? ⟨b, 0, none⟩ = false ∧ W.frozen? ⟨b, 1, none⟩ = false ∧ W.frozen? ⟨b, 2, none⟩ = false ∧ W.frozen? ⟨b, 3, none⟩ = false :=
  ⟨h.2.cell 0, h.2.cell 1, h.2.cell 2, h.2.cell 3, h.2.frozen 0, h.2.frozen 1, h.2.frozen 2, h.2.frozen 3⟩
theorem outH {w W : World} (k : Kept [] (w.alloc (.cells #[.int .u32 0, .int .i64 0, .int .i64 0, .bool false] 24)) W) : OutH w W w.heap.size :=
  ⟨Nat.le_refl _, (Blk.new w 24 #[.int .u32 0, .int .i64 0, .int .i64 0, .bool false]).kept k (fun h => by cases h)⟩
theorem set4 {W : World} {b : Nat} {t : TypeId} {c0 c1 c2 c3 : Value} (h : Blk W b t #[c0, c1, c2, c3]) (u0 u1 u2 u3 : Value) :
    (W.setCell ⟨b, 0, none⟩ u0).cell? ⟨b, 0, none⟩ = some u0 ∧ ((W.setCell ⟨b, 0, none⟩ u0).setCell ⟨b, 1, none⟩ u1).cell? ⟨b, 1, none⟩ = some u1 ∧
    (((W.setCell ⟨b, 0, none⟩ u0).setCell ⟨b, 1, none⟩ u1).setCell ⟨b, 2, none⟩ u2).cell? ⟨b, 2, none⟩ = some u2 ∧
    ((((W.setCell ⟨b, 0, none⟩ u0).setCell ⟨b, 1, none⟩ u1).setCell ⟨b, 2, none⟩ u2).setCell ⟨b, 3, none⟩ u3).cell? ⟨b, 3, none⟩ = some u3 :=
  ⟨(h.set_ 0 u0).cell 0, ((h.set_ 0 u0).set_ 1 u1).cell 1, (((h.set_ 0 u0).set_ 1 u1).set_ 2 u2).cell 2, ((((h.set_ 0 u0).set_ 1 u1).set_ 2 u2).set_ 3 u3).cell 3⟩
theorem kept4 {w W : World} {b : Nat} (k : Kept [] w W) (hb : w.heap.size ≤ b) (u0 u1 u2 u3 : Value) :
    Kept [] w ((((W.setCell ⟨b, 0, none⟩ u0).setCell ⟨b, 1, none⟩ u1).setCell ⟨b, 2, none⟩ u2).setCell ⟨b, 3, none⟩ u3) :=
  (((k.setCell (p := ⟨b, 0, none⟩) (.inr hb) u0).setCell (p := ⟨b, 1, none⟩) (.inr hb) u1).setCell (p := ⟨b, 2, none⟩) (.inr hb) u2).setCell (p := ⟨b, 3, none⟩) (.inr hb) u3

set_option maxHeartbeats 1000000 in
theorem cut_prefix (s p : ByteArray) (w : World) :
    Calls Tryd.prog 21 #[.string s, .string p] w fun e w' => e = .returned (.tuple #[.string ⟨(Lib.trimPrefix s.data.toList p.data.toList).toArray⟩, .bool (Lib.hasPrefix s.data.toList p.data.toList)]) ∧ w' = w := by
  go_enter Tryd.func21, Tryd.ntmps21
  go_wp2
  · have h2 : (!((s.extract 0 p.size).toList == p.toList)) = true := by assumption
    have h3 : (decide (p.size ≤ s.size) && ((s.extract 0 p.size).toList == p.toList)) = false := by
      have : ((s.extract 0 p.size).toList == p.toList) = false := by simpa using h2
      rw [this]
      simp
    go_ret2
    refine ⟨?_, rfl⟩
    rw [Lib.trimPrefix_miss s p h3, ← Lib.hasPrefix_raw, h3]
    rfl
  · have h1 : p.size ≤ s.size := by assumption
    have h2 : (!((s.extract 0 p.size).toList == p.toList)) = false := by assumption
    have h2' : ((s.extract 0 p.size).toList == p.toList) = true := by simpa using h2
    go_ret2
    refine ⟨?_, rfl⟩
    rw [Lib.trimPrefix_hit s p h1 h2', ← Lib.hasPrefix_raw, h2', decide_eq_true h1]
    rfl
  · have h1 : ¬ p.size ≤ s.size := by assumption
    have h3 : (decide (p.size ≤ s.size) && ((s.extract 0 p.size).toList == p.toList)) = false := by simp [h1]
    go_ret2
    refine ⟨?_, rfl⟩
    rw [Lib.trimPrefix_miss s p h3, ← Lib.hasPrefix_raw, h3]
    rfl
theorem prefix_take (B p : List UInt8) : Lib.hasPrefix B p = decide (B.take p.length = p) := by
  unfold Lib.hasPrefix
  rw [Bool.eq_iff_iff, List.isPrefixOf_iff_prefix, decide_eq_true_iff, List.prefix_iff_eq_take]
  exact ⟨fun h => h.symm, fun h => h.symm⟩
theorem cut_yes (B : List UInt8) (h : B.take 4 = lettersH) : Lib.hasPrefix B lettersH = true ∧ Lib.trimPrefix B lettersH = B.drop 4 := by
  have : Lib.hasPrefix B lettersH = true := by rw [prefix_take]; exact decide_eq_true h
  exact ⟨this, by rw [Lib.trimPrefix, if_pos this]; rfl⟩
theorem cut_no (B : List UInt8) (h : B.take 4 ≠ lettersH) : Lib.hasPrefix B lettersH = false := by
  rw [prefix_take]
  exact decide_eq_false h
theorem open_len (s : List UInt8) : (openL s).1.length ≤ s.length := by
  unfold openL
  split
  · simp
  · split
    · simp
    · simp
theorem small_num (s : List UInt8) (o z n : Nat) (h : n = numN ((s.drop o).take z)) : n < 256 ^ z := by
  subst h
  refine Nat.lt_of_lt_of_le (numN_lt _) (Nat.pow_le_pow_right (by omega) ?_)
  simp
  omega
theorem got_H (B : List UInt8) (h : (getL B zsH).2.2 = 0) : ∃ a b c d, (getL B zsH).1 = [a, b, c, d] ∧ a < 4294967296 ∧ b < 65536 ∧ c < 4294967296 ∧ d < 256 := by
  unfold getL at h ⊢
  split at h
  · cases h
  · rename_i h1
    rw [if_neg h1]
    split at h
    · rename_i h2
      rw [if_pos h2]
      exact ⟨_, _, _, _, rfl, small_num _ _ 4 _ rfl, small_num _ _ 2 _ rfl, small_num _ _ 4 _ rfl, small_num _ _ 1 _ rfl⟩
    · cases h

set_option maxRecDepth 4000 in
set_option maxHeartbeats 1000000 in
theorem head_Decode (w : World) (s : List UInt8) (hs : s.length ≤ 140737488351232) :
    Calls Tryd.prog 11 #[.string ⟨s.toArray⟩] w (DecH w s) := by
  have KA : Kept [] w (w.alloc (.cells #[.int .u32 0, .int .i64 0, .int .i64 0, .bool false] 24)) := (Kept.refl [] w).alloc _
  have KA := Lib.hid KA
  by_cases h64 : s.length = 64
  · have hol := open_len s
    have H64 := Lib.hid h64
    by_cases h2 : (openL s).2 = 0
    · go_enter Tryd.func11, Tryd.ntmps11
      go_wp2_with fail
      refine (crc_Open s _ hs).mono ?_
      rintro e w1 ⟨rfl, k1⟩
      rw [h2]
      have HD2 := Lib.hid h2
      clear h2
      obtain ⟨B, hB⟩ : ∃ B, (openL s).1 = B := ⟨_, rfl⟩
      rw [hB] at hol ⊢
      have hB := Lib.hid hB
      have HD : Hid (decH s = if B.take 4 ≠ lettersH then (zeroH, 22) else
          if (getL (B.drop 4) zsH).2.2 ≠ 0 ∨ (getL (B.drop 4) zsH).2.1.all (· == 0) = false then (zeroH, 32) else
          if encH (ofNums (getL (B.drop 4) zsH).1) = (s, 0) then (ofNums (getL (B.drop 4) zsH).1, 0) else (zeroH, 32)) := by
        rw [Hid, decH, if_neg (by rw [h64]; simp), if_neg (by rw [HD2.out]; simp), hB.out]
      clear h64
      go_wp2_with fail
      refine (cut_prefix ⟨B.toArray⟩ ⟨#[79, 65, 75, 72]⟩ w1).mono ?_
      rintro e w2 ⟨rfl, rfl⟩
      have HK1 := Lib.hid k1
      clear k1
      by_cases h3 : B.take 4 = lettersH
      · obtain ⟨c1, c2⟩ := cut_yes B h3
        rw [show Lib.hasPrefix (ByteArray.mk B.toArray).data.toList (ByteArray.mk #[79, 65, 75, 72]).data.toList = true from c1,
          show Lib.trimPrefix (ByteArray.mk B.toArray).data.toList (ByteArray.mk #[79, 65, 75, 72]).data.toList = B.drop 4 from c2]
        have hdl : (B.drop 4).length ≤ s.length := by rw [List.length_drop]; omega
        have HD2 : Hid (decH s = if (getL (B.drop 4) zsH).2.2 ≠ 0 ∨ (getL (B.drop 4) zsH).2.1.all (· == 0) = false then (zeroH, 32) else
          if encH (ofNums (getL (B.drop 4) zsH).1) = (s, 0) then (ofNums (getL (B.drop 4) zsH).1, 0) else (zeroH, 32)) := by
          rw [Hid, HD.out, if_neg (by rw [h3]; simp)]
        clear h3 c1 c2 HD
        generalize B.drop 4 = C at *
        go_wp2_with fail
        refine (head_sizes w2).mono ?_
        rintro e w3 ⟨rfl, rfl⟩
        have HG := Lib.hid (oct_Get (w2.alloc (.cells (zsH.map iv).toArray 3)) C (some ⟨w2.heap.size, 0, none⟩) 4 zsH (rd_iv (blk_new rfl)) (by decide) (by omega))
        go_wp2_with fail
        refine HG.out.mono ?_
        rintro e w3 ⟨A3, cap3, rfl, k3, hown⟩
        have HK3 := Lib.hid (HK1.out.trans (((Kept.refl [] w2).alloc _).trans k3))
        clear HG k3 HK1
        have hrest := got_rest C zsH
        by_cases hf : (getL C zsH).2.2 = 0
        · obtain ⟨a, b, c, d, hm, ha, hb, hc, hd⟩ := got_H C hf
          rw [hf]
          rw [hm] at hown HD2 ⊢
          obtain ⟨g, cap4, hgs, hcap⟩ := own_some hown (by simp)
          injection hgs with hA3 _ hcap4
          subst hA3
          subst hcap4
          obtain ⟨rest, hblk, _, _, _⟩ := own_blk hown
          have m0 : w3.cell? ⟨g, 0, none⟩ = some (.int .u64 (a : Int)) := hblk.cell 0
          have m1 : w3.cell? ⟨g, 1, none⟩ = some (.int .u64 (b : Int)) := hblk.cell 1
          have m2 : w3.cell? ⟨g, 2, none⟩ = some (.int .u64 (c : Int)) := hblk.cell 2
          have m3 : w3.cell? ⟨g, 3, none⟩ = some (.int .u64 (d : Int)) := hblk.cell 3
          have HM := Lib.hid (And.intro m0 (And.intro m1 (And.intro m2 m3)))
          clear m0 m1 m2 m3 hblk hown
          have HD3 : Hid (decH s = if (getL C zsH).2.1.all (· == 0) = false then (zeroH, 32) else
            if encH (ofNums [a, b, c, d]) = (s, 0) then (ofNums [a, b, c, d], 0) else (zeroH, 32)) := by
            rw [Hid, HD2.out, hf]
            simp only [ne_eq, not_true_eq_false, false_or]
          clear hf HD2 hm
          generalize (getL C zsH).2.1 = r at *
          have hrl : r.length ≤ 140737488351232 := by omega
          have HZ := Lib.hid (trim_all r)
          go_wp2_with fail
          refine (oct_Zero r w3 hrl).mono ?_
          rintro e w4 ⟨rfl, k4⟩
          rw [HZ.out]
          have HK4 := Lib.hid (HK3.out.trans k4)
          have m0 := k4.cell HM.out.1 (fun h => by cases h)
          have m1 := k4.cell HM.out.2.1 (fun h => by cases h)
          have m2 := k4.cell HM.out.2.2.1 (fun h => by cases h)
          have m3 := k4.cell HM.out.2.2.2 (fun h => by cases h)
          clear k4 HK3 HM
          by_cases hz : r.all (· == 0) = true
          · rw [hz]
            have HD4 : Hid (decH s = if encH (ofNums [a, b, c, d]) = (s, 0) then (ofNums [a, b, c, d], 0) else (zeroH, 32)) := by
              rw [Hid, HD3.out, if_neg (by rw [hz]; simp)]
            clear HD3 hz
            have cc : (4 : Int) ≤ (cap3 : Int) := by simp at hcap; omega
            obtain ⟨v, hv1⟩ : ∃ v, ((d : Int) == 1) = v := ⟨_, rfl⟩
            have hof : ofNums [a, b, c, d] = ⟨a, (b : Int), (c : Int), v⟩ := by
              have : (d == 1) = v := by
                rw [← hv1, Bool.eq_iff_iff]
                simp
                omega
              rw [← this]
              show Hd.mk (a % 4294967296) _ _ _ = _
              rw [Nat.mod_eq_of_lt ha]
              rfl
            rw [hof] at HD4
            clear hof hd
            go_wp2_with fail
            go_region_held3 (fun W => W.cell? ⟨g, 0, none⟩ = some (.int .u64 (a : Int)) ∧ W.cell? ⟨g, 1, none⟩ = some (.int .u64 (b : Int)) ∧ W.cell? ⟨g, 2, none⟩ = some (.int .u64 (c : Int)) ∧ W.cell? ⟨g, 3, none⟩ = some (.int .u64 (d : Int))) (go_keep) (fail)
            go_wp2_with fail
            have hK5 := Lib.hid ((Kept.refl [] w4).alloc (.cells #[.int .u32 (a : Int), .int .i64 (b : Int), .int .i64 (c : Int), .bool v] 24)).drew
            have hB5 := Lib.hid (blk_drew (Blk.new w4 24 #[.int .u32 (a : Int), .int .i64 (b : Int), .int .i64 (c : Int), .bool v]))
            clear m0 m1 m2 m3 hv1 hb hc
            refine (head_Encode _ ⟨a, (b : Int), (c : Int), v⟩ ha).mono ?_
            rintro e w5 ⟨rfl, k5⟩
            have HK5 := Lib.hid (HK4.out.trans (hK5.out.trans k5))
            have hB6 := hB5.out.kept k5 (fun h => by cases h)
            have n0 : w5.cell? ⟨w4.heap.size, 0, none⟩ = some (.int .u32 (a : Int)) := hB6.cell 0
            have n1 : w5.cell? ⟨w4.heap.size, 1, none⟩ = some (.int .i64 (b : Int)) := hB6.cell 1
            have n2 : w5.cell? ⟨w4.heap.size, 2, none⟩ = some (.int .i64 (c : Int)) := hB6.cell 2
            have n3 : w5.cell? ⟨w4.heap.size, 3, none⟩ = some (.bool v) := hB6.cell 3
            have HO := Lib.hid (outH HK5.out)
            obtain ⟨o0, o1, o2, o3, o4, o5, o6, o7⟩ := HO.out.facts
            clear hB6 hB5 hK5 k5 HK4
            by_cases hE : encH ⟨a, (b : Int), (c : Int), v⟩ = (s, 0)
            · have HF : Hid (decH s = (⟨a, (b : Int), (c : Int), v⟩, 0)) := by rw [Hid, HD4.out, if_pos hE]
              rw [hE]
              clear hE HD4
              go_wp2_with fail
              refine bodyPost_ret (v := .tuple #[.agg #[.int .u32 (a : Int), .int .i64 (b : Int), .int .i64 (c : Int), .bool v], .int .i64 0]) (by simp [results, Tryd.results11, go_sem, set4 HO.out.2 (.int .u32 (a : Int)) (.int .i64 (b : Int)) (.int .i64 (c : Int)) (.bool v)]) rfl ⟨by rw [HF.out]; rfl, ?_⟩
              exact kept4 (KA.out.trans HK5.out) HO.out.1 _ _ _ _
            · have HF : Hid (decH s = (zeroH, 32)) := by rw [Hid, HD4.out, if_neg hE]
              obtain ⟨E1, hE1⟩ : ∃ E1, (encH ⟨a, (b : Int), (c : Int), v⟩).1 = E1 := ⟨_, rfl⟩
              obtain ⟨E2, hE2⟩ : ∃ E2, (encH ⟨a, (b : Int), (c : Int), v⟩).2 = E2 := ⟨_, rfl⟩
              have hE' : ¬ (E1 = s ∧ E2 = 0) := fun h => hE (by rw [← h.1, ← h.2, ← hE1, ← hE2])
              rw [hE1, hE2]
              clear hE hE1 hE2 HD4
              by_cases hq : E2 = 0
              · subst hq
                have hne : (E1 == s) = false := by
                  rw [beq_eq_false_iff_ne]
                  exact fun h => hE' ⟨h, rfl⟩
                clear hE'
                go_wp2_with fail
                refine bodyPost_ret (v := .tuple #[.agg #[.int .u32 0, .int .i64 0, .int .i64 0, .bool false], .int .i64 32]) (by simp [results, Tryd.results11, go_sem, set4 HO.out.2 (.int .u32 0) (.int .i64 0) (.int .i64 0) (.bool false)]) rfl ⟨by rw [HF.out]; rfl, ?_⟩
                exact kept4 (KA.out.trans HK5.out) HO.out.1 _ _ _ _
              · clear hE'
                go_wp2_with fail
                refine bodyPost_ret (v := .tuple #[.agg #[.int .u32 0, .int .i64 0, .int .i64 0, .bool false], .int .i64 32]) (by simp [results, Tryd.results11, go_sem, set4 HO.out.2 (.int .u32 0) (.int .i64 0) (.int .i64 0) (.bool false)]) rfl ⟨by rw [HF.out]; rfl, ?_⟩
                exact kept4 (KA.out.trans HK5.out) HO.out.1 _ _ _ _
          · have hz' : r.all (· == 0) = false := by simpa using hz
            have HF : Hid (decH s = (zeroH, 32)) := by rw [Hid, HD3.out, if_pos hz']
            rw [hz']
            have HO := Lib.hid (outH HK4.out)
            obtain ⟨o0, o1, o2, o3, o4, o5, o6, o7⟩ := HO.out.facts
            go_wp2_with fail
            refine bodyPost_ret (v := .tuple #[.agg #[.int .u32 0, .int .i64 0, .int .i64 0, .bool false], .int .i64 32]) (by simp [results, Tryd.results11, go_sem, set4 HO.out.2 (.int .u32 0) (.int .i64 0) (.int .i64 0) (.bool false)]) rfl ⟨by rw [HF.out]; rfl, ?_⟩
            exact kept4 (KA.out.trans HK4.out) HO.out.1 _ _ _ _
        · have HF : Hid (decH s = (zeroH, 32)) := by rw [Hid, HD2.out, if_pos (.inl hf)]
          generalize (getL C zsH).1 = m at *
          generalize (getL C zsH).2.1 = r at *
          generalize (getL C zsH).2.2 = f at *
          have HO := Lib.hid (outH HK3.out)
          obtain ⟨o0, o1, o2, o3, o4, o5, o6, o7⟩ := HO.out.facts
          clear hown
          go_wp2_with fail
          refine bodyPost_ret (v := .tuple #[.agg #[.int .u32 0, .int .i64 0, .int .i64 0, .bool false], .int .i64 32]) (by simp [results, Tryd.results11, go_sem, set4 HO.out.2 (.int .u32 0) (.int .i64 0) (.int .i64 0) (.bool false)]) rfl ⟨by rw [HF.out]; rfl, ?_⟩
          exact kept4 (KA.out.trans HK3.out) HO.out.1 _ _ _ _
      · have c1 := cut_no B h3
        have HF : Hid (decH s = (zeroH, 22)) := by rw [Hid, HD.out, if_pos h3]
        rw [show Lib.hasPrefix (ByteArray.mk B.toArray).data.toList (ByteArray.mk #[79, 65, 75, 72]).data.toList = false from c1]
        have HO := Lib.hid (outH HK1.out)
        obtain ⟨o0, o1, o2, o3, o4, o5, o6, o7⟩ := HO.out.facts
        clear h3 c1
        go_wp2_with fail
        refine bodyPost_ret (v := .tuple #[.agg #[.int .u32 0, .int .i64 0, .int .i64 0, .bool false], .int .i64 22]) (by simp [results, Tryd.results11, go_sem, set4 HO.out.2 (.int .u32 0) (.int .i64 0) (.int .i64 0) (.bool false)]) rfl ⟨by rw [HF.out]; rfl, ?_⟩
        exact kept4 (KA.out.trans HK1.out) HO.out.1 _ _ _ _
    · have HF : Hid (decH s = (zeroH, (openL s).2)) := by rw [Hid, decH, if_neg (by rw [h64]; simp), if_pos h2]
      go_enter Tryd.func11, Tryd.ntmps11
      go_wp2_with fail
      refine (crc_Open s _ hs).mono ?_
      rintro e w1 ⟨rfl, k1⟩
      have HO := Lib.hid (outH k1)
      obtain ⟨o0, o1, o2, o3, o4, o5, o6, o7⟩ := HO.out.facts
      have HK1 := Lib.hid k1
      clear k1
      generalize (openL s).1 = B at *
      generalize (openL s).2 = q at *
      go_wp2_with fail
      refine bodyPost_ret (v := .tuple #[.agg #[.int .u32 0, .int .i64 0, .int .i64 0, .bool false], .int .i64 q]) (by simp [results, Tryd.results11, go_sem, set4 HO.out.2 (.int .u32 0) (.int .i64 0) (.int .i64 0) (.bool false)]) rfl ⟨by rw [HF.out]; rfl, ?_⟩
      exact kept4 (KA.out.trans HK1.out) HO.out.1 _ _ _ _
  · have HF : Hid (decH s = (zeroH, 21)) := by rw [Hid, decH, if_pos h64]
    have hne : ¬ ((s.length : Int) = 64) := by omega
    clear h64
    obtain ⟨o0, o1, o2, o3, o4, o5, o6, o7⟩ := OutH.facts <| outH (Kept.refl [] (w.alloc (.cells #[.int .u32 0, .int .i64 0, .int .i64 0, .bool false] 24)))
    go_enter Tryd.func11, Tryd.ntmps11
    go_wp2_with fail
    refine bodyPost_ret (v := .tuple #[.agg #[.int .u32 0, .int .i64 0, .int .i64 0, .bool false], .int .i64 21]) (by simp [results, Tryd.results11, go_sem]) rfl ⟨by rw [HF.out]; rfl, ?_⟩
    exact KA.out
end Go.Proofs.YtkcapkineifhkaaDoor
