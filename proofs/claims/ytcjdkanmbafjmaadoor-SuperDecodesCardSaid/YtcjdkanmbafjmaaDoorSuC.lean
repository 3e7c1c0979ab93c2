/- A superblock: what is read of a sector. -/
import Derived.Test.YtcjdkanmbafjmaaDoorSuB
import Derived.Deep.RegionWith
import Derived.Defers
import Derived.Recover
import Derived.Lib.Strings
import Derived.Lib.Slices
import Derived.Lib.Walk
namespace Go.Proofs.YtcjdkanmbafjmaaDoor
open Go.RowKit

def stopS (n : Int) : PanicEntry := { v := .iface 45 (.agg #[.int .i64 n]), recovered := false }
theorem must_ok (n : Int) (w : World) : Calls Tryd.prog 20 #[.bool true, .int .i64 n] w fun e w' => e = .returned (.tuple #[]) ∧ w = w' := by
  go_enter Tryd.func20, Tryd.ntmps20
  go_wp2_with fail
  go_end0
  exact ⟨rfl, rfl⟩
theorem must_bad (n : Int) (w : World) : Calls Tryd.prog 20 #[.bool false, .int .i64 n] w fun e w' => e = .panicked [stopS n] ∧ w = w' := by
  go_enter Tryd.func20, Tryd.ntmps20
  go_wp2_with fail
  exact ⟨rfl, rfl, rfl⟩
theorem run_stopS (n : Int) (w : World) : (Instr.typeAssert (.iface 45 (.agg #[.int .i64 n])) 20 45 true).run Tryd.prog w = .ok (.tuple #[.agg #[.int .i64 n], .bool true]) w := by
  simp [Instr.typeAssert, go_sem]
set_option maxHeartbeats 1000000 in
theorem srec_cut (X E : Nat) (x0 x1 x2 x3 n : Int) (older : List PanicEntry) (w : World) (hX : Blk w X 23 #[.int .i64 x0, .int .i64 x1, .int .i64 x2]) (hE : Blk w E 24 #[.int .i64 x3]) :
    CallsD Tryd.prog 19 #[.pointer (some ⟨X, 0, none⟩), .pointer (some ⟨E, 0, none⟩)] (.panicking (stopS n :: older)) w fun e u' w' =>
      e = .returned (.tuple #[]) ∧ u' = .panicking ({ stopS n with recovered := true } :: older) ∧ Blk w' X 23 #[.int .i64 0, .int .i64 0, .int .i64 0] ∧ Blk w' E 24 #[.int .i64 n] ∧ Kept [X, E] w w' := by
  have hta := run_stopS n
  refine callsD_of_wpS Tryd.func19 rfl fun c₀ cs hu => ?_
  simp only [Tryd.ntmps19, List.size_toArray, List.length_cons, List.length_nil, Nat.reduceAdd, Nat.reduceSub, Array.replicate_succ, Array.replicate_zero, List.push_toArray, List.append_toArray, List.nil_append, List.cons_append]
  apply wpS_seq
  apply wpS_region
  simp [wpOpsS, go_sem, recoverD, hu, stopS, Exit.thenS]
  refine wpS_of_wp ?_
  have HX := Lib.hid (hX.alloc (.cells #[.int .i64 n] 45))
  have HE := Lib.hid (hE.alloc (.cells #[.int .i64 n] 45))
  have e0 := HX.out.cell 0
  have e1 := HX.out.cell 1
  have e2 := HX.out.cell 2
  have f0 := HX.out.frozen 0
  have f1 := HX.out.frozen 1
  have f2 := HX.out.frozen 2
  have g0 := HE.out.cell 0
  have i0 := HE.out.frozen 0
  have hne : ¬ X = E := fun h => hX.ne_ hE (by decide) h
  have hne2 : ¬ E = X := fun h => hne h.symm
  have hn3 : ¬ w.heap.size = X := fun h => by have := hX.lt; omega
  have hn4 : ¬ w.heap.size = E := fun h => by have := hE.lt; omega
  clear hX hE
  go_wp2_with fail
  go_region_with (fail)
  all_goals
    have R0 := HX.out.set_ 0 (.int .i64 0)
    have R1 := (R0.set_ 1 (.int .i64 0)).set_ 2 (.int .i64 0)
    have R2 := R1.far (p := ⟨E, 0, none⟩) hne (.int .i64 n)
    have S0 := HE.out.far (p := ⟨X, 0, none⟩) hne2 (.int .i64 0)
    have S1 := (S0.far (p := ⟨X, 1, none⟩) hne2 (.int .i64 0)).far (p := ⟨X, 2, none⟩) hne2 (.int .i64 0)
    have S2 := S1.set_ 0 (.int .i64 n)
    have K := (((((Kept.refl [X, E] w).alloc (.cells #[.int .i64 n] 45)).setCell (p := ⟨X, 0, none⟩) (.inl (by simp)) (.int .i64 0)).setCell (p := ⟨X, 1, none⟩) (.inl (by simp)) (.int .i64 0)).setCell (p := ⟨X, 2, none⟩) (.inl (by simp)) (.int .i64 0)).setCell (p := ⟨E, 0, none⟩) (.inl (by simp)) (.int .i64 n)
    exact ⟨rfl, _, rfl, .tuple #[], by simp [results, Tryd.results19], rfl, rfl, blk_drew R2, blk_drew S2, K.drew⟩
set_option maxHeartbeats 1000000 in
theorem srec_idle (X E : Nat) (w : World) :
    CallsD Tryd.prog 19 #[.pointer (some ⟨X, 0, none⟩), .pointer (some ⟨E, 0, none⟩)] .returning w fun e u' w' => e = .returned (.tuple #[]) ∧ u' = .returning ∧ w' = w := by
  refine callsD_of_wpS Tryd.func19 rfl fun c₀ cs hu => ?_
  simp only [Tryd.ntmps19, List.size_toArray, List.length_cons, List.length_nil, Nat.reduceAdd, Nat.reduceSub, Array.replicate_succ, Array.replicate_zero, List.push_toArray, List.append_toArray, List.nil_append, List.cons_append]
  apply wpS_seq
  apply wpS_region
  simp [wpOpsS, go_sem, recoverD, hu, Exit.thenS]
  refine wpS_of_wp ?_
  go_wp2_with fail
  cases c₀
  simp_all [bodyPostS, results, Tryd.results19]
theorem set3 {W : World} {b : Nat} {t : TypeId} {c0 c1 c2 : Value} (h : Blk W b t #[c0, c1, c2]) (u0 u1 u2 : Value) :
    (W.setCell ⟨b, 0, none⟩ u0).cell? ⟨b, 0, none⟩ = some u0 ∧ ((W.setCell ⟨b, 0, none⟩ u0).setCell ⟨b, 1, none⟩ u1).cell? ⟨b, 1, none⟩ = some u1 ∧
    (((W.setCell ⟨b, 0, none⟩ u0).setCell ⟨b, 1, none⟩ u1).setCell ⟨b, 2, none⟩ u2).cell? ⟨b, 2, none⟩ = some u2 :=
  ⟨(h.set_ 0 u0).cell 0, ((h.set_ 0 u0).set_ 1 u1).cell 1, (((h.set_ 0 u0).set_ 1 u1).set_ 2 u2).cell 2⟩
theorem blk_set3 {W : World} {b : Nat} {t : TypeId} {c0 c1 c2 : Value} (h : Blk W b t #[c0, c1, c2]) (u0 u1 u2 : Value) :
    Blk (((W.setCell ⟨b, 0, none⟩ u0).setCell ⟨b, 1, none⟩ u1).setCell ⟨b, 2, none⟩ u2) b t #[u0, u1, u2] :=
  ((h.set_ 0 u0).set_ 1 u1).set_ 2 u2
theorem far3 {W : World} {b g : Nat} {t : TypeId} {cs : Array Value} (h : Blk W g t cs) (hne : g ≠ b) (u0 u1 u2 : Value) :
    Blk (((W.setCell ⟨b, 0, none⟩ u0).setCell ⟨b, 1, none⟩ u1).setCell ⟨b, 2, none⟩ u2) g t cs :=
  ((h.far (p := ⟨b, 0, none⟩) hne u0).far (p := ⟨b, 1, none⟩) hne u1).far (p := ⟨b, 2, none⟩) hne u2
theorem kept3 {w W : World} {b : Nat} (k : Kept [] w W) (hb : w.heap.size ≤ b) (u0 u1 u2 : Value) :
    Kept [] w (((W.setCell ⟨b, 0, none⟩ u0).setCell ⟨b, 1, none⟩ u1).setCell ⟨b, 2, none⟩ u2) :=
  ((k.setCell (p := ⟨b, 0, none⟩) (.inr hb) u0).setCell (p := ⟨b, 1, none⟩) (.inr hb) u1).setCell (p := ⟨b, 2, none⟩) (.inr hb) u2
set_option maxHeartbeats 1000000 in
theorem cut_prefix (s p : ByteArray) (w : World) :
    Calls Tryd.prog 22 #[.string s, .string p] w fun e w' => e = .returned (.tuple #[.string ⟨(Lib.trimPrefix s.data.toList p.data.toList).toArray⟩, .bool (Lib.hasPrefix s.data.toList p.data.toList)]) ∧ w' = w := by
  go_enter Tryd.func22, Tryd.ntmps22
  go_wp2
  · have h2 : (!((s.extract 0 p.size).toList == p.toList)) = true := by assumption
    have h3 : (decide (p.size ≤ s.size) && ((s.extract 0 p.size).toList == p.toList)) = false := by
      have : ((s.extract 0 p.size).toList == p.toList) = false := by simpa using h2
      rw [this]
      simp
    go_ret2
    refine ⟨?_, rfl⟩
    rw [Lib.trimPrefix_miss s p h3, ← Lib.hasPrefix_raw, h3]
    rfl
  · have h1 : p.size ≤ s.size := by assumption
    have h2 : (!((s.extract 0 p.size).toList == p.toList)) = false := by assumption
    have h2' : ((s.extract 0 p.size).toList == p.toList) = true := by simpa using h2
    go_ret2
    refine ⟨?_, rfl⟩
    rw [Lib.trimPrefix_hit s p h1 h2', ← Lib.hasPrefix_raw, h2', decide_eq_true h1]
    rfl
  · have h1 : ¬ p.size ≤ s.size := by assumption
    have h3 : (decide (p.size ≤ s.size) && ((s.extract 0 p.size).toList == p.toList)) = false := by simp [h1]
    go_ret2
    refine ⟨?_, rfl⟩
    rw [Lib.trimPrefix_miss s p h3, ← Lib.hasPrefix_raw, h3]
    rfl
theorem prefix_take (B p : List UInt8) : Lib.hasPrefix B p = decide (B.take p.length = p) := by
  unfold Lib.hasPrefix
  rw [Bool.eq_iff_iff, List.isPrefixOf_iff_prefix, decide_eq_true_iff, List.prefix_iff_eq_take]
  exact ⟨fun h => h.symm, fun h => h.symm⟩
theorem cut_yes (B : List UInt8) (h : B.take 4 = lettersS) : Lib.hasPrefix B lettersS = true ∧ Lib.trimPrefix B lettersS = B.drop 4 := by
  have : Lib.hasPrefix B lettersS = true := by rw [prefix_take]; exact decide_eq_true h
  exact ⟨this, by rw [Lib.trimPrefix, if_pos this]; rfl⟩
theorem cut_no (B : List UInt8) (h : B.take 4 ≠ lettersS) : Lib.hasPrefix B lettersS = false := by
  rw [prefix_take]
  exact decide_eq_false h
theorem open_len (s : List UInt8) : (openL s).1.length ≤ s.length := by
  unfold openL
  split
  · simp
  · split
    · simp
    · simp
theorem small_num (s : List UInt8) (o z n : Nat) (h : n = numN ((s.drop o).take z)) : n < 256 ^ z := by
  subst h
  refine Nat.lt_of_lt_of_le (numN_lt _) (Nat.pow_le_pow_right (by omega) ?_)
  simp
  omega
theorem got_S (B : List UInt8) (h : (getL B zsS).2.2 = 0) : ∃ a b c, (getL B zsS).1 = [a, b, c] ∧ a < 4294967296 ∧ b < 4294967296 ∧ c < 4294967296 := by
  unfold getL at h ⊢
  split at h
  · cases h
  · rename_i h1
    rw [if_neg h1]
    split at h
    · rename_i h2
      rw [if_pos h2]
      exact ⟨_, _, _, rfl, small_num _ _ 4 _ rfl, small_num _ _ 4 _ rfl, small_num _ _ 4 _ rfl⟩
    · cases h
set_option maxRecDepth 4000 in
set_option maxHeartbeats 4000000 in
theorem super_Decode (w : World) (s : List UInt8) (hs : s.length ≤ 140737488351232) :
    Calls Tryd.prog 11 #[.string ⟨s.toArray⟩] w fun e w' => e = .returned (.tuple #[sv (decS s).1, .int .i64 (decS s).2]) ∧ Kept [] w w' := by
  have KA : Hid (Kept [] w ((w.alloc (.cells #[.int .i64 0, .int .i64 0, .int .i64 0] 23)).alloc (.cells #[.int .i64 0] 24))) := ((Kept.refl [] w).alloc _).alloc _
  have HXA : Hid (Blk ((w.alloc (.cells #[.int .i64 0, .int .i64 0, .int .i64 0] 23)).alloc (.cells #[.int .i64 0] 24)) w.heap.size 23 #[.int .i64 0, .int .i64 0, .int .i64 0]) := (Blk.new w _ _).alloc _
  have HEA : Hid (Blk ((w.alloc (.cells #[.int .i64 0, .int .i64 0, .int .i64 0] 23)).alloc (.cells #[.int .i64 0] 24)) (w.heap.size + 1) 24 #[.int .i64 0]) := blk_new (by simp)
  have hnXE : ¬ w.heap.size = w.heap.size + 1 := by omega
  by_cases h64 : s.length = 64
  · have hol := open_len s
    have HD : Hid (decS s = if (openL s).2 ≠ 0 then (zeroS, (openL s).2) else
        if (openL s).1.take 4 ≠ lettersS then (zeroS, 22) else
        if (getL ((openL s).1.drop 4) zsS).2.2 ≠ 0 ∨ (getL ((openL s).1.drop 4) zsS).2.1.all (· == 0) = false then (zeroS, 32) else
        if rightS (ofS (getL ((openL s).1.drop 4) zsS).1) = true then (ofS (getL ((openL s).1.drop 4) zsS).1, 0) else (zeroS, 32)) := by
      rw [Hid, decS, if_neg (by rw [h64]; simp)]
    go_enter_defers Tryd.func11, Tryd.ntmps11
    go_wp2_with fail
    refine (must_ok 21 _).mono ?_
    rintro e w1 ⟨rfl, rfl⟩
    go_wp2_with fail
    refine (crc_Open s _ hs).mono ?_
    rintro e w1 ⟨rfl, k1⟩
    have hE1 := HEA.out.kept k1 (fun h => by cases h)
    have HX1 := Lib.hid (HXA.out.kept k1 (fun h => by cases h))
    have HK1 := Lib.hid (KA.out.trans k1)
    obtain ⟨B, hB⟩ : ∃ B, (openL s).1 = B := ⟨_, rfl⟩
    obtain ⟨q, hq⟩ : ∃ q, (openL s).2 = q := ⟨_, rfl⟩
    rw [hB, hq] at HD
    rw [hB] at hol
    rw [hB, hq]
    clear hB hq k1 KA HXA HEA h64
    have a0 := hE1.cell 0
    have a1 := hE1.frozen 0
    have HE2 := Lib.hid (hE1.set_ 0 (.int .i64 q))
    have a2 := HE2.out.cell 0
    have HX2 := Lib.hid (HX1.out.far (p := ⟨w.heap.size + 1, 0, none⟩) hnXE (.int .i64 q))
    have HK2 := Lib.hid (HK1.out.setCell (p := ⟨w.heap.size + 1, 0, none⟩) (.inr (Nat.le_succ _)) (.int .i64 q))
    clear hE1
    go_wp2_with fail
    by_cases h2 : q = 0
    · subst h2
      refine (must_ok 0 _).mono ?_
      rintro e w2 ⟨rfl, rfl⟩
      have HD1 : Hid (decS s = if B.take 4 ≠ lettersS then (zeroS, 22) else
        if (getL (B.drop 4) zsS).2.2 ≠ 0 ∨ (getL (B.drop 4) zsS).2.1.all (· == 0) = false then (zeroS, 32) else
        if rightS (ofS (getL (B.drop 4) zsS).1) = true then (ofS (getL (B.drop 4) zsS).1, 0) else (zeroS, 32)) := by
        rw [Hid, HD.out, if_neg (by simp)]
      clear HD a0 a1 a2 HX1 HK1
      generalize w1.setCell ⟨w.heap.size + 1, 0, none⟩ (.int .i64 0) = w2 at *
      go_wp2_with fail
      refine (cut_prefix ⟨B.toArray⟩ ⟨#[79, 65, 75, 49]⟩ w2).mono ?_
      rintro e w3 ⟨rfl, rfl⟩
      by_cases h3 : B.take 4 = lettersS
      · obtain ⟨c1, c2⟩ := cut_yes B h3
        rw [show Lib.hasPrefix (ByteArray.mk B.toArray).data.toList (ByteArray.mk #[79, 65, 75, 49]).data.toList = true from c1,
          show Lib.trimPrefix (ByteArray.mk B.toArray).data.toList (ByteArray.mk #[79, 65, 75, 49]).data.toList = B.drop 4 from c2]
        have hdl : (B.drop 4).length ≤ s.length := by rw [List.length_drop]; omega
        have HD2 : Hid (decS s = if (getL (B.drop 4) zsS).2.2 ≠ 0 ∨ (getL (B.drop 4) zsS).2.1.all (· == 0) = false then (zeroS, 32) else
          if rightS (ofS (getL (B.drop 4) zsS).1) = true then (ofS (getL (B.drop 4) zsS).1, 0) else (zeroS, 32)) := by
          rw [Hid, HD1.out, if_neg (by rw [h3]; simp)]
        clear h3 c1 c2 HD1
        generalize B.drop 4 = C at *
        go_wp2_with fail
        refine (must_ok 22 _).mono ?_
        rintro e w4 ⟨rfl, rfl⟩
        go_wp2_with fail
        refine (super_sizes _).mono ?_
        rintro e w4 ⟨rfl, rfl⟩
        have HG := Lib.hid (oct_Get (w3.alloc (.cells (zsS.map iv).toArray 3)) C (some ⟨w3.heap.size, 0, none⟩) 3 zsS (rd_iv (blk_new rfl)) (by decide) (by omega))
        go_wp2_with fail
        refine HG.out.mono ?_
        rintro e w4 ⟨A3, cap3, rfl, k3, hown⟩
        have HK3 := Lib.hid (HK2.out.trans (((Kept.refl [] w3).alloc _).trans k3))
        have hE3 := (HE2.out.alloc (.cells (zsS.map iv).toArray 3)).kept k3 (fun h => by cases h)
        have HX3 := Lib.hid ((HX2.out.alloc (.cells (zsS.map iv).toArray 3)).kept k3 (fun h => by cases h))
        have hrest := got_rest C zsS
        have hE3lt := hE3.lt
        have hsz3 := (k3.size : (w3.alloc (.cells (zsS.map iv).toArray 3)).heap.size ≤ w4.heap.size)
        have hsz2 := HE2.out.lt
        clear HG k3 HK2 HE2 HX2
        obtain ⟨m, hm⟩ : ∃ m, (getL C zsS).1 = m := ⟨_, rfl⟩
        obtain ⟨f, hf⟩ : ∃ f, (getL C zsS).2.2 = f := ⟨_, rfl⟩
        have HGS := Lib.hid (got_S C)
        rw [hm, hf] at HGS HD2
        rw [hm] at hown
        rw [hm, hf]
        clear hm hf
        generalize (getL C zsS).2.1 = r at *
        have a0 := hE3.cell 0
        have a1 := hE3.frozen 0
        have HE4 := Lib.hid (hE3.set_ 0 (.int .i64 f))
        have a2 := HE4.out.cell 0
        have HX4 := Lib.hid (HX3.out.far (p := ⟨w.heap.size + 1, 0, none⟩) hnXE (.int .i64 f))
        have HK4 := Lib.hid (HK3.out.setCell (p := ⟨w.heap.size + 1, 0, none⟩) (.inr (Nat.le_succ _)) (.int .i64 f))
        have HOW := Lib.hid hown
        clear hE3 HX3 HK3 hown
        by_cases hf0 : f = 0
        · obtain ⟨a, b, c, hm, ha, hb, hc⟩ := HGS.out hf0
          subst hm
          subst hf0
          have hrl : r.length ≤ 140737488351232 := by omega
          have HZ := Lib.hid (trim_all r)
          have HD3 : Hid (decS s = if r.all (· == 0) = false then (zeroS, 32) else if rightS (ofS [a, b, c]) = true then (ofS [a, b, c], 0) else (zeroS, 32)) := by
            rw [Hid, HD2.out]
            simp only [ne_eq, not_true_eq_false, false_or]
          have hRd := Rd.of_own (own_set HOW.out (p := ⟨w.heap.size + 1, 0, none⟩) (fun k hk => by
            have h1 := (HOW.out.lt k hk).1
            show k ≠ w.heap.size + 1
            have h2 : w3.heap.size + 1 ≤ k := by simpa using h1
            omega) (.int .i64 0))
          obtain ⟨g, o, hA3, hlt, hcs⟩ := hRd.2 (by simp)
          have hcap : [a, b, c].length ≤ cap3 := by
            obtain ⟨_, _, e5, h5⟩ := own_slice HOW.out
            injection e5 with _ _ e5
            omega
          have hg : w3.heap.size + 1 ≤ g := by
            have := (HOW.out.lt g (by rw [hA3]; rfl)).1
            simpa using this
          have hgX : ¬ g = w.heap.size := by omega
          have hgX2 : ¬ w.heap.size = g := by omega
          subst hA3
          have HM : Hid ((w4.setCell ⟨w.heap.size + 1, 0, none⟩ (.int .i64 0)).cell? ⟨g, o, none⟩ = some (.int .u64 (a : Int)) ∧ (w4.setCell ⟨w.heap.size + 1, 0, none⟩ (.int .i64 0)).cell? ⟨g, o + 1, none⟩ = some (.int .u64 (b : Int)) ∧ (w4.setCell ⟨w.heap.size + 1, 0, none⟩ (.int .i64 0)).cell? ⟨g, o + 2, none⟩ = some (.int .u64 (c : Int))) := ⟨hcs 0 (uv a) rfl, hcs 1 (uv b) rfl, hcs 2 (uv c) rfl⟩
          have cc : (3 : Int) ≤ (cap3 : Int) := by simp at hcap; omega
          clear hRd hcs HGS HD2 HOW hlt hcap hE3lt hsz3 hsz2 hg
          go_wp2_with fail
          refine (oct_Zero r _ hrl).mono ?_
          rintro e w5 ⟨rfl, k5⟩
          rw [HZ.out]
          have HK5 := Lib.hid (HK4.out.trans k5)
          have HX5 := Lib.hid (HX4.out.kept k5 (fun h => by cases h))
          have HE5 := Lib.hid (HE4.out.kept k5 (fun h => by cases h))
          have m0 := k5.cell HM.out.1 (fun h => by cases h)
          have m1 := k5.cell HM.out.2.1 (fun h => by cases h)
          have m2 := k5.cell HM.out.2.2 (fun h => by cases h)
          clear a0 a1 a2 HM HK4 HX4 HE4 k5 HZ
          by_cases hz : r.all (· == 0) = true
          · have HD4 : Hid (decS s = if rightS (ofS [a, b, c]) = true then (ofS [a, b, c], 0) else (zeroS, 32)) := by
              rw [Hid, HD3.out, if_neg (by rw [hz]; simp)]
            rw [hz]
            clear hz HD3
            go_wp2_with fail
            refine (must_ok 32 _).mono ?_
            rintro e w6 ⟨rfl, rfl⟩
            have x0 := HX5.out.cell 0
            have x1 := HX5.out.cell 1
            have x2 := HX5.out.cell 2
            have y0 := HX5.out.frozen 0
            have y1 := HX5.out.frozen 1
            have y2 := HX5.out.frozen 2
            obtain ⟨t0, t1, t2⟩ := set3 (blk_drew HX5.out) (.int .i64 (a : Int)) (.int .i64 (b : Int)) (.int .i64 (c : Int))
            have HX6 := Lib.hid (blk_set3 (blk_drew HX5.out) (.int .i64 (a : Int)) (.int .i64 (b : Int)) (.int .i64 (c : Int)))
            have HE6 := Lib.hid (far3 (b := w.heap.size) (blk_drew HE5.out) (Nat.succ_ne_self _) (.int .i64 (a : Int)) (.int .i64 (b : Int)) (.int .i64 (c : Int)))
            have HK6 := Lib.hid (kept3 (b := w.heap.size) HK5.out.drew (Nat.le_refl _) (.int .i64 (a : Int)) (.int .i64 (b : Int)) (.int .i64 (c : Int)))
            go_wp2_with fail
            go_region_held3 (fun W => W.cell? ⟨g, o, none⟩ = some (.int .u64 (a : Int)) ∧ W.cell? ⟨g, o + 1, none⟩ = some (.int .u64 (b : Int)) ∧ W.cell? ⟨g, o + 2, none⟩ = some (.int .u64 (c : Int))) (first | exact ⟨m0, m1, m2⟩ | go_keep | (simp [hgX, hgX2, m0, m1, m2]; done)) (fail)
            go_wp2_with fail
            have hWS : wfS ⟨(a : Int), (b : Int), (c : Int)⟩ := ⟨⟨by show (-9223372036854775808 : Int) ≤ (a : Int); omega, by show (a : Int) ≤ 9223372036854775807; omega⟩, ⟨by show (-9223372036854775808 : Int) ≤ (b : Int); omega, by show (b : Int) ≤ 9223372036854775807; omega⟩, by show (-9223372036854775808 : Int) ≤ (c : Int); omega, by show (c : Int) ≤ 9223372036854775807; omega⟩
            refine (super_Right ⟨(a : Int), (b : Int), (c : Int)⟩ hWS _).mono ?_
            rintro e w7 ⟨rfl, k7⟩
            have HX7 := Lib.hid (HX6.out.kept k7 (fun h => by cases h))
            have HE7 := Lib.hid (HE6.out.kept k7 (fun h => by cases h))
            have HK7 := Lib.hid (HK6.out.trans k7)
            have HD5 : Hid (decS s = if rightS ⟨(a : Int), (b : Int), (c : Int)⟩ = true then (⟨(a : Int), (b : Int), (c : Int)⟩, 0) else (zeroS, 32)) := HD4.out
            clear m0 m1 m2 x0 x1 x2 y0 y1 y2 t0 t1 t2 k7 HX6 HE6 HK6 HX5 HE5 HK5 HD4 ha hb hc hWS
            cases hr : rightS ⟨(a : Int), (b : Int), (c : Int)⟩
            · have HF : Hid (decS s = (zeroS, 32)) := by rw [Hid, HD5.out, if_neg (by rw [hr]; simp)]
              clear HD5
              go_wp2_with fail
              refine (must_bad 32 _).mono ?_
              rintro e w8 ⟨rfl, rfl⟩
              go_wp2_with fail
              refine leaves_cons (f := 19) (args := #[.pointer (some ⟨w.heap.size, 0, none⟩), .pointer (some ⟨w.heap.size + 1, 0, none⟩)]) (by simp) (by simp [go_sem]) ?_
              refine (srec_cut w.heap.size (w.heap.size + 1) a b c 0 32 [] _ HX7.out HE7.out).mono ?_
              rintro e u' w'' ⟨rfl, rfl, hX, hE, k⟩
              have c0 := hX.cell 0
              have c1 := hX.cell 1
              have c2 := hX.cell 2
              have c3 := hE.cell 0
              simp [Leaves, settle, results, Tryd.results11, go_sem, c0, c1, c2, c3]
              rw [HF.out]
              exact ⟨⟨rfl, rfl⟩, HK7.out.trans' k (fun x hx => .inr (by simp at hx; omega))⟩
            · have HF : Hid (decS s = (⟨(a : Int), (b : Int), (c : Int)⟩, 0)) := by rw [Hid, HD5.out, if_pos hr]
              clear HD5 hr
              go_wp2_with fail
              refine (must_ok 32 _).mono ?_
              rintro e w8 ⟨rfl, rfl⟩
              have x0 := HX7.out.cell 0
              have x1 := HX7.out.cell 1
              have x2 := HX7.out.cell 2
              have y0 := HX7.out.frozen 0
              have y1 := HX7.out.frozen 1
              have y2 := HX7.out.frozen 2
              obtain ⟨t0, t1, t2⟩ := set3 HX7.out (.int .i64 (a : Int)) (.int .i64 (b : Int)) (.int .i64 (c : Int))
              have HX8 := Lib.hid (blk_set3 HX7.out (.int .i64 (a : Int)) (.int .i64 (b : Int)) (.int .i64 (c : Int)))
              have hE8 := far3 (b := w.heap.size) HE7.out (Nat.succ_ne_self _) (.int .i64 (a : Int)) (.int .i64 (b : Int)) (.int .i64 (c : Int))
              have HK8 := Lib.hid (kept3 (b := w.heap.size) HK7.out (Nat.le_refl _) (.int .i64 (a : Int)) (.int .i64 (b : Int)) (.int .i64 (c : Int)))
              have e0 := hE8.cell 0
              have f0 := hE8.frozen 0
              have HX9 := Lib.hid (HX8.out.far (p := ⟨w.heap.size + 1, 0, none⟩) hnXE (.int .i64 0))
              have HE9 := Lib.hid (hE8.set_ 0 (.int .i64 0))
              have HK9 := Lib.hid (HK8.out.setCell (p := ⟨w.heap.size + 1, 0, none⟩) (.inr (Nat.le_succ _)) (.int .i64 0))
              clear hE8
              go_wp2_with fail
              refine leaves_cons (f := 19) (args := #[.pointer (some ⟨w.heap.size, 0, none⟩), .pointer (some ⟨w.heap.size + 1, 0, none⟩)]) (by simp) (by simp [go_sem]) ?_
              refine (srec_idle w.heap.size (w.heap.size + 1) _).mono ?_
              rintro e u' w'' ⟨rfl, rfl, rfl⟩
              have c0 := HX9.out.cell 0
              have c1 := HX9.out.cell 1
              have c2 := HX9.out.cell 2
              have c3 := HE9.out.cell 0
              simp [Leaves, settle, results, Tryd.results11, go_sem, c0, c1, c2, c3]
              rw [HF.out]
              exact ⟨⟨rfl, rfl⟩, HK9.out⟩
          · have hz : r.all (· == 0) = false := by simpa using hz
            have HF : Hid (decS s = (zeroS, 32)) := by rw [Hid, HD3.out, if_pos hz]
            rw [hz]
            clear hz HD3 m0 m1 m2
            go_wp2_with fail
            refine (must_bad 32 _).mono ?_
            rintro e w6 ⟨rfl, rfl⟩
            go_wp2_with fail
            refine leaves_cons (f := 19) (args := #[.pointer (some ⟨w.heap.size, 0, none⟩), .pointer (some ⟨w.heap.size + 1, 0, none⟩)]) (by simp) (by simp [go_sem]) ?_
            refine (srec_cut w.heap.size (w.heap.size + 1) 0 0 0 0 32 [] _ HX5.out HE5.out).mono ?_
            rintro e u' w'' ⟨rfl, rfl, hX, hE, k⟩
            have c0 := hX.cell 0
            have c1 := hX.cell 1
            have c2 := hX.cell 2
            have c3 := hE.cell 0
            simp [Leaves, settle, results, Tryd.results11, go_sem, c0, c1, c2, c3]
            rw [HF.out]
            exact ⟨⟨rfl, rfl⟩, HK5.out.trans' k (fun x hx => .inr (by simp at hx; omega))⟩
        · have HF : Hid (decS s = (zeroS, 32)) := by rw [Hid, HD2.out, if_pos (.inl hf0)]
          clear HGS HD2 HOW hE3lt hsz3 hsz2
          go_wp2_with fail
          refine (must_bad 32 _).mono ?_
          rintro e w5 ⟨rfl, rfl⟩
          go_wp2_with fail
          refine leaves_cons (f := 19) (args := #[.pointer (some ⟨w.heap.size, 0, none⟩), .pointer (some ⟨w.heap.size + 1, 0, none⟩)]) (by simp) (by simp [go_sem]) ?_
          refine (srec_cut w.heap.size (w.heap.size + 1) 0 0 0 f 32 [] _ HX4.out HE4.out).mono ?_
          rintro e u' w'' ⟨rfl, rfl, hX, hE, k⟩
          have c0 := hX.cell 0
          have c1 := hX.cell 1
          have c2 := hX.cell 2
          have c3 := hE.cell 0
          simp [Leaves, settle, results, Tryd.results11, go_sem, c0, c1, c2, c3]
          rw [HF.out]
          exact ⟨⟨rfl, rfl⟩, HK4.out.trans' k (fun x hx => .inr (by simp at hx; omega))⟩
      · have c1 := cut_no B h3
        have HF : Hid (decS s = (zeroS, 22)) := by rw [Hid, HD1.out, if_pos h3]
        rw [show Lib.hasPrefix (ByteArray.mk B.toArray).data.toList (ByteArray.mk #[79, 65, 75, 49]).data.toList = false from c1]
        clear h3 c1
        go_wp2_with fail
        refine (must_bad 22 _).mono ?_
        rintro e w4 ⟨rfl, rfl⟩
        go_wp2_with fail
        refine leaves_cons (f := 19) (args := #[.pointer (some ⟨w.heap.size, 0, none⟩), .pointer (some ⟨w.heap.size + 1, 0, none⟩)]) (by simp) (by simp [go_sem]) ?_
        refine (srec_cut w.heap.size (w.heap.size + 1) 0 0 0 0 22 [] _ HX2.out HE2.out).mono ?_
        rintro e u' w'' ⟨rfl, rfl, hX, hE, k⟩
        have c0 := hX.cell 0
        have c1 := hX.cell 1
        have c2 := hX.cell 2
        have c3 := hE.cell 0
        simp [Leaves, settle, results, Tryd.results11, go_sem, c0, c1, c2, c3]
        rw [HF.out]
        exact ⟨⟨rfl, rfl⟩, HK2.out.trans' k (fun x hx => .inr (by simp at hx; omega))⟩
    · have HF : Hid (decS s = (zeroS, q)) := by rw [Hid, HD.out, if_pos h2]
      have hq0 : (q == 0) = false := by rw [beq_eq_false_iff_ne]; exact h2
      rw [hq0]
      refine (must_bad q _).mono ?_
      rintro e w2 ⟨rfl, rfl⟩
      clear HD
      go_wp2_with fail
      refine leaves_cons (f := 19) (args := #[.pointer (some ⟨w.heap.size, 0, none⟩), .pointer (some ⟨w.heap.size + 1, 0, none⟩)]) (by simp) (by simp [go_sem]) ?_
      refine (srec_cut w.heap.size (w.heap.size + 1) 0 0 0 q q [] _ HX2.out HE2.out).mono ?_
      rintro e u' w'' ⟨rfl, rfl, hX, hE, k⟩
      have c0 := hX.cell 0
      have c1 := hX.cell 1
      have c2 := hX.cell 2
      have c3 := hE.cell 0
      simp [Leaves, settle, results, Tryd.results11, go_sem, c0, c1, c2, c3]
      rw [HF.out]
      exact ⟨⟨rfl, rfl⟩, HK2.out.trans' k (fun x hx => .inr (by simp at hx; omega))⟩
  · have HF : Hid (decS s = (zeroS, 21)) := by rw [Hid, decS, if_pos h64]
    have hne : ((s.length : Int) == 64) = false := by
      rw [beq_eq_false_iff_ne]
      omega
    clear h64
    go_enter_defers Tryd.func11, Tryd.ntmps11
    go_wp2_with fail
    refine (must_bad 21 _).mono ?_
    rintro e w1 ⟨rfl, rfl⟩
    go_wp2_with fail
    refine leaves_cons (f := 19) (args := #[.pointer (some ⟨w.heap.size, 0, none⟩), .pointer (some ⟨w.heap.size + 1, 0, none⟩)]) (by simp) (by simp [go_sem]) ?_
    refine (srec_cut w.heap.size (w.heap.size + 1) 0 0 0 0 21 [] _ HXA.out HEA.out).mono ?_
    rintro e u' w'' ⟨rfl, rfl, hX, hE, k⟩
    have c0 := hX.cell 0
    have c1 := hX.cell 1
    have c2 := hX.cell 2
    have c3 := hE.cell 0
    simp [Leaves, settle, results, Tryd.results11, go_sem, c0, c1, c2, c3]
    rw [HF.out]
    exact ⟨⟨rfl, rfl⟩, KA.out.trans' k (fun x hx => .inr (by simp at hx; omega))⟩
end Go.Proofs.YtcjdkanmbafjmaaDoor
