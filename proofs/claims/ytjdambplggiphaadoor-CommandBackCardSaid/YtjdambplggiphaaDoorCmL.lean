/- Commands: the program's reading of figures. -/
import Derived.Test.YtjdambplggiphaaDoorCmK
import Derived.Laws.MakeOwn
namespace Go.Proofs.YtjdambplggiphaaDoor
open Go.RowKit Go.Lib

theorem iter_kept {w V : World} {k : Nat} {s : ByteArray} {p : Nat} (h : Kept [] w V) (hk : w.heap.size ≤ k) : Kept [] w (V.iterAt k s p) :=
  ⟨h.os, h.tape, h.output, by rw [iterAt_size]; exact h.size, fun i hi hl => by rw [iterAt_other V k i s p (by omega)]; exact h.block i hi hl⟩
theorem made_list (m : Nat) : madeCells (Value.int IntKind.u8 0).cells m = ((List.replicate m (0 : UInt8)).map bv).toArray := by
  apply Array.ext
  · simp [madeCells]
  · intro i h1 h2
    simp [madeCells, Value.cells, bv, Nat.mod_one]
theorem run_mk (m : Nat) (hm : m ≤ 1000000) (w : World) : (Instr.makeSlice 50 (.int .i64 (m : Int)) (.int .i64 (m : Int))).run Tryd.prog w = .ok (.slice (some ⟨w.heap.size, 0, none⟩) m m) (w.alloc (.cells ((List.replicate m (0 : UInt8)).map bv).toArray 5)) := by
  obtain ⟨i0, hi, hz0, hz1, hz2⟩ := info_parts infoB
  have h := run_make (P := Tryd.prog) w 50 5 i0 (.int .u8 0) Tryd.underlying50 hi hz0 .i64 .i64 (m : Int) (m : Int) (by omega) (by omega) (by rw [hz2]; omega) (by omega)
  rw [hz1, Int.toNat_natCast, Nat.mul_one, made_list] at h
  exact h
theorem figs_index : ∀ c : UInt8, c.toNat < 128 → indexByte figsL c = match figN c with | some v => (v : Int) | none => -1 := by
  have : ∀ n : Fin 256, indexByte figsL (UInt8.ofNat n.val) = match figN (UInt8.ofNat n.val) with | some v => (v : Int) | none => -1 := by decide +kernel
  intro c _
  have h := this ⟨c.toNat, c.toNat_lt⟩
  rwa [show UInt8.ofNat (⟨c.toNat, c.toNat_lt⟩ : Fin 256).val = c from UInt8.ofNat_toNat] at h
theorem fig_high {c : UInt8} (h : 128 ≤ c.toNat) : figN c = none := by
  unfold figN
  rw [if_neg (by omega), if_neg (by omega)]
/-- so far -/
def rowB (d : Bs) (h : Option Nat) (m : Nat) : Bs := d ++ (match h with | some x => [UInt8.ofNat x] | none => []) ++ List.replicate (m - d.length - (match h with | some _ => 1 | none => 0)) 0
theorem row_at_none {d : Bs} {m : Nat} (h : d.length < m) : (rowB d none m)[d.length]? = some 0 := by
  unfold rowB
  simp [List.getElem?_append, List.getElem?_replicate]
  omega
theorem row_at_some {d : Bs} {m x : Nat} : (rowB d (some x) m)[d.length]? = some (UInt8.ofNat x) := by
  unfold rowB
  simp [List.getElem?_append]
theorem row_set_none {d : Bs} {m x : Nat} (h : d.length < m) : (rowB d none m).set d.length (UInt8.ofNat x) = rowB d (some x) m := by
  unfold rowB
  obtain ⟨k, hk⟩ : ∃ k, m - d.length = k + 1 := ⟨m - d.length - 1, by omega⟩
  simp [hk, List.replicate_succ]
theorem row_set_some {d : Bs} {m x : Nat} {z : UInt8} (h : d.length < m) : (rowB d (some x) m).set d.length z = rowB (d ++ [z]) none m := by
  unfold rowB
  simp [Nat.sub_sub]
theorem row_all {d : Bs} {m : Nat} (h : d.length = m) : rowB d none m = d := by
  unfold rowB
  simp [h]
theorem row_len {d : Bs} {m : Nat} (h : d.length ≤ m) : (rowB d none m).length = m := by
  unfold rowB
  simp
  omega
theorem or_four {x y : Nat} (hx : x < 16) (hy : y < 16) : (16 * x) ||| y = 16 * x + y := by
  have := Nat.two_pow_add_eq_or_of_lt (i := 4) (b := y) hy x
  rw [show (2 : Nat) ^ 4 * x = 16 * x by omega] at this
  exact this.symm
theorem set_iter {V : World} {p : Addr} {k : Nat} {o : Obj} (u : Value) (hne : k ≠ p.block) (h : V.heap[k]? = some o) : Hid ((V.setCell p u).heap[k]? = some o) :=
  (Below.heap_setCell _ _ _ _ (by first | exact hne | exact hne.symm)).trans h
def oneH (h : Option Nat) : Nat := match h with | some _ => 1 | none => 0
theorem conv_blk {V : World} {g : Nat} {d : Bs} (h : Blk V g 5 (d.map bv).toArray) : (convert 50 9 (.slice (some ⟨g, 0, none⟩) d.length d.length)).run Tryd.prog V = .ok (.string ⟨d.toArray⟩) V :=
  conv_bytes (P := Tryd.prog) (B := V.heap.size) (c := d.length) 50 5 Tryd.underlying50 Tryd.underlying5 ⟨by simp, fun _ => ⟨g, 0, rfl, h.lt, fun j u hu => by rw [Nat.zero_add, h.cell]; simpa using hu⟩⟩ (fun _ => .inr ⟨_, _, rfl⟩) 9 Tryd.underlying9
set_option maxRecDepth 8000 in
set_option maxHeartbeats 4000000 in
theorem cmd_bytes (s : Bs) (w : World) (hs : s.length ≤ 1000000) : Calls Tryd.prog 29 #[.string ⟨s.toArray⟩] w (BytPost s w) := by
  have HNo := Lib.hid (fun w' (h : bytL s = none) (k : Kept [] w w') => BytPost.no h k)
  have HYes := Lib.hid (fun w' d (h : bytL s = some d) (k : Kept [] w w') => BytPost.yes h k)
  by_cases hd : s = [45]
  · subst hd
    have hn : Hid (bytL [45] = some []) := by simp [Hid, bytL]
    generalize BytPost [45] w = Q at *
    go_enter Tryd.func29, Tryd.ntmps29
    go_wp2_with fail
    exact HYes.out _ [] hn.out (Kept.refl _ _)
  · have hd1 : (s == [45]) = false := by simpa using hd
    by_cases hnil : s = []
    · subst hnil
      have hn : Hid (bytL [] = none) := by simp [Hid, bytL]
      generalize BytPost [] w = Q at *
      go_enter Tryd.func29, Tryd.ntmps29
      go_wp2_with fail
      exact HNo.out _ hn.out (Kept.refl _ _)
    · have hie : List.isEmpty s = false := by simpa using hnil
      have HB : Hid (bytL s = unhex s) := by rw [Hid, bytL, if_neg hd, if_neg hnil]
      obtain ⟨r, hr⟩ : ∃ r : Int, ((s.length : Nat) : Int).tmod 2 = r := ⟨_, rfl⟩
      have hr2 : r = ((s.length % 2 : Nat) : Int) := by
        rw [← hr, Int.tmod_eq_emod_of_nonneg (by omega)]
        omega
      by_cases hodd : s.length % 2 = 0
      · have hm0 : r = 0 := by omega
        subst hm0
        obtain ⟨m, hm⟩ : ∃ m, s.length = 2 * m := ⟨s.length / 2, by omega⟩
        have hdv : ((s.length : Nat) : Int).tdiv 2 = (m : Int) := by
          rw [Int.tdiv_eq_ediv_of_nonneg (by omega)]
          omega
        have hmk := run_mk m (by omega) w
        have HB0 := Lib.hid ((Blk.new w 5 ((List.replicate m (0 : UInt8)).map bv).toArray).alloc (.stringIter ⟨s.toArray⟩ 0))
        have HK0 := Lib.hid (((Kept.refl [] w).alloc (.cells ((List.replicate m (0 : UInt8)).map bv).toArray 5)).alloc (.stringIter ⟨s.toArray⟩ 0))
        have hmw : IntKind.i64.wrap (m : Int) = (m : Int) := IntWalk.i64_in _ (by omega)
        clear hr2
        have HM := Lib.hid hm
        generalize BytPost s w = Q at *
        go_enter Tryd.func29, Tryd.ntmps29
        go_wp2_with fail
        go_loopw [5] (fun _ V => ∃ (d : Bs) (h : Option Nat) (pos : Nat), Hid (pos = 2 * d.length + oneH h) ∧ pos ≤ s.length ∧ Hid (unhex s = (unhex (s.drop (2 * d.length))).map (d ++ ·)) ∧ Hid (∀ x, h = some x → ∃ hh, figN (s[2 * d.length]'hh) = some x) ∧ Hid (Blk V w.heap.size 5 ((rowB d h m).map bv).toArray) ∧ Hid (V.heap[w.heap.size + 1]? = some (.stringIter ⟨s.toArray⟩ pos)) ∧ Hid (Kept [] w V)) (fun _ V => s.length - V.iterPos (w.heap.size + 1))
        case atStart =>
          refine ⟨[], none, 0, rfl, Nat.zero_le _, ?_, fun x h => (by cases h), ?_, ?_, ?_⟩
          · rw [Hid, List.length_nil, Nat.mul_zero, List.drop_zero]
            cases unhex s <;> rfl
          · have h := HB0.out
            have e1 : rowB [] none m = List.replicate m 0 := by simp [rowB]
            have e2 : ((List.replicate m (0 : UInt8)).map bv).toArray = Array.replicate m (bv 0) := by simp
            rw [e1, e2]
            rw [e2] at h
            exact h
          · have h := World.iter_heap (w.alloc (.cells ((List.replicate m (0 : UInt8)).map bv).toArray 5)) ⟨s.toArray⟩ 0
            refine Lib.hid ?_
            simpa using h
          · have h := HK0.out
            have e2 : ((List.replicate m (0 : UInt8)).map bv).toArray = Array.replicate m (bv 0) := by simp
            rw [e2] at h
            exact h
        case round =>
          obtain ⟨d, h, pos, HP, hps, HE, HX, HBk, HI, HK⟩ := hrel
          by_cases hlt : pos < s.length
          · have hlts : pos < (⟨s.toArray⟩ : ByteArray).size := hlt
            have hdl : d.length < m := by
              have h1 := HP.out
              have h2 := HM.out
              unfold oneH at h1
              split at h1 <;> omega
            have HNo1 : Hid (figN s[pos] = none → bytL s = none) := fun hf => by
              rw [HB.out]
              have h1 := HP.out
              have h2 := HM.out
              cases h with
              | none =>
                have h1 : pos = 2 * d.length := h1
                subst h1
                exact unhex_no (by omega) HE.out (.inl hf)
              | some x =>
                have h1 : pos = 2 * d.length + 1 := h1
                subst h1
                exact unhex_no (by omega) HE.out (.inr hf)
            by_cases ha : s[pos].toNat < 128
            · have hnx := fun ty => run_next_ascii_at (P := Tryd.prog) wr (w.heap.size + 1) ⟨s.toArray⟩ pos ty HI.out hlts ha
              have hcc : (⟨s.toArray⟩ : ByteArray)[pos]'hlts = s[pos] := rfl
              have KI := Lib.hid (iter_kept (k := w.heap.size + 1) (s := ⟨s.toArray⟩) (p := pos + 1) HK.out (by omega))
              have HB1 : Hid (Blk (wr.iterAt (w.heap.size + 1) ⟨s.toArray⟩ (pos + 1)) w.heap.size 5 ((rowB d h m).map bv).toArray) := (iterAt_other wr (w.heap.size + 1) w.heap.size ⟨s.toArray⟩ (pos + 1) (by omega)).trans HBk.out
              have HI1 : Hid ((wr.iterAt (w.heap.size + 1) ⟨s.toArray⟩ (pos + 1)).heap[w.heap.size + 1]? = some (.stringIter ⟨s.toArray⟩ (pos + 1))) := iterAt_heap wr (w.heap.size + 1) ⟨s.toArray⟩ pos (pos + 1) HI.out
              have hIR := Tryd.strings_IndexRune_ascii ⟨figsL.toArray⟩ (s[pos].toNat : Int)
              have hIX := figs_index s[pos] ha
              have hfi : (s[pos].toNat : Int).toNat.toUInt8 = s[pos] := by
                rw [Int.toNat_natCast]
                apply UInt8.toNat_inj.1
                simp
              rw [hfi] at hIR
              rw [show (⟨figsL.toArray⟩ : ByteArray).data.toList = figsL from rfl, hIX] at hIR
              have hIR := fun w => hIR w (by omega) (by omega)
              unfold figsL at hIR
              have hpm : s.length - (pos + 1) < s.length - pos := by omega
              have hps1 : pos + 1 ≤ s.length := by omega
              have HIP : Hid ((wr.iterPos (w.heap.size + 1)) = pos) := by
                unfold World.iterPos
                rw [Hid, HI.out]
              cases hf : figN s[pos] with
              | none =>
                have hn := Lib.hid (HNo1.out hf)
                rw [hf] at hIR
                dsimp only at hIR
                clear hIX hfi ha hf
                go_wp2_with fail
                refine (hIR _).mono ?_
                rintro e w1 ⟨rfl, rfl⟩
                go_wp2_with fail
                exact HNo.out _ hn.out KI.out
              | some x =>
                have hx16 := fig_lt hf
                rw [hf] at hIR
                dsimp only at hIR
                have hxi : ¬ (x : Int) < 0 := by omega
                have hx8 : IntKind.u8.wrap (x : Int) = (x : Int) := IntWalk.u8_in _ (by omega)
                have hpd : ((pos : Nat) : Int).tdiv 2 = (d.length : Int) := by
                  rw [Int.tdiv_eq_ediv_of_nonneg (by omega)]
                  have h1 := HP.out
                  unfold oneH at h1
                  split at h1 <;> omega
                have hdi : (d.length : Int) < (m : Int) := by omega
                have hdw : IntKind.i64.wrap (d.length : Int) = (d.length : Int) := IntWalk.i64_in _ (by omega)
                clear hIX hfi ha
                cases h with
                | none =>
                  have h1 : pos = 2 * d.length := HP.out
                  have c0 : (wr.iterAt (w.heap.size + 1) ⟨s.toArray⟩ (pos + 1)).cell? ⟨w.heap.size, d.length, none⟩ = some (.int .u8 0) := by
                    rw [HB1.out.cell, List.getElem?_toArray, List.getElem?_map, row_at_none hdl]
                    rfl
                  have f0 := HB1.out.frozen d.length
                  have HP2 : Hid (pos + 1 = 2 * d.length + oneH (some x)) := by rw [Hid, h1]; rfl
                  have HX2 : Hid (∀ y, some x = some y → ∃ hh, figN (s[2 * d.length]'hh) = some y) := fun y hy => by
                    injection hy with hy
                    subst hy
                    subst h1
                    exact ⟨hlt, hf⟩
                  have HS : Hid (∀ V, Blk V w.heap.size 5 ((rowB d none m).map bv).toArray → Blk (V.setCell ⟨w.heap.size, d.length, none⟩ (.int .u8 (x : Int))) w.heap.size 5 ((rowB d (some x) m).map bv).toArray) := fun V hb => by
                    have h2 := hb.set_ d.length (bv (UInt8.ofNat x))
                    have e3 : (UInt8.ofNat x).toNat = x := by rw [UInt8.toNat_ofNat']; omega
                    rw [List.setIfInBounds_toArray, ← List.map_set, row_set_none hdl] at h2
                    unfold bv at h2
                    rw [e3] at h2
                    exact h2
                  have hbz : bits .or .u8 0 (x : Int) = (x : Int) := by
                    have h7 := u8_or_nat 0 x (by omega) (by omega)
                    rw [Nat.zero_or] at h7
                    exact h7
                  clear h1 hf
                  go_wp2_with fail
                  refine (hIR _).mono ?_
                  rintro e w1 ⟨rfl, rfl⟩
                  go_wp2_with fail
                  refine ⟨⟨d, some x, pos + 1, HP2, hps1, HE, HX2, Lib.hid (HS.out _ HB1.out), ?_, Lib.hid (KI.out.setCell (.inr (Nat.le_refl _)) _)⟩, ?_⟩
                  · exact set_iter _ (Nat.succ_ne_self _) HI1.out
                  · have h5 : World.iterPos ((wr.iterAt (w.heap.size + 1) ⟨s.toArray⟩ (pos + 1)).setCell ⟨w.heap.size, d.length, none⟩ (.int .u8 (x : Int))) (w.heap.size + 1) = pos + 1 := by
                      unfold World.iterPos
                      rw [(set_iter _ (Nat.succ_ne_self _) HI1.out).out]
                    rw [h5, HIP.out]
                    omega
                | some x0 =>
                  have h1 : pos = 2 * d.length + 1 := HP.out
                  obtain ⟨hh0, hf0⟩ := HX.out x0 rfl
                  have hx0 := fig_lt hf0
                  obtain ⟨z, hz⟩ : ∃ z : UInt8, z = UInt8.ofNat (16 * x0 + x) := ⟨_, rfl⟩
                  have hzn : z.toNat = 16 * x0 + x := by rw [hz, UInt8.toNat_ofNat']; omega
                  have hx0n : (UInt8.ofNat x0).toNat = x0 := by rw [UInt8.toNat_ofNat']; omega
                  have c0 : (wr.iterAt (w.heap.size + 1) ⟨s.toArray⟩ (pos + 1)).cell? ⟨w.heap.size, d.length, none⟩ = some (.int .u8 (x0 : Int)) := by
                    rw [HB1.out.cell, List.getElem?_toArray, List.getElem?_map, row_at_some]
                    show some (bv (UInt8.ofNat x0)) = _
                    unfold bv
                    rw [hx0n]
                  have f0 := HB1.out.frozen d.length
                  have HP2 : Hid (pos + 1 = 2 * (d ++ [z]).length + oneH none) := by rw [Hid, h1, List.length_append, List.length_singleton]; show _ = _ + 0; omega
                  have HX2 : Hid (∀ y, none = some y → ∃ hh, figN (s[2 * (d ++ [z]).length]'hh) = some y) := fun y hy => by cases hy
                  have HE2 : Hid (unhex s = (unhex (s.drop (2 * (d ++ [z]).length))).map ((d ++ [z]) ++ ·)) := by
                    subst h1
                    have h6 := unhex_step (k := 2 * d.length) (x := x0) (y := x) (by omega) HE.out hf0 hf
                    rw [← hz] at h6
                    rw [Hid, List.length_append, List.length_singleton, show 2 * (d.length + 1) = 2 * d.length + 2 by omega]
                    exact h6
                  have HS : Hid (∀ V, Blk V w.heap.size 5 ((rowB d (some x0) m).map bv).toArray → Blk (V.setCell ⟨w.heap.size, d.length, none⟩ (.int .u8 (z.toNat : Int))) w.heap.size 5 ((rowB (d ++ [z]) none m).map bv).toArray) := fun V hb => by
                    have h2 := hb.set_ d.length (bv z)
                    rw [List.setIfInBounds_toArray, ← List.map_set, row_set_some hdl] at h2
                    exact h2
                  have hsh : IntKind.u8.wrap ((x0 : Int) * 16) = ((16 * x0 : Nat) : Int) := by rw [show (x0 : Int) * 16 = ((16 * x0 : Nat) : Int) by omega]; exact IntWalk.u8_in _ (by omega)
                  have hsh2 : IntKind.u8.wrap (16 * (x0 : Int)) = ((16 * x0 : Nat) : Int) := by rw [show 16 * (x0 : Int) = ((16 * x0 : Nat) : Int) by omega]; exact IntWalk.u8_in _ (by omega)
                  have hbz : bits .or .u8 ((16 * x0 : Nat) : Int) (x : Int) = (z.toNat : Int) := by
                    rw [u8_or_nat _ _ (by omega) (by omega), or_four hx0 hx16, hzn]
                  clear h1 hf hf0 hz hzn
                  generalize ((16 * x0 : Nat) : Int) = y0 at *
                  go_wp2_with fail
                  refine (hIR _).mono ?_
                  rintro e w1 ⟨rfl, rfl⟩
                  go_wp2_with fail
                  refine ⟨⟨d ++ [z], none, pos + 1, HP2, hps1, HE2, HX2, Lib.hid (HS.out _ HB1.out), ?_, Lib.hid (KI.out.setCell (.inr (Nat.le_refl _)) _)⟩, ?_⟩
                  · exact set_iter _ (Nat.succ_ne_self _) HI1.out
                  · have h5 : World.iterPos ((wr.iterAt (w.heap.size + 1) ⟨s.toArray⟩ (pos + 1)).setCell ⟨w.heap.size, d.length, none⟩ (.int .u8 (z.toNat : Int))) (w.heap.size + 1) = pos + 1 := by
                      unfold World.iterPos
                      rw [(set_iter _ (Nat.succ_ne_self _) HI1.out).out]
                    rw [h5, HIP.out]
                    omega
            · have ha2 : 128 ≤ s[pos].toNat := by omega
              have hn := Lib.hid (HNo1.out (fig_high ha2))
              have hnx := fun ty => run_next_any_at (P := Tryd.prog) wr (w.heap.size + 1) ⟨s.toArray⟩ pos ty HI.out hlts
              obtain ⟨hu1, _⟩ := decode_high ⟨s.toArray⟩ pos hlts ha2
              have hu2 := decode_le ⟨s.toArray⟩ pos
              generalize Utf8.decode ⟨s.toArray⟩ pos = du at *
              obtain ⟨d1, d2⟩ := du
              have KI := Lib.hid (iter_kept (k := w.heap.size + 1) (s := ⟨s.toArray⟩) (p := pos + d2) HK.out (by omega))
              dsimp only at hu1 hu2 hnx
              have hIH := lib_IndexRune_high (d1 : Int) (by omega) (by omega)
              unfold figsL at hIH
              clear ha ha2
              go_wp2_with fail
              refine (hIH _).mono ?_
              rintro e w1 ⟨rfl, k1⟩
              have K1 := Lib.hid (KI.out.trans k1)
              clear k1
              go_wp2_with fail
              exact HNo.out _ hn.out K1.out
          · have hnx := fun ty => run_next_end_at (P := Tryd.prog) wr (w.heap.size + 1) ⟨s.toArray⟩ pos ty HI.out hlt
            obtain rfl : pos = s.length := by omega
            have hh : h = none := by
              have h1 := HP.out
              have h2 := HM.out
              cases h with
              | none => rfl
              | some x =>
                have h1 : s.length = 2 * d.length + 1 := h1
                omega
            subst hh
            have hdm : d.length = m := by
              have h1 : s.length = 2 * d.length := HP.out
              have h2 := HM.out
              omega
            have HD : Hid (bytL s = some d) := by
              have h1 : s.length = 2 * d.length := HP.out
              rw [Hid, HB.out, HE.out, ← h1, List.drop_length]
              simp [unhex]
            have hb2 := HBk.out
            rw [row_all hdm] at hb2
            have hcv := conv_blk hb2
            rw [hdm] at hcv
            clear hb2
            go_wp2_with fail
            exact HYes.out _ d HD.out HK.out
      · have hm0 : ¬ r = 0 := by omega
        have hn : Hid (bytL s = none) := by rw [Hid, HB.out, unhex_odd hodd]
        have hmb : (r == 0) = false := by simpa using hm0
        clear hr2
        generalize BytPost s w = Q at *
        go_enter Tryd.func29, Tryd.ntmps29
        go_wp2_with fail
        exact HNo.out _ hn.out (Kept.refl _ _)
end Go.Proofs.YtjdambplggiphaaDoor
