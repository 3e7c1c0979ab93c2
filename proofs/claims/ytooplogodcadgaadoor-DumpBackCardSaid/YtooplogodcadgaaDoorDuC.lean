/- Dumps: the document's in, forms, line. -/
import Derived.Test.YtooplogodcadgaaDoorCmD
import Derived.Test.YtooplogodcadgaaDoorDuB
namespace Go.Proofs.YtooplogodcadgaaDoor
open Go.RowKit Go.Lib

/-- a row of numbers -/
def IAt (w : World) (b : Nat) (l : List Int) : Prop := ∀ k (hk : k < l.length), w.cell? ⟨b, k, none⟩ = some (.int .i64 l[k])
theorem IAt.kept {w w' : World} {b : Nat} {l : List Int} (h : IAt w b l) (k : Kept [] w w') : IAt w' b l := fun j hj => k.cell (h j hj) (fun h => by cases h)
theorem IAt.new (w : World) (l : List Int) : IAt (w.alloc (.cells (l.map fun z => Value.int .i64 z).toArray 3)) w.heap.size l := fun j hj => by
  rw [(Blk.new w 3 _).cell]
  simp [hj]
def InPost (l : List Int) (w : World) (e : Ending) (w' : World) : Prop := e = .returned (.bool (l.all in32)) ∧ w = w'
set_option maxRecDepth 4000 in
set_option maxHeartbeats 2000000 in
theorem ref_in (b c : Nat) (l : List Int) (w : World) (h : IAt w b l) (hn : l.length ≤ 1000) : Calls Tryd.prog 19 #[.slice (some ⟨b, 0, none⟩) l.length c] w (InPost l w) := by
  have HNo : Hid (l.all in32 = false → InPost l w (.returned (.bool false)) w) := fun h => ⟨by rw [h], rfl⟩
  have HYes : Hid (l.all in32 = true → InPost l w (.returned (.bool true)) w) := fun h => ⟨by rw [h], rfl⟩
  have H := Lib.hid h
  clear h
  generalize InPost l w = Q at *
  go_enter Tryd.func19, Tryd.ntmps19
  go_wp2_with fail
  go_loopw [3] (fun i V => ∃ (k : Nat), k ≤ l.length ∧ i = .int .i64 k ∧ Hid ((l.take k).all in32 = true) ∧ V = w) (fun i _ => l.length - (RowKit.intOf i).toNat)
  case atStart => exact ⟨0, Nat.zero_le _, rfl, rfl, rfl⟩
  case round =>
    obtain ⟨k, hk, rfl, HE, rfl⟩ := hrel
    by_cases hlt : k < l.length
    · have hc := H.out k hlt
      have hki : (k : Int) < (l.length : Int) := by omega
      have HA : Hid (in32 l[k] = false → l.all in32 = false) := fun h => by
        rw [Bool.eq_false_iff]
        intro h2
        rw [List.all_eq_true.1 h2 _ (List.getElem_mem hlt)] at h
        cases h
      have HB : Hid (in32 l[k] = true → (l.take (k + 1)).all in32 = true) := fun h => by
        rw [List.take_succ_eq_append_getElem hlt, List.all_append, HE.out]
        simp [h]
      generalize l[k] = x at *
      by_cases h1 : x < 0
      · have hn := Lib.hid (HA.out (by unfold in32; simp; omega))
        go_wp2_with fail
        exact HNo.out hn.out
      · by_cases h2 : (4294967295 : Int) < x
        · have hn := Lib.hid (HA.out (by unfold in32; simp; omega))
          go_wp2_with fail
          exact HNo.out hn.out
        · have hn := Lib.hid (HB.out (by unfold in32; simp; omega))
          go_wp2_with fail
          go_roundw
          case rel => exact ⟨k + 1, by omega, by go_num, hn, trivial⟩
          case measure => simp [RowKit.intOf]; omega
    · obtain rfl : k = l.length := by omega
      have hv : Hid (l.all in32 = true) := by
        have := HE.out
        rwa [List.take_length] at this
      go_wp2_with fail
      exact HYes.out hv.out
theorem ref_forms (mg inv : Bool) (w : World) : Calls Tryd.prog 21 #[.bool mg, .bool inv] w fun e w' => e = .returned (.string ⟨(tS mg inv).toArray⟩) ∧ w = w' := by
  cases mg <;> cases inv
  all_goals
    go_enter Tryd.func21, Tryd.ntmps21
    go_wp2_with fail
    go_ret
    exact ⟨rfl, rfl⟩
def LinePost (f : Bs) (l : List Int) (w : World) (e : Ending) (w' : World) : Prop := e = .returned (.string ⟨(hashL f l).toArray⟩) ∧ Kept [] w w'
set_option maxRecDepth 4000 in
set_option maxHeartbeats 2000000 in
theorem ref_line (f : Bs) (b c : Nat) (l : List Int) (w : World) (h : IAt w b l) (hf : f.length ≤ 1000) (hc : f.count 35 = l.length) (hr : ∀ x ∈ l, in32 x = true) : Calls Tryd.prog 20 #[.string ⟨f.toArray⟩, .slice (some ⟨b, 0, none⟩) l.length c] w (LinePost f l w) := by
  have HF : Hid (∀ w', Kept [] w w' → LinePost f l w (.returned (.string ⟨(hashL f l).toArray⟩)) w') := fun w' k => ⟨rfl, k⟩
  generalize LinePost f l w = Q at *
  have H := Lib.hid h
  have HR := Lib.hid hr
  have HC := Lib.hid hc
  have hln : l.length ≤ 1000 := by
    have := List.count_le_length (a := (35 : UInt8)) (l := f)
    omega
  have HFig := Lib.hid (fun (n : Nat) (hn : n ≤ 4294967295) (V : World) => ref_Figures n (by omega) V)
  unfold FigPost at HFig
  clear h hr hc
  go_enter Tryd.func20, Tryd.ntmps20
  go_wp2_with fail
  go_loopw [5, 6, 7] (fun s q i V => ∃ (k j : Nat) (p : Bs), k ≤ f.length ∧ j ≤ l.length ∧ i = .int .i64 k ∧ q = .int .i64 j ∧ s = .string ⟨p.toArray⟩ ∧ p.length ≤ 20 * k ∧ Hid (hashL f l = p ++ hashL (f.drop k) (l.drop j)) ∧ Hid ((f.drop k).count 35 = (l.drop j).length) ∧ Hid (Kept [] w V)) (fun _ _ i _ => f.length - (RowKit.intOf i).toNat)
  case atStart => exact ⟨0, 0, [], Nat.zero_le _, Nat.zero_le _, rfl, rfl, rfl, Nat.zero_le _, rfl, HC.out, Kept.refl _ _⟩
  case round =>
    obtain ⟨k, j, p, hk, hj, rfl, rfl, rfl, hp, HE, HN, HK⟩ := hrel
    by_cases hlt : k < f.length
    · have hki : (k : Int) < (f.length : Int) := by omega
      have hb : (⟨f.toArray⟩ : ByteArray)[k]'hlt = f[k] := rfl
      have hdk := List.drop_eq_getElem_cons hlt
      have hwk : IntKind.i64.wrap ((k : Int) + 1) = (k : Int) + 1 := IntWalk.i64_in _ (by omega)
      by_cases h35 : f[k] = 35
      · have hbn : (⟨f.toArray⟩ : ByteArray)[k]'hlt = 35 := h35
        have hjl : j < l.length := by
          have h1 := HN.out
          rw [hdk, h35, List.count_cons_self, List.length_drop] at h1
          omega
        have hji : (j : Int) < (l.length : Int) := by omega
        have hcell := (H.out.kept HK.out) j hjl
        have hdj := List.drop_eq_getElem_cons hjl
        have hx := HR.out _ (List.getElem_mem hjl)
        obtain ⟨hx0, hx1⟩ := in32_iff.1 hx
        have HE2 : Hid (hashL f l = (p ++ itoa l[j]) ++ hashL (f.drop (k + 1)) (l.drop (j + 1))) := by
          rw [Hid, HE.out, hdk, hdj, h35, hashL, if_pos rfl, List.headD_cons, List.tail_cons, List.append_assoc]
        have HN2 : Hid ((f.drop (k + 1)).count 35 = (l.drop (j + 1)).length) := by
          have h1 := HN.out
          rw [hdk, hdj, h35, List.count_cons_self, List.length_cons] at h1
          exact Nat.succ.inj h1
        clear hx hdk hdj hb h35
        generalize l[j] = x at *
        obtain ⟨m, rfl⟩ : ∃ m : Nat, x = (m : Int) := ⟨x.toNat, by omega⟩
        have hit : itoa (m : Int) = decDigits m := itoa_nat m
        rw [hit] at HE2
        clear hit hx0
        have hdl := dec_len 18 m (by omega)
        have hla := list_append p (decDigits m)
        have hcat : p.length + (decDigits m).length ≤ 9223372036854775807 := by omega
        have hwj : IntKind.i64.wrap ((j : Int) + 1) = (j : Int) + 1 := IntWalk.i64_in _ (by omega)
        go_wp2_with fail
        refine (HFig.out m (by omega) _).mono ?_
        rintro e w1 ⟨rfl, k1⟩
        have K1 := Lib.hid (HK.out.trans k1)
        clear k1 hcell
        go_wp2_with fail
        go_roundw
        case rel => exact ⟨k + 1, j + 1, p ++ decDigits m, by omega, by omega, by go_num, by go_num, rfl, by rw [List.length_append]; omega, HE2, HN2, K1⟩
        case measure => simp [RowKit.intOf]; omega
      · have hcb : (((f[k].toNat : Nat) : Int) == 35) = false := by
          rw [beq_eq_false_iff_ne]
          intro h
          exact h35 (UInt8.toNat_inj.1 (by
            have e : (35 : UInt8).toNat = 35 := rfl
            omega))
        have hex : (⟨f.toArray⟩ : ByteArray).extract k (k + 1) = ⟨[f[k]].toArray⟩ := by
          rw [extract_list2, List.drop_eq_getElem_cons hlt, show k + 1 - k = 1 by omega]
          rfl
        have HE2 : Hid (hashL f l = (p ++ [f[k]]) ++ hashL (f.drop (k + 1)) (l.drop j)) := by
          rw [Hid, HE.out, hdk, hashL, if_neg h35]
          simp
        have HN2 : Hid ((f.drop (k + 1)).count 35 = (l.drop j).length) := by
          have h1 := HN.out
          rwa [hdk, List.count_cons_of_ne h35] at h1
        have hla := list_append p [f[k]]
        have hk1 : (k : Int) + 1 ≤ (f.length : Int) := by omega
        have hk0 : (0 : Int) ≤ (k : Int) := by omega
        have hk2 : (k : Int) ≤ (k : Int) + 1 := by omega
        have hk3 : (0 : Int) ≤ (k : Int) + 1 := by omega
        have hcat : p.length + 1 ≤ 9223372036854775807 := by omega
        clear hdk h35
        go_wp2_with fail
        go_roundw
        case rel => exact ⟨k + 1, j, p ++ [f[k]], by omega, by omega, by go_num, rfl, rfl, by rw [List.length_append, List.length_singleton]; omega, HE2, HN2, HK⟩
        case measure => simp [RowKit.intOf]; omega
    · obtain rfl : k = f.length := by omega
      have HV : Hid (hashL f l = p) := by
        have := HE.out
        rw [List.drop_length] at this
        rw [Hid, this]
        simp [hashL]
      go_wp2_with fail
      have h2 := HF.out wr HK.out
      rw [HV.out] at h2
      exact h2
end Go.Proofs.YtooplogodcadgaaDoor
