/- Dumps: what the laws ask: lines, texts, fits, same entries. -/
import Derived.Test.YtooplogodcadgaaDoorDuS
import Derived.Deep.QuietTactic
namespace Go.Proofs.YtooplogodcadgaaDoor
open Go.RowKit Go.Lib

set_option maxHeartbeats 2000000 in
theorem law_lines (A B : Option Addr) (c d : Nat) (l : List Bs) (w : World) (hA : TRd w A l) (hB : TRd w B l) (hn : l.length ≤ 4000000) : Calls Tryd.prog 11 #[.slice A l.length c, .slice B l.length d] w fun e w' => e = .returned (.bool true) ∧ Kept [] w w' := by
  have HA := Lib.hid hA
  have HB := Lib.hid hB
  clear hA hB
  go_enter Tryd.func11, Tryd.ntmps11
  go_wp2_with fail
  go_loopw [5] (fun i V => ∃ k : Nat, k ≤ l.length ∧ i = .int .i64 k ∧ Hid (Kept [] w V)) (fun i _ => l.length - (RowKit.intOf i).toNat)
  case atStart => exact ⟨0, Nat.zero_le _, rfl, Kept.refl _ _⟩
  case round =>
    obtain ⟨k, hk, rfl, HK⟩ := hrel
    by_cases hlt : k < l.length
    · obtain ⟨b, o, rfl, d1⟩ := HA.out.at_ hlt
      obtain ⟨b', o', rfl, d2⟩ := HB.out.at_ hlt
      have c1 := HK.out.cell d1 (fun h => by cases h)
      have c2 := HK.out.cell d2 (fun h => by cases h)
      have hi : (k : Int) < (l.length : Int) := by omega
      have hwk : IntKind.i64.wrap ((k : Int) + 1) = (k : Int) + 1 := IntWalk.i64_in _ (by omega)
      clear d1 d2
      generalize l[k] = x at *
      go_wp2_with fail
      go_region
      go_wp2_with fail
      go_roundw
      case rel => exact ⟨k + 1, by omega, by go_num, HK.out.drew⟩
      case measure => simp [RowKit.intOf]; omega
    · obtain rfl : k = l.length := by omega
      go_wp2_with fail
      go_ret
      exact ⟨rfl, HK.out⟩
set_option maxHeartbeats 2000000 in
theorem same_ents (A B : Option Addr) (c d : Nat) (es : List En) (w : World) (hA : ERd w (.slice A es.length c) es) (hB : ERd w (.slice B es.length d) es) (hn : es.length ≤ 1000000) : Calls Tryd.prog 26 #[.slice A es.length c, .slice B es.length d] w fun e w' => e = .returned (.bool true) ∧ Kept [] w w' := by
  have HA := Lib.hid hA
  have HB := Lib.hid hB
  clear hA hB
  go_enter Tryd.func26, Tryd.ntmps26
  go_wp2_with fail
  go_loopw [5] (fun i V => ∃ k : Nat, k ≤ es.length ∧ i = .int .i64 k ∧ Hid (Kept [] w V)) (fun i _ => es.length - (RowKit.intOf i).toNat)
  case atStart => exact ⟨0, Nat.zero_le _, rfl, Kept.refl _ _⟩
  case round =>
    obtain ⟨k, hk, rfl, HK⟩ := hrel
    by_cases hlt : k < es.length
    · obtain ⟨b, o, rfl, d0, d1⟩ := HA.out.at_ hlt
      obtain ⟨b', o', rfl, d2, d3⟩ := HB.out.at_ hlt
      have c0 := HK.out.cell d0 (fun h => by cases h)
      have c1 := HK.out.cell d1 (fun h => by cases h)
      have c2 := HK.out.cell d2 (fun h => by cases h)
      have c3 := HK.out.cell d3 (fun h => by cases h)
      have hi : (k : Int) < (es.length : Int) := by omega
      have hwk : IntKind.i64.wrap ((k : Int) + 1) = (k : Int) + 1 := IntWalk.i64_in _ (by omega)
      clear d0 d1 d2 d3
      generalize es[k] = en at *
      obtain ⟨xo, xi⟩ := en
      dsimp only at c0 c1 c2 c3
      go_wp2_with fail
      go_region
      go_wp2_with fail
      go_roundw
      case rel => exact ⟨k + 1, by omega, by go_num, HK.out.drew⟩
      case measure => simp [RowKit.intOf]; omega
    · obtain rfl : k = es.length := by omega
      go_wp2_with fail
      go_ret
      exact ⟨rfl, HK.out⟩
def TextsPost (l : List Bs) (w : World) (e : Ending) (w' : World) : Prop := ∃ v, e = .returned (.bool v) ∧ (v = true → l.length ≤ 60 ∧ ∀ x ∈ l, x.length ≤ 200) ∧ w = w'
def FitsPost (ps : List Pr) (w : World) (e : Ending) (w' : World) : Prop := ∃ v, e = .returned (.bool v) ∧ (v = true → ps.length ≤ 60 ∧ ∀ p ∈ ps, p.1.ents.length ≤ 60) ∧ Kept [] w w'
set_option maxHeartbeats 2000000 in
theorem law_texts (A : Option Addr) (c : Nat) (l : List Bs) (w : World) (hA : TRd w A l) (hn : l.length ≤ maxLen) (hs : ∀ x ∈ l, x.length ≤ maxLen) : Calls Tryd.prog 12 #[.slice A l.length c] w (TextsPost l w) := by
  have HNo : Hid (TextsPost l w (.returned (.bool false)) w) := ⟨false, rfl, (fun h => by cases h), rfl⟩
  have HYes : Hid (l.length ≤ 60 → (∀ x ∈ l, x.length ≤ 200) → TextsPost l w (.returned (.bool true)) w) := fun h1 h2 => ⟨true, rfl, fun _ => ⟨h1, h2⟩, rfl⟩
  generalize TextsPost l w = Q at *
  have hn2 : l.length ≤ 9223372036854775807 := by
    unfold maxLen at hn
    omega
  have HA := Lib.hid hA
  have HS := Lib.hid hs
  clear hA hs
  go_enter Tryd.func12, Tryd.ntmps12
  go_wp2_with fail
  go_loopw [3] (fun i V => ∃ k : Nat, k ≤ l.length ∧ i = .int .i64 k ∧ Hid (∀ x ∈ l.take k, x.length ≤ 200) ∧ V = w) (fun i _ => l.length - (RowKit.intOf i).toNat)
  case atStart => exact ⟨0, Nat.zero_le _, rfl, (fun _ h => by cases h), rfl⟩
  case round =>
    obtain ⟨k, hk, rfl, HJ, rfl⟩ := hrel
    by_cases hlt : k < l.length
    · obtain ⟨b, o, rfl, c1⟩ := HA.out.at_ hlt
      have hi : (k : Int) < (l.length : Int) := by omega
      have hwk : IntKind.i64.wrap ((k : Int) + 1) = (k : Int) + 1 := IntWalk.i64_in _ (by omega)
      have HTk : Hid (l.take (k + 1) = l.take k ++ [l[k]]) := List.take_succ_eq_append_getElem hlt
      generalize l[k] = x at *
      by_cases hx : (200 : Int) < (x.length : Int)
      · go_wp2_with fail
        exact HNo.out
      · have HJ2 : Hid (∀ y ∈ l.take (k + 1), y.length ≤ 200) := fun y hy => by
          rw [HTk.out] at hy
          rcases List.mem_append.1 hy with hy | hy
          · exact HJ.out y hy
          · obtain rfl := List.mem_singleton.1 hy
            omega
        go_wp2_with fail
        go_roundw
        case rel => exact ⟨k + 1, by omega, by go_num, HJ2, trivial⟩
        case measure => simp [RowKit.intOf]; omega
    · obtain rfl : k = l.length := by omega
      have HJ2 : Hid (∀ y ∈ l, y.length ≤ 200) := by
        have := HJ.out
        rwa [List.take_length] at this
      by_cases h6 : (l.length : Int) ≤ 60
      · go_wp2_with fail
        exact HYes.out (by omega) HJ2.out
      · go_wp2_with fail
        exact HNo.out
set_option maxHeartbeats 2000000 in
theorem law_fits (a b c : Int) (A : Option Addr) (cA : Nat) (ps : List Pr) (w : World) (hA : LRd w A ps) (hn : ps.length ≤ maxLen) : Calls Tryd.prog 6 #[repV a b c (.slice A ps.length cA)] w (FitsPost ps w) := by
  have HNo : Hid (∀ w', Kept [] w w' → FitsPost ps w (.returned (.bool false)) w') := fun w' k => ⟨false, rfl, (fun h => by cases h), k⟩
  have HYes : Hid (∀ w', ps.length ≤ 60 → (∀ p ∈ ps, p.1.ents.length ≤ 60) → Kept [] w w' → FitsPost ps w (.returned (.bool true)) w') := fun w' h1 h2 k => ⟨true, rfl, fun _ => ⟨h1, h2⟩, k⟩
  generalize FitsPost ps w = Q at *
  have hn2 : ps.length ≤ 9223372036854775807 := by
    unfold maxLen at hn
    omega
  have HA := Lib.hid hA
  have HB := Lib.hid (Blk.new w 26 #[.int .i64 a, .int .i64 b, .int .i64 c, .slice A ps.length cA])
  have HK0 := Lib.hid ((Kept.refl [] w).alloc (.cells #[.int .i64 a, .int .i64 b, .int .i64 c, .slice A ps.length cA] 26))
  clear hA
  unfold repV
  go_enter Tryd.func6, Tryd.ntmps6
  go_wp2_with fail
  go_loopw [3] (fun i V => ∃ k : Nat, k ≤ ps.length ∧ i = .int .i64 k ∧ Hid (∀ p ∈ ps.take k, p.1.ents.length ≤ 60) ∧ V = w.alloc (.cells #[.int .i64 a, .int .i64 b, .int .i64 c, .slice A ps.length cA] 26)) (fun i _ => ps.length - (RowKit.intOf i).toNat)
  case atStart => exact ⟨0, Nat.zero_le _, rfl, (fun _ h => by cases h), rfl⟩
  case round =>
    obtain ⟨k, hk, rfl, HJ, rfl⟩ := hrel
    have b3 := HB.out.cell 3
    simp only [List.getElem?_toArray, List.getElem?_cons_zero, List.getElem?_cons_succ] at b3
    by_cases hlt : k < ps.length
    · obtain ⟨b', o, rfl, _, _, _, _, _, _, _, d7⟩ := HA.out.at_ hlt
      obtain ⟨AE, cE, hEv, _⟩ := HA.out.2 _ (List.getElem_mem hlt)
      rw [hEv] at d7
      have c7 := HK0.out.cell d7 (fun h => by cases h)
      have hi : (k : Int) < (ps.length : Int) := by omega
      have hwk : IntKind.i64.wrap ((k : Int) + 1) = (k : Int) + 1 := IntWalk.i64_in _ (by omega)
      have HTk : Hid (ps.take (k + 1) = ps.take k ++ [ps[k]]) := List.take_succ_eq_append_getElem hlt
      clear d7 hEv
      generalize ps[k] = p at *
      obtain ⟨x, E⟩ := p
      dsimp only at c7
      by_cases hx : (60 : Int) < (x.ents.length : Int)
      · go_wp2_with fail
        exact HNo.out _ HK0.out
      · have HJ2 : Hid (∀ p ∈ ps.take (k + 1), p.1.ents.length ≤ 60) := fun y hy => by
          rw [HTk.out] at hy
          rcases List.mem_append.1 hy with hy | hy
          · exact HJ.out y hy
          · obtain rfl := List.mem_singleton.1 hy
            show x.ents.length ≤ 60
            omega
        go_wp2_with fail
        go_roundw
        case rel => exact ⟨k + 1, by omega, by go_num, HJ2, trivial⟩
        case measure => simp [RowKit.intOf]; omega
    · obtain rfl : k = ps.length := by omega
      have HJ2 : Hid (∀ p ∈ ps, p.1.ents.length ≤ 60) := by
        have := HJ.out
        rwa [List.take_length] at this
      by_cases h6 : (ps.length : Int) ≤ 60
      · go_wp2_with fail
        exact HYes.out _ (by omega) HJ2.out HK0.out
      · go_wp2_with fail
        exact HNo.out _ HK0.out
end Go.Proofs.YtooplogodcadgaaDoor
