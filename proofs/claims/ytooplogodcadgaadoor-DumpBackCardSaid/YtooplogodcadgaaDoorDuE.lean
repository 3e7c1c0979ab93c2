/- Dumps: the program's in: is each number from 0 to 2^32 - 1? -/
import Derived.Test.YtooplogodcadgaaDoorDuD
namespace Go.Proofs.YtooplogodcadgaaDoor
open Go.RowKit Go.Lib

def allI (l : List Int) : Bool := l.all in32
theorem in_closure (n : Int) (w : World) : Calls Tryd.prog 28 #[.int .i64 n] w fun e w' => e = .returned (.bool (!in32 n)) ∧ w = w' := by
  by_cases h1 : n < 0
  · have e : in32 n = false := by unfold in32; simp; omega
    rw [e]
    go_enter Tryd.func28, Tryd.ntmps28
    go_wp2_with fail
    go_ret
    exact ⟨rfl, rfl⟩
  · by_cases h2 : (4294967295 : Int) < n
    · have e : in32 n = false := by unfold in32; simp; omega
      rw [e]
      go_enter Tryd.func28, Tryd.ntmps28
      go_wp2_with fail
      go_ret
      exact ⟨rfl, rfl⟩
    · have e : in32 n = true := by unfold in32; simp; omega
      rw [e]
      go_enter Tryd.func28, Tryd.ntmps28
      go_wp2_with fail
      go_ret
      exact ⟨rfl, rfl⟩
set_option maxHeartbeats 1000000 in
theorem in_IndexFunc (w : World) (b c : Nat) (zs : List Int) (h : IAt w b zs) (hn : zs.length ≤ 1000000) :
    Calls Tryd.prog 39 #[.slice (some ⟨b, 0, none⟩) zs.length c, .func (.func 28) #[] #[]] w fun e w' => (∃ r : Int, e = .returned (.int .i64 r) ∧ (0 ≤ r ↔ allI zs = false)) ∧ w = w' := by
  have HS := Lib.hid h
  clear h
  go_enter Tryd.func39, Tryd.ntmps39
  go_wp2_with fail
  go_loop [8, 5] (fun i _ => ∃ k : Nat, k ≤ zs.length ∧ i = .int .i64 k ∧ Hid ((zs.take k).all in32 = true)) (fun i _ => zs.length - (RowKit.intOf i).toNat)
  case atStart => exact ⟨0, Nat.zero_le _, rfl, rfl⟩
  case round =>
    obtain ⟨k, hk, rfl, HJ⟩ := hrel
    by_cases hlt : k < zs.length
    · have hc := HS.out k hlt
      have HB : Hid (in32 zs[k] = false → allI zs = false) := fun h => by
        unfold allI
        rw [Bool.eq_false_iff]
        intro h2
        rw [List.all_eq_true.1 h2 _ (List.getElem_mem hlt)] at h
        cases h
      have HT : Hid (in32 zs[k] = true → (zs.take (k + 1)).all in32 = true) := fun h => by
        rw [List.take_succ_eq_append_getElem hlt, List.all_append, HJ.out]
        simp [h]
      generalize zs[k] = z at *
      go_wp2_with fail
      refine (in_closure z w).mono ?_
      rintro e w' ⟨rfl, rfl⟩
      cases hs : in32 z
      · go_wp2_with fail
        go_ret
        exact ⟨⟨_, rfl, by rw [HB.out hs]; simp⟩, rfl⟩
      · have HT2 := Lib.hid (HT.out hs)
        clear hs HT
        go_wp2_with fail
        go_round
        case rel => exact ⟨k + 1, by omega, by go_num, HT2.out⟩
        case measure => simp [RowKit.intOf]; omega
    · obtain rfl : k = zs.length := by omega
      go_wp2_with fail
      go_ret
      refine ⟨⟨_, rfl, ?_⟩, rfl⟩
      have h1 := HJ.out
      rw [List.take_length] at h1
      have h2 : allI zs = true := h1
      rw [h2]
      simp
theorem in_Contains (w : World) (b c : Nat) (zs : List Int) (h : IAt w b zs) (hn : zs.length ≤ 1000000) :
    Calls Tryd.prog 27 #[.slice (some ⟨b, 0, none⟩) zs.length c, .func (.func 28) #[] #[]] w fun e w' => e = .returned (.bool (!allI zs)) ∧ w = w' := by
  go_enter Tryd.func27, Tryd.ntmps27
  go_wp2_with fail
  refine (in_IndexFunc w b c zs h hn).mono ?_
  rintro e w' ⟨⟨r, rfl, hr⟩, rfl⟩
  have hr := Lib.hid hr
  go_wp2_with fail
  go_ret
  refine ⟨?_, rfl⟩
  congr 2
theorem dump_in (w : World) (b c : Nat) (zs : List Int) (h : IAt w b zs) (hn : zs.length ≤ 1000000) :
    Calls Tryd.prog 16 #[.slice (some ⟨b, 0, none⟩) zs.length c] w (InPost zs w) := by
  have HC := Lib.hid (in_Contains w b c zs h hn)
  have HF : Hid (∀ v, v = allI zs → InPost zs w (.returned (.bool v)) w) := fun v h => by subst h; exact ⟨rfl, rfl⟩
  generalize InPost zs w = Q at *
  generalize allI zs = v at *
  go_enter Tryd.func16, Tryd.ntmps16
  go_wp2_with fail
  refine HC.out.mono ?_
  rintro e w' ⟨rfl, rfl⟩
  cases v
  all_goals
    go_wp2_with fail
    exact HF.out _ rfl
end Go.Proofs.YtooplogodcadgaaDoor
