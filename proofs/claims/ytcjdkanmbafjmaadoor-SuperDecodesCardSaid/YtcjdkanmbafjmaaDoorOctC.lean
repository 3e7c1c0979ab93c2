/- The program's octet: a reading of numbers that may stop. -/
import Derived.Test.YtcjdkanmbafjmaaDoorOctB
import Derived.Defers
import Derived.Recover
namespace Go.Proofs.YtcjdkanmbafjmaaDoor
open Go.RowKit

theorem get_closure (n : Int) (w : World) : Calls Tryd.prog 37 #[.int .i64 n] w fun e w' => e = .returned (.bool (!sizeB n)) ∧ w = w' := by
  go_enter Tryd.func37, Tryd.ntmps37
  go_wp2_with fail
  refine (oct_right n w).mono ?_
  rintro e w' ⟨rfl, rfl⟩
  go_wp2_with fail
  go_ret
  exact ⟨rfl, rfl⟩

/-- is one of the sizes none? -/
def badB (zs : List Int) : Bool := zs.any fun z => !sizeB z
def iv (n : Int) : Value := .int .i64 n
set_option maxHeartbeats 1000000 in
theorem oct_IndexFunc (w : World) (A : Option Addr) (c : Nat) (zs : List Int) (h : Rd w w.heap.size 1 A zs.length (zs.map iv)) (hn : zs.length ≤ 1000000) :
    Calls Tryd.prog 43 #[.slice A zs.length c, .func (.func 37) #[] #[]] w fun e w' => (∃ r : Int, e = .returned (.int .i64 r) ∧ (0 ≤ r ↔ badB zs = true)) ∧ w = w' := by
  have HS : Hid (∀ k, (hk : k < zs.length) → ∃ b o, A = some ⟨b, o, none⟩ ∧ w.cell? ⟨b, o + k, none⟩ = some (.int .i64 zs[k])) := fun k hk => by
    obtain ⟨b, o, e, hb, hc⟩ := h.2 (by omega)
    exact ⟨b, o, e, hc k (iv zs[k]) (by simp [hk])⟩
  clear h
  go_enter Tryd.func43, Tryd.ntmps43
  go_wp2_with fail
  go_loop [8, 5] (fun i _ => ∃ k : Nat, k ≤ zs.length ∧ i = .int .i64 k ∧ Hid (∀ j, (hj : j < zs.length) → j < k → sizeB zs[j] = true)) (fun i _ => zs.length - (intOf i).toNat)
  case atStart => exact ⟨0, Nat.zero_le _, rfl, fun j _ hj => absurd hj (Nat.not_lt_zero _)⟩
  case round =>
    obtain ⟨k, hk, rfl, HJ⟩ := hrel
    by_cases hlt : k < zs.length
    · obtain ⟨b, o, rfl, hc⟩ := HS.out k hlt
      have HB : Hid (sizeB zs[k] = false → badB zs = true) := fun hs => by
        rw [badB, List.any_eq_true]
        exact ⟨zs[k], List.getElem_mem hlt, by rw [hs]; rfl⟩
      have HT : Hid (sizeB zs[k] = true → ∀ j, (hj : j < zs.length) → j < k + 1 → sizeB zs[j] = true) := fun hs j hj hjk => by
        rcases Nat.lt_or_ge j k with h1 | h1
        · exact HJ.out j hj h1
        · obtain rfl : j = k := by omega
          exact hs
      generalize zs[k] = z at *
      go_wp2_with fail
      refine (get_closure z w).mono ?_
      rintro e w' ⟨rfl, rfl⟩
      cases hs : sizeB z
      · go_wp2_with fail
        go_ret
        exact ⟨⟨_, rfl, by rw [HB.out hs]; simp⟩, rfl⟩
      · have HT2 := Lib.hid (HT.out hs)
        clear hs HT
        go_wp2_with fail
        go_round
        case rel => exact ⟨k + 1, by omega, by go_num, HT2.out⟩
        case measure => simp [intOf]; omega
    · obtain rfl : k = zs.length := by omega
      go_wp2_with fail
      go_ret
      refine ⟨⟨_, rfl, ?_⟩, rfl⟩
      have : badB zs = false := by
        rw [badB, List.any_eq_false]
        intro z hz
        obtain ⟨j, hj, rfl⟩ := List.getElem_of_mem hz
        rw [HJ.out j hj hj]; simp
      rw [this]; simp
theorem oct_Contains (w : World) (A : Option Addr) (c : Nat) (zs : List Int) (h : Rd w w.heap.size 1 A zs.length (zs.map iv)) (hn : zs.length ≤ 1000000) :
    Calls Tryd.prog 26 #[.slice A zs.length c, .func (.func 37) #[] #[]] w fun e w' => e = .returned (.bool (badB zs)) ∧ w = w' := by
  go_enter Tryd.func26, Tryd.ntmps26
  go_wp2_with fail
  refine (oct_IndexFunc w A c zs h hn).mono ?_
  rintro e w' ⟨⟨r, rfl, hr⟩, rfl⟩
  have hr := Lib.hid hr
  go_wp2_with fail
  go_ret
  refine ⟨?_, rfl⟩
  congr 2

theorem run_stop (w : World) : (Instr.typeAssert (.iface 104 (.agg #[.int .i64 21])) 20 104 true).run Tryd.prog w = .ok (.tuple #[.agg #[.int .i64 21], .bool true]) w := by
  simp [Instr.typeAssert, go_sem]
set_option maxHeartbeats 1000000 in
/-- the deferred call: of a frame that panics with a stop; of a frame that returns -/
theorem rec_cut (p : Addr) (x : Int) (older : List PanicEntry) (w : World) (hc : w.cell? p = some (.int .i64 x)) (hz : w.frozen? p = false) :
    CallsD Tryd.prog 51 #[.pointer (some p)] (.panicking (cutV :: older)) w fun e u' w' =>
      e = .returned (.tuple #[]) ∧ u' = .panicking ({ cutV with recovered := true } :: older) ∧ w' = (w.alloc (.cells #[.int .i64 21] 104)).setCell p (.int .i64 21) := by
  have hta := run_stop
  have hc2 : (w.alloc (.cells #[.int .i64 21] 104)).cell? p = some (.int .i64 x) := ((Kept.refl [] w).alloc _).cell hc (fun h => by cases h)
  have hz2 : (w.alloc (.cells #[.int .i64 21] 104)).frozen? p = false := (((Kept.refl [] w).alloc _).frozen (block_lt_of_cell hc) (fun h => by cases h)).trans hz
  refine callsD_of_wpS Tryd.func51 rfl fun c₀ cs hu => ?_
  apply wpS_seq
  apply wpS_region
  simp [wpOpsS, go_sem, recoverD, hu, cutV, Tryd.ntmps51, Exit.thenS]
  refine wpS_of_wp ?_
  go_wp2_with fail
  cases c₀
  simp_all [bodyPostS, results, Tryd.results51]
theorem rec_idle (p : Addr) (w : World) :
    CallsD Tryd.prog 51 #[.pointer (some p)] .returning w fun e u' w' => e = .returned (.tuple #[]) ∧ u' = .returning ∧ w' = w := by
  refine callsD_of_wpS Tryd.func51 rfl fun c₀ cs hu => ?_
  apply wpS_seq
  apply wpS_region
  simp [wpOpsS, go_sem, recoverD, hu, Tryd.ntmps51, Exit.thenS]
  refine wpS_of_wp ?_
  go_wp2_with fail
  cases c₀
  simp_all [bodyPostS, results, Tryd.results51]
end Go.Proofs.YtcjdkanmbafjmaaDoor
