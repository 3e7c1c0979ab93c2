/- The document's octet: the numbers of bytes; whether all are 0. -/
import Derived.Test.YthlmdhklohnoaaaDoorOctE
namespace Go.Proofs.YthlmdhklohnoaaaDoor
open Go.RowKit

set_option maxHeartbeats 1000000 in
theorem ref_Number (w : World) (l : List UInt8) (hl : l.length ≤ 8) :
    Calls Tryd.prog 23 #[.string ⟨l.toArray⟩] w fun e w' => e = .returned (.int .u64 (numN l : Int)) ∧ w = w' := by
  have hw : IntKind.i64.wrap ((l.length : Int) - 1) = (l.length : Int) - 1 := IntWalk.i64_in _ (by omega)
  go_enter Tryd.func23, Tryd.ntmps23
  go_wp2_with fail
  go_loop [3, 4] (fun nv i => ∃ k : Nat, k ≤ l.length ∧ i = .int .i64 ((k : Int) - 1) ∧ nv = .int .u64 (numN (l.drop k) : Int)) (fun _ i => (intOf i + 1).toNat)
  case atStart => exact ⟨l.length, Nat.le_refl _, rfl, by simp [numN]⟩
  case round =>
    obtain ⟨k, hk, hi, rfl⟩ := hrel
    rcases k with _ | j
    · obtain rfl := hi
      go_wp2_with fail
      go_ret
      exact ⟨rfl, rfl⟩
    · rw [show (((j + 1 : Nat) : Int) - 1) = (j : Int) by omega] at hi
      obtain rfl := hi
      have hj : j < l.length := by omega
      have hb : (⟨l.toArray⟩ : ByteArray)[j]'hj = l[j] := rfl
      have HD := Lib.hid (List.drop_eq_getElem_cons hj)
      have hn2 : numN (l.drop (j + 1)) < 72057594037927936 := by
        refine Nat.lt_of_lt_of_le (numN_lt _) ?_
        have : (l.drop (j + 1)).length ≤ 7 := by simp; omega
        exact Nat.le_trans (Nat.pow_le_pow_right (by omega) this) (by decide)
      have hb8 := UInt8.toNat_lt l[j]
      have HN : Hid (numN (l.drop j) = 256 * numN (l.drop (j + 1)) + l[j].toNat) := by rw [Hid, HD.out]; rfl
      generalize numN (l.drop (j + 1)) = n at *
      go_wp2_with fail
      go_round
      case rel =>
        refine ⟨j, by omega, by go_num, ?_⟩
        rw [HN.out]
        simp
      case measure => simp [intOf]

set_option maxHeartbeats 1000000 in
theorem ref_Same (w : World) (A B : Option Addr) (c d : Nat) (l : List Nat) (hA : Rd w w.heap.size 1 A l.length (l.map uv)) (hB : Rd w w.heap.size 1 B l.length (l.map uv)) (hn : l.length ≤ 1000000) :
    Calls Tryd.prog 10 #[.slice A l.length c, .slice B l.length d] w fun e w' => e = .returned (.bool true) ∧ Kept [] w w' := by
  have HS : Hid (∀ k, (hk : k < l.length) → ∃ b o b' o', A = some ⟨b, o, none⟩ ∧ B = some ⟨b', o', none⟩ ∧ w.cell? ⟨b, o + k, none⟩ = some (.int .u64 (l[k] : Int)) ∧ w.cell? ⟨b', o' + k, none⟩ = some (.int .u64 (l[k] : Int))) := fun k hk => by
    obtain ⟨b, o, e, hb, hc⟩ := hA.2 (by omega)
    obtain ⟨b', o', e', hb', hc'⟩ := hB.2 (by omega)
    exact ⟨b, o, b', o', e, e', hc k (uv l[k]) (by simp [hk]), hc' k (uv l[k]) (by simp [hk])⟩
  clear hA hB
  go_enter Tryd.func10, Tryd.ntmps10
  go_wp2_with fail
  go_loopw [5] (fun i W => ∃ k : Nat, k ≤ l.length ∧ i = .int .i64 k ∧ Hid (Kept [] w W)) (fun i _ => l.length - (intOf i).toNat)
  case atStart => exact ⟨0, Nat.zero_le _, rfl, Kept.refl _ _⟩
  case round =>
    obtain ⟨k, hk, rfl, HK⟩ := hrel
    by_cases hlt : k < l.length
    · obtain ⟨b, o, b', o', rfl, rfl, hc, hc'⟩ := HS.out k hlt
      have hc1 := HK.out.cell hc (fun h => by cases h)
      have hc2 := HK.out.cell hc' (fun h => by cases h)
      clear hc hc'
      generalize l[k] = x at *
      go_wp2_with fail
      go_quiet (fail)
      go_wp2_with fail
      go_roundw
      case rel => exact ⟨k + 1, by omega, by go_num, HK.out.drewN nq⟩
      case measure => simp [intOf]; omega
    · obtain rfl : k = l.length := by omega
      go_wp2_with fail
      go_ret
      exact ⟨rfl, HK.out⟩

theorem oct_Zero (s : List UInt8) (w : World) (hs : s.length ≤ 140737488351232) :
    Calls Tryd.prog 17 #[.string ⟨s.toArray⟩] w fun e w' => e = .returned (.bool (Lib.trimB s 0).isEmpty) ∧ Kept [] w w' := by
  go_enter Tryd.func17, Tryd.ntmps17
  go_wp2_with fail
  refine (Tryd.strings_Trim_one ⟨s.toArray⟩ 0 (by decide) w (by show s.length ≤ _; omega)).mono ?_
  rintro e w' ⟨rfl, hw⟩
  have hk : Kept [] w w' := by
    rcases hw with rfl | rfl
    · exact Kept.refl _ _
    · exact (Kept.refl _ _).drew
  clear hw
  rw [show (⟨s.toArray⟩ : ByteArray).data.toList = s from rfl]
  go_wp2_with fail
  go_ret
  exact ⟨rfl, hk⟩
end Go.Proofs.YthlmdhklohnoaaaDoor
