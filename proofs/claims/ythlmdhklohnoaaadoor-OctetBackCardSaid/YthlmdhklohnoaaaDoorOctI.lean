/- Bytes with 0 behind; whether all are 0; the law OctetPads: its walk. -/
import Derived.Test.YthlmdhklohnoaaaDoorOctH
namespace Go.Proofs.YthlmdhklohnoaaaDoor
open Go.RowKit

theorem app_arr2 (a b : List UInt8) : (⟨a.toArray⟩ : ByteArray) ++ ⟨b.toArray⟩ = ⟨(a ++ b).toArray⟩ := by
  apply ByteArray.ext
  simp [ByteArray.data_append]
def strLen : Value → Nat | .string s => s.size | _ => 0

set_option maxHeartbeats 1000000 in
theorem ref_Pad (s : List UInt8) (n : Int) (w : World) (_hs : s.length ≤ 140737488351232) :
    Calls Tryd.prog 16 #[.string ⟨s.toArray⟩, .int .i64 n] w fun e w' => e = .returned (.tuple #[.string ⟨(padL s n).1.toArray⟩, .int .i64 (padL s n).2]) ∧ w = w' := by
  by_cases h1 : n < s.length
  · have H : Hid (padL s n = ([], 2)) := by rw [Hid, padL, if_pos (.inl h1)]
    go_enter Tryd.func16, Tryd.ntmps16
    go_wp2_with fail
    go_ret2
    rw [H.out]
    exact ⟨rfl, rfl⟩
  · by_cases h2 : n > 1048576
    · have H : Hid (padL s n = ([], 2)) := by rw [Hid, padL, if_pos (.inr h2)]
      go_enter Tryd.func16, Tryd.ntmps16
      go_wp2_with fail
      go_ret2
      rw [H.out]
      exact ⟨rfl, rfl⟩
    · have H : Hid (padL s n = (s ++ List.replicate (n.toNat - s.length) 0, 0)) := by rw [Hid, padL, if_neg (by omega)]
      obtain ⟨m, rfl⟩ : ∃ m : Nat, n = m := ⟨n.toNat, by omega⟩
      have g1 : ((m : Int) < (s.length : Int)) = False := by simp; omega
      have g2 : ((1048576 : Int) < (m : Int)) = False := by simp; omega
      have H1 := Lib.hid h1
      have H2 := Lib.hid h2
      clear h1 h2
      go_enter Tryd.func16, Tryd.ntmps16
      go_wp2_with fail
      go_loop [0] (fun sv => ∃ k : Nat, s.length + k ≤ m ∧ sv = .string ⟨(s ++ List.replicate k 0).toArray⟩) (fun sv => m - strLen sv)
      case atStart => exact ⟨0, by have := H1.out; omega, by simp⟩
      case round =>
        obtain ⟨k, hk, rfl⟩ := hrel
        have hX : (s ++ List.replicate k 0).length = s.length + k := by simp
        have happ : (⟨(s ++ List.replicate k 0).toArray⟩ : ByteArray) ++ ⟨#[0]⟩ = ⟨((s ++ List.replicate k 0) ++ [0]).toArray⟩ := app_arr2 _ [0]
        have HS : Hid ((s ++ List.replicate k 0) ++ [0] = s ++ List.replicate (k + 1) (0 : UInt8)) := by rw [Hid, List.append_assoc, ← List.replicate_succ']
        have hm := H2.out
        generalize hXX : s ++ List.replicate k (0 : UInt8) = X at *
        have HXX := Lib.hid hXX
        clear hXX
        by_cases hlt : s.length + k < m
        · have g3 : ((X.length : Int) < (m : Int)) = True := by simp; omega
          have hXl : X.length ≤ 1048576 := by omega
          have HX := Lib.hid hX
          clear hX
          go_wp2_with fail
          go_round
          case rel => exact ⟨k + 1, by omega, by rw [HS.out]⟩
          case measure => have := HX.out; simp [strLen, ByteArray.size]; omega
        · obtain rfl : m = s.length + k := by omega
          have g3 : ((X.length : Int) < ((s.length + k : Nat) : Int)) = False := by simp; omega
          go_wp2_with fail
          go_ret2
          have H3 := H.out
          rw [show (((s.length + k : Nat) : Int)) = (s.length : Int) + (k : Int) by omega] at H3
          rw [H3, ← HXX.out]
          refine ⟨?_, rfl⟩
          rw [show ((s.length : Int) + (k : Int)).toNat - s.length = k by omega]
          rfl

theorem mem_drop {α : Type} {p : α → Bool} {x : α} (hp : p x = false) : ∀ {l : List α}, x ∈ l → x ∈ l.dropWhile p
  | y :: l, h => by
    rcases List.mem_cons.1 h with rfl | h
    · rw [List.dropWhile_cons, hp]; simp
    · rw [List.dropWhile_cons]
      split
      · exact mem_drop hp h
      · exact List.mem_cons_of_mem _ h
theorem drop_all {α : Type} {p : α → Bool} : ∀ {l : List α}, l.all p = true → l.dropWhile p = []
  | [], _ => rfl
  | y :: l, h => by
    rw [List.all_cons, Bool.and_eq_true] at h
    rw [List.dropWhile_cons, h.1]
    simp [drop_all h.2]
theorem trim_all (s : List UInt8) : (Lib.trimB s 0).isEmpty = s.all (· == 0) := by
  unfold Lib.trimB Lib.trimLeftB Lib.trimRightB
  cases h : s.all (· == 0)
  · rw [List.all_eq_false] at h
    obtain ⟨x, hx, hp⟩ := h
    have hp : (x == 0) = false := by simpa using hp
    have h1 := mem_drop (p := (· == (0 : UInt8))) hp (List.mem_reverse.2 hx)
    have h2 := mem_drop (p := (· == (0 : UInt8))) hp (List.mem_reverse.2 h1)
    rw [List.isEmpty_eq_false_iff]
    exact List.ne_nil_of_mem h2
  · have : s.reverse.all (· == 0) = true := by rw [List.all_reverse]; exact h
    rw [drop_all this]
    rfl

set_option maxHeartbeats 1000000 in
theorem ref_Zero (s : List UInt8) (w : World) (hs : s.length ≤ 1000000) :
    Calls Tryd.prog 18 #[.string ⟨s.toArray⟩] w fun e w' => e = .returned (.bool (s.all (· == 0))) ∧ w = w' := by
  go_enter Tryd.func18, Tryd.ntmps18
  go_wp2_with fail
  go_loop [3] (fun i => ∃ k : Nat, k ≤ s.length ∧ i = .int .i64 k ∧ Hid ((s.take k).all (· == 0) = true)) (fun i => s.length - (intOf i).toNat)
  case atStart => exact ⟨0, Nat.zero_le _, rfl, rfl⟩
  case round =>
    obtain ⟨k, hk, rfl, HJ⟩ := hrel
    by_cases hlt : k < s.length
    · have hb : (⟨s.toArray⟩ : ByteArray)[k]'hlt = s[k] := rfl
      have HT : Hid ((s.take (k + 1)).all (· == 0) = (s[k] == 0)) := by
        rw [Hid, List.take_succ_eq_append_getElem hlt, List.all_append, HJ.out]
        simp
      have HF : Hid ((s[k] == 0) = false → s.all (· == 0) = false) := fun h => by
        rw [List.all_eq_false]
        exact ⟨s[k], List.getElem_mem hlt, by simp [h]⟩
      by_cases hz : s[k] = 0
      · have HT2 : Hid ((s.take (k + 1)).all (· == 0) = true) := by rw [Hid, HT.out, hz]; rfl
        have hz2 : s[k].toNat = 0 := by rw [hz]; rfl
        clear hz
        generalize s[k] = x at *
        go_wp2_with fail
        go_round
        case rel => exact ⟨k + 1, by omega, by go_num, HT2.out⟩
        case measure => simp [intOf]; omega
      · have HF2 : Hid (s.all (· == 0) = false) := HF.out (by simpa using hz)
        have hz2 : ¬ s[k].toNat = 0 := fun h => hz (UInt8.toNat_inj.1 h)
        clear hz
        generalize s[k] = x at *
        go_wp2_with fail
        go_ret
        rw [HF2.out]
        exact ⟨rfl, rfl⟩
    · obtain rfl : k = s.length := by omega
      have HF2 : Hid (s.all (· == 0) = true) := by have := HJ.out; rwa [List.take_length] at this
      go_wp2_with fail
      go_ret
      rw [HF2.out]
      exact ⟨rfl, rfl⟩

set_option maxRecDepth 4000 in
set_option maxHeartbeats 1000000 in
theorem pads_run (w : World) (s : List UInt8) (n : Int) (hs : s.length ≤ 140737488351232) :
    Calls Tryd.prog 6 #[.string ⟨s.toArray⟩, .int .i64 n] w fun e w' => e = .returned (.bool true) ∧ Kept [] w w' := by
  by_cases h1 : 400 < s.length
  · go_enter Tryd.func6, Tryd.ntmps6
    go_wp2_with (go_at_call 7; refine (oct_alive _).mono ?_; rintro e w2 ⟨rfl, k2⟩)
    go_ret
    exact ⟨rfl, k2⟩
  · by_cases h2 : 1000 < n ∧ n ≤ 1048576
    · obtain ⟨h3, h4⟩ := h2
      go_enter Tryd.func6, Tryd.ntmps6
      go_wp2_with (go_at_call 7; refine (oct_alive _).mono ?_; rintro e w2 ⟨rfl, k2⟩)
      go_ret
      exact ⟨rfl, k2⟩
    · have HZ := Lib.hid (trim_all s)
      have fin : Calls Tryd.prog 6 #[.string ⟨s.toArray⟩, .int .i64 n] w fun e w' => e = .returned (.bool true) ∧ Kept [] w w' := by
        by_cases h3 : 1000 < n
        · have h4 : 1048576 < n := by omega
          clear h2
          go_enter Tryd.func6, Tryd.ntmps6
          go_wp2_with fail
          refine (oct_Pad s n w hs).mono ?_
          rintro e w1 ⟨rfl, k1⟩
          go_wp2_with fail
          refine (ref_Pad s n w1 hs).mono ?_
          rintro e w2 ⟨rfl, rfl⟩
          generalize (padL s n).1 = p at *
          generalize (padL s n).2 = q at *
          go_wp2_with fail
          refine (oct_alive w1).mono ?_
          rintro e w3 ⟨rfl, k3⟩
          go_wp2_with fail
          refine (oct_Zero s w3 hs).mono ?_
          rintro e w4 ⟨rfl, k4⟩
          rw [HZ.out]
          go_wp2_with fail
          refine (ref_Zero s w4 (by omega)).mono ?_
          rintro e w5 ⟨rfl, rfl⟩
          generalize s.all (· == 0) = z at *
          go_wp2_with fail
          go_ret
          exact ⟨by cases z <;> rfl, (k1.trans k3).trans k4⟩
        · clear h2
          go_enter Tryd.func6, Tryd.ntmps6
          go_wp2_with fail
          refine (oct_Pad s n w hs).mono ?_
          rintro e w1 ⟨rfl, k1⟩
          go_wp2_with fail
          refine (ref_Pad s n w1 hs).mono ?_
          rintro e w2 ⟨rfl, rfl⟩
          generalize (padL s n).1 = p at *
          generalize (padL s n).2 = q at *
          go_wp2_with fail
          refine (oct_alive w1).mono ?_
          rintro e w3 ⟨rfl, k3⟩
          go_wp2_with fail
          refine (oct_Zero s w3 hs).mono ?_
          rintro e w4 ⟨rfl, k4⟩
          rw [HZ.out]
          go_wp2_with fail
          refine (ref_Zero s w4 (by omega)).mono ?_
          rintro e w5 ⟨rfl, rfl⟩
          generalize s.all (· == 0) = z at *
          go_wp2_with fail
          go_ret
          exact ⟨by cases z <;> rfl, (k1.trans k3).trans k4⟩
      exact fin
end Go.Proofs.YthlmdhklohnoaaaDoor
