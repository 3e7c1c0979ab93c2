/- The document's octet: numbers, bytes. -/
import Derived.Test.YtcjdkanmbafjmaaDoorOctZ
namespace Go.Proofs.YtcjdkanmbafjmaaDoor
open Go.RowKit

set_option maxHeartbeats 1000000 in
theorem ref_Number (w : World) (l : List UInt8) (hl : l.length ≤ 8) :
    Calls Tryd.prog 60 #[.string ⟨l.toArray⟩] w fun e w' => e = .returned (.int .u64 (numN l : Int)) ∧ w = w' := by
  have hw : IntKind.i64.wrap ((l.length : Int) - 1) = (l.length : Int) - 1 := IntWalk.i64_in _ (by omega)
  go_enter Tryd.func60, Tryd.ntmps60
  go_wp2_with fail
  go_loop [3, 4] (fun nv i => ∃ k : Nat, k ≤ l.length ∧ i = .int .i64 ((k : Int) - 1) ∧ nv = .int .u64 (numN (l.drop k) : Int)) (fun _ i => (intOf i + 1).toNat)
  case atStart => exact ⟨l.length, Nat.le_refl _, rfl, by simp [numN]⟩
  case round =>
    obtain ⟨k, hk, hi, rfl⟩ := hrel
    rcases k with _ | j
    · obtain rfl := hi
      go_wp2_with fail
      go_ret
      exact ⟨rfl, rfl⟩
    · rw [show (((j + 1 : Nat) : Int) - 1) = (j : Int) by omega] at hi
      obtain rfl := hi
      have hj : j < l.length := by omega
      have hb : (⟨l.toArray⟩ : ByteArray)[j]'hj = l[j] := rfl
      have HD := Lib.hid (List.drop_eq_getElem_cons hj)
      have hn2 : numN (l.drop (j + 1)) < 72057594037927936 := by
        refine Nat.lt_of_lt_of_le (numN_lt _) ?_
        have : (l.drop (j + 1)).length ≤ 7 := by simp; omega
        exact Nat.le_trans (Nat.pow_le_pow_right (by omega) this) (by decide)
      have hb8 := UInt8.toNat_lt l[j]
      have HN : Hid (numN (l.drop j) = 256 * numN (l.drop (j + 1)) + l[j].toNat) := by rw [Hid, HD.out]; rfl
      generalize numN (l.drop (j + 1)) = n at *
      go_wp2_with fail
      go_round
      case rel =>
        refine ⟨j, by omega, by go_num, ?_⟩
        rw [HN.out]
        simp
      case measure => simp [intOf]

def strLen : Value → Nat | .string s => s.size | _ => 0

set_option maxHeartbeats 1000000 in
theorem ref_Pad (s : List UInt8) (n : Int) (w : World) (_hs : s.length ≤ 140737488351232) :
    Calls Tryd.prog 48 #[.string ⟨s.toArray⟩, .int .i64 n] w fun e w' => e = .returned (.tuple #[.string ⟨(padL s n).1.toArray⟩, .int .i64 (padL s n).2]) ∧ w = w' := by
  by_cases h1 : n < s.length
  · have H : Hid (padL s n = ([], 2)) := by rw [Hid, padL, if_pos (.inl h1)]
    go_enter Tryd.func48, Tryd.ntmps48
    go_wp2_with fail
    go_ret2
    rw [H.out]
    exact ⟨rfl, rfl⟩
  · by_cases h2 : n > 1048576
    · have H : Hid (padL s n = ([], 2)) := by rw [Hid, padL, if_pos (.inr h2)]
      go_enter Tryd.func48, Tryd.ntmps48
      go_wp2_with fail
      go_ret2
      rw [H.out]
      exact ⟨rfl, rfl⟩
    · have H : Hid (padL s n = (s ++ List.replicate (n.toNat - s.length) 0, 0)) := by rw [Hid, padL, if_neg (by omega)]
      obtain ⟨m, rfl⟩ : ∃ m : Nat, n = m := ⟨n.toNat, by omega⟩
      have g1 : ((m : Int) < (s.length : Int)) = False := by simp; omega
      have g2 : ((1048576 : Int) < (m : Int)) = False := by simp; omega
      have H1 := Lib.hid h1
      have H2 := Lib.hid h2
      clear h1 h2
      go_enter Tryd.func48, Tryd.ntmps48
      go_wp2_with fail
      go_loop [0] (fun sv => ∃ k : Nat, s.length + k ≤ m ∧ sv = .string ⟨(s ++ List.replicate k 0).toArray⟩) (fun sv => m - strLen sv)
      case atStart => exact ⟨0, by have := H1.out; omega, by simp⟩
      case round =>
        obtain ⟨k, hk, rfl⟩ := hrel
        have hX : (s ++ List.replicate k 0).length = s.length + k := by simp
        have happ : (⟨(s ++ List.replicate k 0).toArray⟩ : ByteArray) ++ ⟨#[0]⟩ = ⟨((s ++ List.replicate k 0) ++ [0]).toArray⟩ := app_arr2 _ [0]
        have HS : Hid ((s ++ List.replicate k 0) ++ [0] = s ++ List.replicate (k + 1) (0 : UInt8)) := by rw [Hid, List.append_assoc, ← List.replicate_succ']
        have hm := H2.out
        generalize hXX : s ++ List.replicate k (0 : UInt8) = X at *
        have HXX := Lib.hid hXX
        clear hXX
        by_cases hlt : s.length + k < m
        · have g3 : ((X.length : Int) < (m : Int)) = True := by simp; omega
          have hXl : X.length ≤ 1048576 := by omega
          have HX := Lib.hid hX
          clear hX
          go_wp2_with fail
          go_round
          case rel => exact ⟨k + 1, by omega, by rw [HS.out]⟩
          case measure => have := HX.out; simp [strLen, ByteArray.size]; omega
        · obtain rfl : m = s.length + k := by omega
          have g3 : ((X.length : Int) < ((s.length + k : Nat) : Int)) = False := by simp; omega
          go_wp2_with fail
          go_ret2
          have H3 := H.out
          rw [show (((s.length + k : Nat) : Int)) = (s.length : Int) + (k : Int) by omega] at H3
          rw [H3, ← HXX.out]
          refine ⟨?_, rfl⟩
          rw [show ((s.length : Int) + (k : Int)).toNat - s.length = k by omega]
          rfl

set_option maxHeartbeats 1000000 in
theorem ref_Zero (s : List UInt8) (w : World) (hs : s.length ≤ 1000000) :
    Calls Tryd.prog 42 #[.string ⟨s.toArray⟩] w fun e w' => e = .returned (.bool (s.all (· == 0))) ∧ w = w' := by
  go_enter Tryd.func42, Tryd.ntmps42
  go_wp2_with fail
  go_loop [3] (fun i => ∃ k : Nat, k ≤ s.length ∧ i = .int .i64 k ∧ Hid ((s.take k).all (· == 0) = true)) (fun i => s.length - (intOf i).toNat)
  case atStart => exact ⟨0, Nat.zero_le _, rfl, rfl⟩
  case round =>
    obtain ⟨k, hk, rfl, HJ⟩ := hrel
    by_cases hlt : k < s.length
    · have hb : (⟨s.toArray⟩ : ByteArray)[k]'hlt = s[k] := rfl
      have HT : Hid ((s.take (k + 1)).all (· == 0) = (s[k] == 0)) := by
        rw [Hid, List.take_succ_eq_append_getElem hlt, List.all_append, HJ.out]
        simp
      have HF : Hid ((s[k] == 0) = false → s.all (· == 0) = false) := fun h => by
        rw [List.all_eq_false]
        exact ⟨s[k], List.getElem_mem hlt, by simp [h]⟩
      by_cases hz : s[k] = 0
      · have HT2 : Hid ((s.take (k + 1)).all (· == 0) = true) := by rw [Hid, HT.out, hz]; rfl
        have hz2 : s[k].toNat = 0 := by rw [hz]; rfl
        clear hz
        generalize s[k] = x at *
        go_wp2_with fail
        go_round
        case rel => exact ⟨k + 1, by omega, by go_num, HT2.out⟩
        case measure => simp [intOf]; omega
      · have HF2 : Hid (s.all (· == 0) = false) := HF.out (by simpa using hz)
        have hz2 : ¬ s[k].toNat = 0 := fun h => hz (UInt8.toNat_inj.1 h)
        clear hz
        generalize s[k] = x at *
        go_wp2_with fail
        go_ret
        rw [HF2.out]
        exact ⟨rfl, rfl⟩
    · obtain rfl : k = s.length := by omega
      have HF2 : Hid (s.all (· == 0) = true) := by have := HJ.out; rwa [List.take_length] at this
      go_wp2_with fail
      go_ret
      rw [HF2.out]
      exact ⟨rfl, rfl⟩

theorem conv_onep (w : World) (y : UInt8) : (convert 33 9 (.slice (some ⟨w.heap.size, 0, none⟩) 1 1)).run Tryd.prog (w.alloc (.cells #[.int .u8 (y.toNat : Int)] 5)) = .ok (.string ⟨#[y]⟩) (w.alloc (.cells #[.int .u8 (y.toNat : Int)] 5)) := by
  have hrd : Rd (w.alloc (.cells #[bv y] 5)) (w.alloc (.cells #[bv y] 5)).heap.size 1 (some ⟨w.heap.size, 0, none⟩) 1 ([y].map bv) := by
    refine ⟨by simp, fun _ => ⟨_, 0, rfl, (Blk.new w _ #[bv y]).lt, fun j u hu => ?_⟩⟩
    rw [Nat.zero_add, (Blk.new w _ #[bv y]).cell]
    simpa using hu
  exact conv_bytes (P := Tryd.prog) (c := 1) 33 5 Tryd.underlying33 Tryd.underlying5 hrd (fun _ => .inr ⟨_, _, rfl⟩) 9 Tryd.underlying9

set_option maxRecDepth 4000 in
set_option maxHeartbeats 1000000 in
theorem ref_Put_yes (n size : Nat) (w : World) (hn : n < 18446744073709551616) (hs : size ≤ 8) :
    Calls Tryd.prog 47 #[.int .u64 (n : Int), .int .i64 (size : Int)] w fun e w' => e = .returned (.tuple #[.string ⟨(putL n size).1.toArray⟩, .int .i64 (putL n size).2]) ∧ Kept [] w w' := by
  have HP : Hid (putL n size = if 0 < n / 256 ^ size then ([], 2) else (lowL n size, 0)) := by
    rw [Hid, putL, if_neg (by omega), Int.toNat_natCast]
  have g1 : ((size : Int) < 0) = False := by simp
  have g2 : ((8 : Int) < (size : Int)) = False := by simp; omega
  go_enter Tryd.func47, Tryd.ntmps47
  go_wp2_with fail
  go_loopw [6, 0, 7] (fun sv nv i W => ∃ k : Nat, k ≤ size ∧ i = .int .i64 k ∧ nv = .int .u64 ((n / 256 ^ k : Nat) : Int) ∧ sv = .string ⟨(lowL n k).toArray⟩ ∧ Hid (Kept [] w W)) (fun _ _ i _ => size - (intOf i).toNat)
  case atStart => exact ⟨0, Nat.zero_le _, rfl, by simp, rfl, Kept.refl _ _⟩
  case round =>
    obtain ⟨k, hk, rfl, rfl, rfl, HK⟩ := hrel
    by_cases hlt : k < size
    · have hsm : n / 256 ^ k < 18446744073709551616 := Nat.lt_of_le_of_lt (Nat.div_le_self _ _) hn
      have hd := Lib.hid (div_pow n k)
      have HL := Lib.hid (lowL_succ n k)
      have hll := lowL_len n k
      generalize n / 256 ^ k = m at *
      generalize lowL n k = L at *
      have happ : (⟨L.toArray⟩ : ByteArray) ++ ⟨#[UInt8.ofNat m]⟩ = ⟨(L ++ [UInt8.ofNat m]).toArray⟩ := app_arr2 L [_]
      have hLl : L.length ≤ 8 := by omega
      have Hll := Lib.hid hll
      clear hll
      have hcv : ∀ w : World, (convert 33 9 (.slice (some ⟨w.heap.size, 0, none⟩) 1 1)).run Tryd.prog (w.alloc (.cells #[.int .u8 ((m : Int) % 256)] 5)) = .ok (.string ⟨#[UInt8.ofNat m]⟩) (w.alloc (.cells #[.int .u8 ((m : Int) % 256)] 5))   := fun w => by
        have := conv_onep w (UInt8.ofNat m)
        rw [show (((UInt8.ofNat m).toNat : Nat) : Int) = (m : Int) % 256 by simp [UInt8.toNat_ofNat']] at this
        exact this
      go_wp2_with fail
      go_roundw
      case rel =>
        refine ⟨k + 1, by omega, by go_num, ?_, ?_, HK.out.alloc _⟩
        · rw [← hd.out]; simp
        · rw [HL.out]
      case measure => simp [intOf]; omega
    · obtain rfl : k = size := by omega
      generalize hm : n / 256 ^ k = m at *
      by_cases hz : 0 < m
      · have HQ : Hid (putL n k = ([], 2)) := by rw [Hid, HP.out, if_pos hz]
        go_wp2_with fail
        go_ret2
        rw [HQ.out]
        exact ⟨rfl, HK.out⟩
      · have HQ : Hid (putL n k = (lowL n k, 0)) := by rw [Hid, HP.out, if_neg hz]
        go_wp2_with fail
        go_ret2
        rw [HQ.out]
        exact ⟨rfl, HK.out⟩
theorem ref_Put (n : Nat) (size : Int) (w : World) (hn : n < 18446744073709551616) :
    Calls Tryd.prog 47 #[.int .u64 (n : Int), .int .i64 size] w fun e w' => e = .returned (.tuple #[.string ⟨(putL n size).1.toArray⟩, .int .i64 (putL n size).2]) ∧ Kept [] w w' := by
  by_cases h : size < 0
  · have HP : Hid (putL n size = ([], 1)) := by rw [Hid, putL, if_pos (.inl h)]
    go_enter Tryd.func47, Tryd.ntmps47
    go_wp2_with fail
    go_ret2
    rw [HP.out]
    exact ⟨rfl, Kept.refl _ _⟩
  · by_cases h8 : 8 < size
    · have HP : Hid (putL n size = ([], 1)) := by rw [Hid, putL, if_pos (.inr h8)]
      go_enter Tryd.func47, Tryd.ntmps47
      go_wp2_with fail
      go_ret2
      rw [HP.out]
      exact ⟨rfl, Kept.refl _ _⟩
    · obtain ⟨s, rfl⟩ : ∃ s : Nat, size = s := ⟨size.toNat, by omega⟩
      exact ref_Put_yes n s w hn (by omega)
end Go.Proofs.YtcjdkanmbafjmaaDoor
