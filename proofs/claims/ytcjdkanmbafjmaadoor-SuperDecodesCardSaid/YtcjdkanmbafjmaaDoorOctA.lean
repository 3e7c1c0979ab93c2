/- The program's octet: a size is right, a number's bytes, bytes with 0 behind. -/
import Derived.Test.YtcjdkanmbafjmaaDoorCopy
import Derived.Test.YtcjdkanmbafjmaaDoorShelf
namespace Go.Proofs.YtcjdkanmbafjmaaDoor
open Go.RowKit

def sizeB (n : Int) : Bool := decide (0 ≤ n) && decide (n ≤ 8)
theorem oct_right (n : Int) (w : World) : Calls Tryd.prog 28 #[.int .i64 n] w fun e w' => e = .returned (.bool (sizeB n)) ∧ w = w' := by
  by_cases h : 0 ≤ n
  all_goals
    go_enter Tryd.func28, Tryd.ntmps28
    go_wp2
    go_ret
    refine ⟨?_, rfl⟩
    first | (simp [sizeB, h]; done) | (simp [sizeB]; omega)

/-- bytes with 0 behind -/
def padL (s : List UInt8) (n : Int) : List UInt8 × Int := if n < s.length ∨ n > 1048576 then ([], 2) else (s ++ List.replicate (n.toNat - s.length) 0, 0)
theorem repeat_zero (c : Nat) : Lib.repeatL [0] c = List.replicate c (0 : UInt8) := by
  induction c with
  | zero => rfl
  | succ c ih => simp_all [Lib.repeatL, List.replicate_succ]
theorem oct_Pad (s : List UInt8) (n : Int) (w : World) (hs : s.length ≤ 140737488351232) :
    Calls Tryd.prog 32 #[.string ⟨s.toArray⟩, .int .i64 n] w fun e w' => e = .returned (.tuple #[.string ⟨(padL s n).1.toArray⟩, .int .i64 (padL s n).2]) ∧ Kept [] w w' := by
  by_cases h1 : n < s.length
  · have H : Hid (padL s n = ([], 2)) := by rw [Hid, padL, if_pos (.inl h1)]
    go_enter Tryd.func32, Tryd.ntmps32
    go_wp2
    go_ret2
    rw [H.out]
    exact ⟨rfl, Kept.refl _ _⟩
  · by_cases h2 : n > 1048576
    · have H : Hid (padL s n = ([], 2)) := by rw [Hid, padL, if_pos (.inr h2)]
      go_enter Tryd.func32, Tryd.ntmps32
      go_wp2
      go_ret2
      rw [H.out]
      exact ⟨rfl, Kept.refl _ _⟩
    · have H : Hid (padL s n = (s ++ List.replicate (n.toNat - s.length) 0, 0)) := by rw [Hid, padL, if_neg (by omega)]
      obtain ⟨c, hc⟩ : ∃ c : Nat, n = s.length + c := ⟨n.toNat - s.length, by omega⟩
      have hw : IntKind.i64.wrap (n - (s.length : Int)) = (c : Int) := by rw [IntWalk.i64_in _ (by omega)]; omega
      have hcc : n.toNat - s.length = c := by omega
      have Hcc := Lib.hid hcc
      clear hcc
      go_enter Tryd.func32, Tryd.ntmps32
      go_wp2_with fail
      rw [show (s.length : Int) + (c : Int) - (s.length : Int) = (c : Int) by omega]
      refine (Tryd.strings_Repeat ⟨#[0]⟩ c w (by omega) (by show 1 * c ≤ _; omega)).mono ?_
      rintro e w' ⟨rfl, hb⟩
      rw [show (⟨#[0]⟩ : ByteArray).data.toList = [0] from rfl, repeat_zero]
      go_wp2
      go_ret2
      rw [H.out, Hcc.out]
      exact ⟨rfl, Kept.ofBelow hb⟩

/-- a number's lowest bytes, the lowest first -/
def lowL (n k : Nat) : List UInt8 := (List.range k).map fun i => UInt8.ofNat (n / 256 ^ i)
def putL (n : Nat) (size : Int) : List UInt8 × Int :=
  if size < 0 ∨ 8 < size then ([], 1) else if 0 < n / 256 ^ size.toNat then ([], 2) else (lowL n size.toNat, 0)
theorem infoB : (Tryd.prog.info? 5).map (fun i => (i.zero, i.size, i.bytes)) = some (some (.int .u8 0), 1, 1) := by kernel_rfl
theorem lowL_len (n k : Nat) : (lowL n k).length = k := by simp [lowL]
theorem lowL_succ (n k : Nat) : lowL n (k + 1) = lowL n k ++ [UInt8.ofNat (n / 256 ^ k)] := by simp [lowL, List.range_succ]
def putCells (n size k : Nat) : Array Value := ((lowL n k).map bv ++ List.replicate (size - k) (Value.int .u8 0)).toArray
theorem putCells_set (n size k : Nat) (hk : k < size) (v : Value) (hv : v = bv (UInt8.ofNat (n / 256 ^ k))) : (putCells n size k).setIfInBounds k v = putCells n size (k + 1) := by
  subst hv
  obtain ⟨r, hr⟩ : ∃ r, size - k = r + 1 := ⟨size - k - 1, by omega⟩
  rw [putCells, putCells, lowL_succ, hr, show size - (k + 1) = r by omega]
  simp [lowL_len, List.replicate_succ]
theorem div_pow (n k : Nat) : n / 256 ^ k / 256 = n / 256 ^ (k + 1) := by rw [Nat.div_div_eq_div_mul, Nat.pow_succ]

set_option maxHeartbeats 1000000 in
theorem oct_Put_yes (n size : Nat) (w : World) (hn : n < 18446744073709551616) (hs : size ≤ 8) :
    Calls Tryd.prog 29 #[.int .u64 (n : Int), .int .i64 (size : Int)] w fun e w' => e = .returned (.tuple #[.string ⟨(putL n size).1.toArray⟩, .int .i64 (putL n size).2]) ∧ Kept [] w w' := by
  have hb : sizeB (size : Int) = true := by simp [sizeB]; omega
  have HP : Hid (putL n size = if 0 < n / 256 ^ size then ([], 2) else (lowL n size, 0)) := by
    rw [Hid, putL, if_neg (by omega), Int.toNat_natCast]
  obtain ⟨i0, hi0, hz0, hz1, hz2⟩ := info_parts infoB
  go_enter Tryd.func29, Tryd.ntmps29
  go_wp2_with (first
    | (go_at_call 28; refine (oct_right _ _).mono ?_; rintro e w' ⟨rfl, rfl⟩; rw [hb])
    | (at_make; refine wpList_make_full _ rfl (.tmp 11) (.tmp 11) 33 rfl 0 5 i0 _ 1 Tryd.underlying33 hi0 hz0 hz1 .i64 .i64 _ _ size rfl rfl (by omega) (by omega) (by rw [hz2]; omega) (by simp only [maxLen]; omega) (by omega) ?_; intro w1 hown1 hgrow1))
  have hk1 := (Kept.refl [] w).grown hgrow1 (fun _ h => by cases h)
  have hb1 : Blk w1 w.heap.size 5 (putCells n size 0) := by
    obtain ⟨r1, hb1, hl1, hr1, _⟩ := own_blk hown1
    obtain rfl : r1 = [] := List.eq_nil_of_length_eq_zero (by omega)
    simp only [Value.cells, toList_madeCells_one, List.append_nil, Nat.mul_one] at hb1
    simpa [putCells, lowL] using hb1
  have HB1 := Lib.hid hb1
  have Hn : Hid (n = n / 256 ^ 0) := by simp [Hid]
  clear hb1 hown1 hgrow1
  go_loopw [0, 15] (fun nv i W => ∃ k : Nat, k ≤ size ∧ i = .int .i64 k ∧ nv = .int .u64 ((n / 256 ^ k : Nat) : Int) ∧ Hid (Blk W w.heap.size 5 (putCells n size k)) ∧ Kept [] w W) (fun _ i _ => size - (intOf i).toNat)
  case atStart => exact ⟨0, Nat.zero_le _, rfl, by simp, HB1.out, hk1⟩
  case round =>
    obtain ⟨k, hk, rfl, rfl, HB, hkept⟩ := hrel
    by_cases hlt : k < size
    · have hc := HB.out.cell k
      have hf := HB.out.frozen k
      have hc2 : ∃ v, wr.cell? ⟨w.heap.size, k, none⟩ = some v := by
        rw [hc]
        have : k < (putCells n size k).size := by simp [putCells, lowL_len]; omega
        exact ⟨_, Array.getElem?_eq_getElem this⟩
      obtain ⟨v, hv⟩ := hc2
      clear hc
      have hsm : n / 256 ^ k < 18446744073709551616 := Nat.lt_of_le_of_lt (Nat.div_le_self _ _) hn
      have hd := div_pow n k
      generalize hm : n / 256 ^ k = m at *
      go_wp2_with fail
      go_roundw
      case rel =>
        have hs2 := HB.out.set_ k (.int .u8 ((m : Int) % 256))
        rw [putCells_set n size k hlt _ (by rw [hm]; simp [bv])] at hs2
        refine ⟨k + 1, by omega, by go_num, ?_, hs2, hkept.setCell (.inr (Nat.le_refl _)) _⟩
        rw [← hd]
        simp
      case measure => simp [intOf]; omega
    · obtain rfl : k = size := by omega
      have hrd : Rd wr wr.heap.size 1 (some ⟨w.heap.size, 0, none⟩) k ((lowL n k).map bv) := by
        refine ⟨by simp [lowL_len], fun _ => ⟨_, 0, rfl, HB.out.lt, fun j u hu => ?_⟩⟩
        rw [Nat.zero_add, HB.out.cell, putCells]
        simpa using hu
      have hcv := conv_bytes (P := Tryd.prog) (c := k) 33 5 Tryd.underlying33 Tryd.underlying5 hrd (fun _ => .inr ⟨_, _, rfl⟩) 9 Tryd.underlying9
      clear hrd
      generalize hm : n / 256 ^ k = m at *
      by_cases hz : 0 < m
      · have HQ : Hid (putL n k = ([], 2)) := by rw [Hid, HP.out, if_pos hz]
        go_wp2_with fail
        go_ret2
        rw [HQ.out]
        exact ⟨rfl, hkept⟩
      · have HQ : Hid (putL n k = (lowL n k, 0)) := by rw [Hid, HP.out, if_neg hz]
        go_wp2_with fail
        go_ret2
        rw [HQ.out]
        exact ⟨rfl, hkept⟩

theorem oct_Put (n : Nat) (size : Int) (w : World) (hn : n < 18446744073709551616) :
    Calls Tryd.prog 29 #[.int .u64 (n : Int), .int .i64 size] w fun e w' => e = .returned (.tuple #[.string ⟨(putL n size).1.toArray⟩, .int .i64 (putL n size).2]) ∧ Kept [] w w' := by
  by_cases h : size < 0 ∨ 8 < size
  · have hb : sizeB size = false := by simp [sizeB]; omega
    have HP : Hid (putL n size = ([], 1)) := by rw [Hid, putL, if_pos h]
    go_enter Tryd.func29, Tryd.ntmps29
    go_wp2_with (go_at_call 28; refine (oct_right _ _).mono ?_; rintro e w' ⟨rfl, rfl⟩; rw [hb])
    go_ret2
    rw [HP.out]
    exact ⟨rfl, Kept.refl _ _⟩
  · obtain ⟨s, rfl⟩ : ∃ s : Nat, size = s := ⟨size.toNat, by omega⟩
    exact oct_Put_yes n s w hn (by omega)
end Go.Proofs.YtcjdkanmbafjmaaDoor
