/- The program's octet: a number read from the front of a reader. -/
import Derived.Test.YtcjdkanmbafjmaaDoorOctA
import Derived.Laws.BitsAllLaws
namespace Go.Proofs.YtcjdkanmbafjmaaDoor
open Go.RowKit

/-- the number of bytes, the lowest first -/
def numN (l : List UInt8) : Nat := l.foldr (fun b n => 256 * n + b.toNat) 0
theorem numN_lt (l : List UInt8) : numN l < 256 ^ l.length := by
  induction l with
  | nil => simp [numN]
  | cons b l ih =>
    have e : numN (b :: l) = 256 * numN l + b.toNat := rfl
    have hb := UInt8.toNat_lt b
    rw [e, List.length_cons, Nat.pow_succ]
    omega
theorem or_low (n : Nat) (b : UInt8) : (256 * n) ||| b.toNat = 256 * n + b.toNat := by
  have := Nat.two_pow_add_eq_or_of_lt (i := 8) (b := b.toNat) (UInt8.toNat_lt b) n
  rw [show (2 : Nat) ^ 8 * n = 256 * n by omega] at this
  exact this.symm
theorem numN_step (n : Nat) (b : UInt8) (h : n < 72057594037927936) : bits .or .u64 ((n : Int) * 256) (IntKind.u64.wrap (b.toNat : Int)) = ((256 * n + b.toNat : Nat) : Int) := by
  have hb := UInt8.toNat_lt b
  have e : IntKind.u64.wrap (b.toNat : Int) = (b.toNat : Int) := by
    rw [show IntKind.u64.wrap (b.toNat : Int) = (b.toNat : Int) % 18446744073709551616 by simp [IntKind.wrap, IntKind.bits, IntKind.signed]]
    omega
  have e2 : (n : Int) * 256 = ((256 * n : Nat) : Int) := by omega
  rw [e2, e, u64_or_nat _ _ (by omega) (by omega), or_low]
theorem extract_list2 (l : List UInt8) (a b : Nat) : (⟨l.toArray⟩ : ByteArray).extract a b = ⟨((l.drop a).take (b - a)).toArray⟩ := by
  apply ByteArray.ext
  rw [ByteArray.data_extract]
  simp [List.extract_eq_take_drop]
def cutV : PanicEntry := { v := .iface 104 (.agg #[.int .i64 21]), recovered := false }

set_option maxHeartbeats 1000000 in
theorem oct_number_cut (w : World) (R : Nat) (s : List UInt8) (z : Nat) (hR : Blk w R 71 #[.string ⟨s.toArray⟩]) (h : s.length < z) :
    Calls Tryd.prog 52 #[.pointer (some ⟨R, 0, none⟩), .int .i64 (z : Int)] w fun e w' => e = .panicked [cutV] ∧ Kept [] w w' := by
  have hc : w.cell? ⟨R, 0, none⟩ = some (.string ⟨s.toArray⟩) := hR.cell 0
  have hlt : ((s.length : Int) < (z : Int)) = True := by simp; omega
  go_enter Tryd.func52, Tryd.ntmps52
  go_wp2_with fail
  exact ⟨rfl, rfl, Kept.refl _ _⟩

set_option maxHeartbeats 2000000 in
theorem oct_number (w : World) (R : Nat) (s : List UInt8) (z : Nat) (hz : z ≤ 8) (hR : Blk w R 71 #[.string ⟨s.toArray⟩]) (h : z ≤ s.length) (hs : s.length ≤ 140737488351232) :
    Calls Tryd.prog 52 #[.pointer (some ⟨R, 0, none⟩), .int .i64 (z : Int)] w fun e w' => e = .returned (.int .u64 (numN (s.take z) : Int)) ∧ Kept [R] w w' ∧ Blk w' R 71 #[.string ⟨(s.drop z).toArray⟩] := by
  have hc : w.cell? ⟨R, 0, none⟩ = some (.string ⟨s.toArray⟩) := hR.cell 0
  have hf : w.frozen? ⟨R, 0, none⟩ = false := hR.frozen 0
  have hlt : ((s.length : Int) < (z : Int)) = False := by simp; omega
  go_enter Tryd.func52, Tryd.ntmps52
  have hzi : IntKind.i64.wrap ((z : Int) - 1) = (z : Int) - 1 := IntWalk.i64_in _ (by omega)
  have hx : (⟨s.toArray⟩ : ByteArray).extract z s.length = ⟨(s.drop z).toArray⟩ := by
    rw [extract_list2, List.take_of_length_le]; simp
  have hz1 : (z : Int) ≤ (s.length : Int) := by omega
  go_wp2_with fail
  go_loop [5, 6] (fun nv i => ∃ k : Nat, k ≤ z ∧ i = .int .i64 ((k : Int) - 1) ∧ nv = .int .u64 (numN ((s.take z).drop k) : Int)) (fun _ i => (intOf i + 1).toNat)
  case atStart => exact ⟨z, Nat.le_refl _, rfl, by simp [numN]⟩
  case round =>
    obtain ⟨k, hk, hi, rfl⟩ := hrel
    rcases k with _ | j
    · obtain rfl := hi
      go_wp2_with fail
      go_ret
      exact ⟨rfl, (Kept.refl _ _).setCell (.inl (by simp)) _, hR.set_ 0 _⟩
    · rw [show (((j + 1 : Nat) : Int) - 1) = (j : Int) by omega] at hi
      obtain rfl := hi
      have hj : j < s.length := by omega
      have hb : (⟨s.toArray⟩ : ByteArray)[j]'hj = s[j] := rfl
      have hn := numN_lt ((s.take z).drop (j + 1))
      have hdrop : (s.take z).drop j = s[j] :: (s.take z).drop (j + 1) := by
        rw [List.drop_eq_getElem_cons (by simp; omega)]
        simp
      have HD := Lib.hid hdrop
      clear hdrop
      have hn2 : numN ((s.take z).drop (j + 1)) < 72057594037927936 := by
        refine Nat.lt_of_lt_of_le hn ?_
        have : ((s.take z).drop (j + 1)).length ≤ 7 := by simp; omega
        exact Nat.le_trans (Nat.pow_le_pow_right (by omega) this) (by decide)
      have hst := numN_step _ s[j] hn2
      clear hn
      have HN : Hid (numN ((s.take z).drop j) = 256 * numN ((s.take z).drop (j + 1)) + s[j].toNat) := by rw [Hid, HD.out]; rfl
      generalize numN ((s.take z).drop (j + 1)) = n at *
      go_wp2_with fail
      go_round
      case rel =>
        refine ⟨j, by omega, by go_num, ?_⟩
        rw [HN.out]
        simp
      case measure => simp [intOf]
end Go.Proofs.YtcjdkanmbafjmaaDoor
