/- The program's sums: of texts. -/
import Derived.Test.YtcjdkanmbafjmaaDoorCrcA
namespace Go.Proofs.YtcjdkanmbafjmaaDoor
open Go.RowKit

def strV (l : List UInt8) : Value := .string ⟨l.toArray⟩
/-- one byte more -/
def byteN (n : Nat) (b : UInt8) : Nat := tabN ((n % 256) ^^^ b.toNat) ^^^ (n / 256)
def rawN (l : List UInt8) (n : Nat) : Nat := l.foldl byteN n
def sumN (l : List UInt8) : Nat := 4294967295 ^^^ rawN l 4294967295
theorem tabN_lt (i : Nat) (h : i < 4294967296) : tabN i < 4294967296 := stepsN_lt i h 8
theorem byteN_lt (n : Nat) (b : UInt8) (h : n < 4294967296) : byteN n b < 4294967296 := by
  have h1 : (n % 256) ^^^ b.toNat < 256 := Nat.xor_lt_two_pow (n := 8) (by omega) (UInt8.toNat_lt b)
  exact Nat.xor_lt_two_pow (n := 32) (tabN_lt _ (by omega)) (by omega)
theorem rawN_lt (l : List UInt8) : ∀ (n : Nat), n < 4294967296 → rawN l n < 4294967296 := by
  induction l with
  | nil => intro n h; exact h
  | cons b l ih => intro n h; exact ih _ (byteN_lt n b h)

set_option maxRecDepth 10000 in
set_option maxHeartbeats 4000000 in
theorem crc_Sum (w : World) (B : Nat) (A : Option Addr) (c : Nat) (ls : List (List UInt8)) (h : Rd w B 1 A ls.length (ls.map strV)) (_hB : B ≤ w.heap.size) (hn : ls.length ≤ 1000000) (hl : ∀ s ∈ ls, s.length ≤ 140737488351232) :
    Calls Tryd.prog 33 #[.slice A ls.length c] w fun e w' => e = .returned (.int .u32 (sumN ls.flatten : Int)) ∧ Kept [] w w' := by
  obtain ⟨zA, hzA, hz⟩ : ∃ zA, zA = tabPart 0 ∧ ∀ w, (zeroValue 80).run Tryd.prog w = .ok (.agg zA) w := ⟨_, rfl, zero36⟩
  have HzA := Lib.hid hzA
  have Hl := Lib.hid hl
  have H := Lib.hid h
  clear hzA hl h
  go_enter Tryd.func33, Tryd.ntmps33
  go_wp2_with fail
  refine (crc_table w).mono ?_
  rintro e w1 ⟨rfl, k1⟩
  have HB1 : Hid (Blk (w1.alloc (.cells zA 80)) w1.heap.size 80 zA) := Blk.new w1 _ _
  have hi36 : (Tryd.prog.info? 80).map (·.size) = some tabCells.length := by kernel_rfl
  have h1c : tabCells.toArray.all (·.oneCell') = true := by kernel_rfl
  have hth : (w1.alloc (.cells zA 80)).there w1.heap.size 0 tabCells.toArray.size := fun j hj => by
    rw [Nat.zero_add, HB1.out.cell]
    refine ⟨?_, HB1.out.frozen j⟩
    have : j < zA.size := by rw [HzA.out]; simpa [tabPart, tabCells] using hj
    rw [Array.getElem?_eq_getElem this]; rfl
  have Hth := Lib.hid hth
  have H1c := Lib.hid h1c
  have hw2 : ((w1.alloc (.cells zA 80)).setCells w1.heap.size 0 tabCells).rangeAt w1.heap.size 0 tabCells := fun j v hv => by
    have hj : j < tabCells.length := (List.getElem?_eq_some_iff.1 hv).1
    rw [World.cell?_setCells_in _ _ _ _ (fun i hi => (Hth.out i (by simpa using hi)).1) j hj]
    rw [← hv, List.getElem?_eq_getElem hj]
  have HT : Hid (∀ i, i < 256 → ((w1.alloc (.cells zA 80)).setCells w1.heap.size 0 tabCells).cell? ⟨w1.heap.size, i, none⟩ = some (.int .u32 (tabN i : Int))) := fun i hi => by
    have := hw2 i (.int .u32 (tabN i : Int)) (by simp [tabCells, hi])
    rwa [Nat.zero_add] at this
  have HK2 : Hid (Kept [] w ((w1.alloc (.cells zA 80)).setCells w1.heap.size 0 tabCells)) := by
    have hs := k1.size
    have : ∀ (l : List Value) (o : Nat) (W : World), Kept [] w W → Kept [] w (W.setCells w1.heap.size o l) := by
      intro l
      induction l with
      | nil => intro o W h; exact h
      | cons v r ih => intro o W h; exact ih _ _ (h.setCell (.inr hs) _)
    exact this _ _ _ (k1.alloc _)
  have hi2 : (Tryd.prog.info? 80).map (·.size) = some tabCells.toArray.size := by rw [hi36]; simp
  have Hi2 := Lib.hid hi2
  clear hth h1c hi36 hw2 hi2 k1
  generalize tabCells = T at *
  go_wp2_with (refine wpList_store_mid rfl _ (.tmp 3) (.tmp 8) rfl w1.heap.size 0 T.toArray rfl rfl Hth.out Hi2.out H1c.out ?_)
  have HS : Hid (∀ k, (hk : k < ls.length) → ∃ b o, A = some ⟨b, o, none⟩ ∧ ((w1.alloc (.cells zA 80)).setCells w1.heap.size 0 T).cell? ⟨b, o + k, none⟩ = some (.string ⟨ls[k].toArray⟩)) := fun k hk => by
    obtain ⟨b, o, e, hb, hc⟩ := H.out.2 (by omega)
    exact ⟨b, o, e, HK2.out.cell (hc k (strV ls[k]) (by simp [hk])) (fun h => by cases h)⟩
  clear hz HzA HB1 Hth H1c Hi2 H
  generalize ((w1.alloc (.cells zA 80)).setCells w1.heap.size 0 T) = w2 at *
  generalize w1.heap.size = g at *
  go_loop [4, 11] (fun nv i => ∃ k : Nat, k ≤ ls.length ∧ i = .int .i64 k ∧ nv = .int .u32 ((rawN (ls.take k).flatten 4294967295 : Nat) : Int)) (fun _ i => ls.length - (intOf i).toNat)
  case atStart => exact ⟨0, Nat.zero_le _, rfl, rfl⟩
  case round =>
    obtain ⟨k, hk, rfl, rfl⟩ := hrel
    by_cases hlt : k < ls.length
    · obtain ⟨b, o, rfl, hc⟩ := HS.out k hlt
      have hlk := Hl.out _ (List.getElem_mem hlt)
      have HN : Hid ((ls.take (k + 1)).flatten = (ls.take k).flatten ++ ls[k]) := by
        rw [Hid, List.take_succ_eq_append_getElem hlt, List.flatten_append]; simp
      generalize ls[k] = s at *
      have hlt0 : rawN (ls.take k).flatten 4294967295 < 4294967296 := rawN_lt _ _ (by omega)
      have HM : Hid (∀ j, rawN ((ls.take k).flatten ++ s.take j) 4294967295 = rawN (s.take j) (rawN (ls.take k).flatten 4294967295)) := fun j => by unfold rawN; rw [List.foldl_append]
      generalize rawN (ls.take k).flatten 4294967295 = n0 at *
      go_wp2_with fail
      go_loop [4, 17] (fun nv i => ∃ j : Nat, j ≤ s.length ∧ i = .int .i64 j ∧ nv = .int .u32 ((rawN (s.take j) n0 : Nat) : Int)) (fun _ i => s.length - (intOf i).toNat)
      case atStart => exact ⟨0, Nat.zero_le _, rfl, rfl⟩
      case round =>
        obtain ⟨j, hj, rfl, rfl⟩ := hrel
        by_cases hlt2 : j < s.length
        · have hn1 : rawN (s.take j) n0 < 4294967296 := rawN_lt _ _ hlt0
          have HR : Hid (rawN (s.take (j + 1)) n0 = byteN (rawN (s.take j) n0) s[j]) := by
            rw [Hid, List.take_succ_eq_append_getElem hlt2]; unfold rawN; rw [List.foldl_append]; rfl
          generalize rawN (s.take j) n0 = n at *
          have hix : (n % 256) ^^^ s[j].toNat < 256 := Nat.xor_lt_two_pow (n := 8) (by omega) (UInt8.toNat_lt _)
          have hcell := HT.out _ hix
          have e1 : bits .xor .u8 ((n : Int) % 256) ((s[j].toNat : Nat) : Int) = (((n % 256) ^^^ s[j].toNat : Nat) : Int) := by
            rw [← u8_xor_nat (n % 256) s[j].toNat (by omega) (UInt8.toNat_lt _)]; rfl
          have e2 : bits .xor .u32 ((tabN ((n % 256) ^^^ s[j].toNat) : Nat) : Int) ((n : Int) / 256) = ((byteN n s[j] : Nat) : Int) := by
            unfold byteN
            rw [← u32_xor_nat _ (n / 256) (tabN_lt _ (by omega)) (by omega)]; rfl
          have hb : (⟨s.toArray⟩ : ByteArray)[j]'hlt2 = s[j] := rfl
          generalize (n % 256) ^^^ s[j].toNat = ix at *
          go_wp2_with fail
          go_round
          case rel => exact ⟨j + 1, by omega, by go_num, by rw [HR.out]⟩
          case measure => simp [intOf]; omega
        · have HJ : Hid (rawN (s.take j) n0 = rawN s n0) := by rw [Hid, List.take_of_length_le (by omega)]
          go_wp2_with fail
          go_round
          case rel =>
            refine ⟨k + 1, by omega, by go_num, ?_⟩
            have := HM.out s.length
            rw [List.take_of_length_le (Nat.le_refl _)] at this
            rw [HN.out, this, HJ.out]
          case measure => simp [intOf]; omega
    · obtain rfl : k = ls.length := by omega
      have HSm : Hid (sumN ls.flatten = 4294967295 ^^^ rawN (ls.take ls.length).flatten 4294967295) := by rw [Hid, sumN, List.take_length]
      have hr : rawN (ls.take ls.length).flatten 4294967295 < 4294967296 := rawN_lt _ _ (by omega)
      have e3 : bits .xor .u32 IntKind.u32.max ((rawN (ls.take ls.length).flatten 4294967295 : Nat) : Int) = ((4294967295 ^^^ rawN (ls.take ls.length).flatten 4294967295 : Nat) : Int) := by
        rw [← u32_xor_nat 4294967295 _ (by omega) hr]; rfl
      generalize rawN (ls.take ls.length).flatten 4294967295 = n0 at *
      go_wp2_with fail
      go_ret
      rw [HSm.out]
      exact ⟨by rw [← e3]; rfl, HK2.out⟩
end Go.Proofs.YtcjdkanmbafjmaaDoor
