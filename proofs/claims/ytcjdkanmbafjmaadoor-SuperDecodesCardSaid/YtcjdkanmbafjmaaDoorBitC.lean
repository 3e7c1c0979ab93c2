/- The document's sum: its walk. -/
import Derived.Test.YtcjdkanmbafjmaaDoorBitB
namespace Go.Proofs.YtcjdkanmbafjmaaDoor
open Go.RowKit

def termsI : List Int := terms.map fun t : Nat => (t : Int)
theorem terms_len : terms.length = 14 := rfl
theorem ref_terms (w : World) : Calls Tryd.prog 67 #[] w fun e w' => e = .returned (.slice (some ⟨w.heap.size, 0, none⟩) 14 14) ∧ w' = w.alloc (.cells (termsI.map iv).toArray 3) := by
  go_enter Tryd.func67, Tryd.ntmps67
  go_wp2_with fail
  go_ret
  exact ⟨rfl, rfl⟩
theorem divStep_len (bs : List Bool) (i : Nat) : (divStep bs i).length = bs.length := by
  unfold divStep
  split
  · rw [flips_len, List.length_set]
  · rfl
theorem divK_len (bs : List Bool) : ∀ i, (divK bs i).length = bs.length
  | 0 => rfl
  | i + 1 => by rw [divK, divStep_len, divK_len bs i]
/-- the flips so far -/
def flipsTo (bs : List Bool) (i k : Nat) : List Bool := ((terms.take k).map fun t => i + 32 - t).foldl flipB (bs.set i false)
theorem flipsTo_len (bs : List Bool) (i k : Nat) : (flipsTo bs i k).length = bs.length := by rw [flipsTo, flips_len, List.length_set]
theorem flipsTo_succ (bs : List Bool) (i k : Nat) (h : k < 14) : flipsTo bs i (k + 1) = flipB (flipsTo bs i k) (i + 32 - terms[k]'(by rw [terms_len]; exact h)) := by
  unfold flipsTo
  rw [List.take_succ_eq_append_getElem (by rw [terms_len]; exact h), List.map_append, List.foldl_append]
  rfl
theorem flipB_some (l : List Bool) (j : Nat) (h : j < l.length) : flipB l j = l.set j (!l[j]) := by
  unfold flipB
  rw [List.getElem?_eq_getElem h]
  rfl
theorem startBits_len (l : List UInt8) : (startBits l).length = 8 * l.length + 32 := by
  simp [startBits, allBits, dataBits_len]; omega
theorem rep_at (m : Nat) (v : List Bool) (rest : List Value) (j : Nat) (h : j < v.length) : ((List.replicate m false ++ v).map bb ++ rest).toArray[m + j]? = some (bb v[j]) := by
  rw [List.getElem?_toArray, List.getElem?_append_left (by simp; omega), List.getElem?_map, List.getElem?_append_right (by simp)]
  simp [h]
theorem terms_le : ∀ t ∈ terms, t ≤ 26 := by decide

set_option maxRecDepth 4000 in
set_option maxHeartbeats 2000000 in
theorem ref_Sum (w : World) (l : List UInt8) (hl : l.length ≤ 10000) :
    Calls Tryd.prog 49 #[.string ⟨l.toArray⟩] w fun e w' => e = .returned (.int .u32 (sumN l : Int)) ∧ Kept [] w w' := by
  have HL := Lib.hid (startBits_len l)
  have HD := Lib.hid (doc_sum l)
  have HDl := Lib.hid (dataBits_len l)
  go_enter Tryd.func49, Tryd.ntmps49
  go_wp2_with fail
  refine (ref_bits w l hl).mono ?_
  rintro e w1 ⟨g, c, rest, rfl, hB, k1, hge⟩
  have HB1 := Lib.hid hB
  clear hB
  go_wp2_with fail
  refine (ref_terms w1).mono ?_
  rintro e w2 ⟨rfl, rfl⟩
  have HT : Hid (Blk (w1.alloc (.cells (termsI.map iv).toArray 3)) w1.heap.size 3 (termsI.map iv).toArray) := Blk.new _ _ _
  have HB2 := Lib.hid (HB1.out.alloc (.cells (termsI.map iv).toArray 3))
  have HK2 : Hid (Kept [] w (w1.alloc (.cells (termsI.map iv).toArray 3))) := k1.alloc _
  have hgt : g < w1.heap.size := HB1.out.lt
  have hte := k1.size
  clear HB1 k1
  generalize w1.alloc (.cells (termsI.map iv).toArray 3) = w2 at *
  generalize w1.heap.size = h at *
  go_wp2_with fail
  go_loopw [5] (fun i W => ∃ k : Nat, k ≤ 8 * l.length ∧ i = .int .i64 k ∧ Hid (Blk W g 4 ((divK (startBits l) k).map bb ++ rest).toArray) ∧ Hid (Blk W h 3 (termsI.map iv).toArray) ∧ Hid (Kept [] w W)) (fun i _ => 8 * l.length - (intOf i).toNat)
  case atStart => exact ⟨0, Nat.zero_le _, rfl, HB2.out, HT.out, HK2.out⟩
  case round =>
    obtain ⟨i, hi, rfl, HB, HTt, HK⟩ := hrel
    by_cases hlt : i < 8 * l.length
    · have hlen : (divK (startBits l) i).length = 8 * l.length + 32 := by rw [divK_len, HL.out]
      have HS : Hid (divK (startBits l) (i + 1) = divStep (divK (startBits l) i) i) := rfl
      have hc := HB.out.cell i
      rw [arr_at _ _ _ (by omega)] at hc
      have hf := HB.out.frozen i
      have Hlen := Lib.hid hlen
      have HV : Hid ((divK (startBits l) i)[i]?.getD false = (divK (startBits l) i)[i]'(by omega)) := by rw [Hid, List.getElem?_eq_getElem (by omega)]; rfl
      generalize (divK (startBits l) i)[i]'(by omega) = x at *
      generalize divK (startBits l) i = D at *
      simp only [bb] at hc
      clear hlen
      cases x
      · have HS2 : Hid (divStep D i = D) := by rw [Hid, divStep, HV.out, if_neg (by decide)]
        go_wp2_with fail
        go_roundw
        case rel =>
          refine ⟨i + 1, by omega, by go_num, ?_, HTt.out, HK.out⟩
          rw [Hid, HS.out, HS2.out]
          exact HB.out
        case measure => simp [intOf]; omega
      · have HS2 : Hid (divStep D i = flipsTo D i 14) := by rw [Hid, divStep, HV.out, if_pos rfl]; rfl
        have HB3 : Hid (Blk (wr.setCell ⟨g, i, none⟩ (.bool false)) g 4 ((flipsTo D i 0).map bb ++ rest).toArray) := by
          have := HB.out.set_ i (bb false)
          rw [arr_set _ _ _ _ (by rw [Hlen.out]; omega)] at this
          exact this
        have HT3 : Hid (Blk (wr.setCell ⟨g, i, none⟩ (.bool false)) h 3 (termsI.map iv).toArray) := HTt.out.kept ((Kept.refl [g] wr).setCell (.inl (by simp)) _) (by simp; omega)
        have HK3 : Hid (Kept [] w (wr.setCell ⟨g, i, none⟩ (.bool false))) := HK.out.setCell (.inr hge) _
        go_wp2_with fail
        go_loopw [6] (fun kv W => ∃ k : Nat, k ≤ 14 ∧ kv = .int .i64 k ∧ Hid (Blk W g 4 ((flipsTo D i k).map bb ++ rest).toArray) ∧ Hid (Blk W h 3 (termsI.map iv).toArray) ∧ Hid (Kept [] w W)) (fun kv _ => 14 - (intOf kv).toNat)
        case atStart => exact ⟨0, Nat.zero_le _, rfl, HB3.out, HT3.out, HK3.out⟩
        case round =>
          obtain ⟨k, hk, rfl, HB4, HT4, HK4⟩ := hrel
          by_cases hlt2 : k < 14
          · have hk2 : k < terms.length := by rw [terms_len]; exact hlt2
            have hct := HT4.out.cell k
            have ht : (termsI.map iv).toArray[k]? = some (.int .i64 ((terms[k] : Nat) : Int)) := by
              simp [termsI, hk2, iv]
            rw [ht] at hct
            have htl := terms_le _ (List.getElem_mem hk2)
            have HF := Lib.hid (flipsTo_succ D i k hlt2)
            have hfl : (flipsTo D i k).length = 8 * l.length + 32 := by rw [flipsTo_len, Hlen.out]
            clear ht
            generalize terms[k] = t at *
            obtain ⟨jn, hjn⟩ : ∃ jn, i + 32 - t = jn := ⟨_, rfl⟩
            rw [hjn] at HF
            have hw1 : IntKind.i64.wrap ((i : Int) + 32 - (t : Int)) = (jn : Int) := by rw [IntWalk.i64_in _ (by omega)]; omega
            have hw2 : (i : Int) + 32 - (t : Int) = (jn : Int) := by omega
            have hjl : jn < 8 * l.length + 32 := by omega
            have hjF : jn < (flipsTo D i k).length := by rw [hfl]; exact hjl
            have hcj := HB4.out.cell jn
            rw [arr_at _ _ _ hjF] at hcj
            have hfj := HB4.out.frozen jn
            have HG := Lib.hid (flipB_some (flipsTo D i k) jn hjF)
            have HU := Lib.hid (fun b => arr_set (flipsTo D i k) rest jn b hjF)
            have Hw2 := Lib.hid hw2
            generalize (flipsTo D i k)[jn]'hjF = y at *
            clear hfl hjn hw2
            generalize flipsTo D i k = F at *
            simp only [bb] at hcj
            clear hc
            go_wp2_with fail
            go_roundw
            case rel =>
              have hs2 := HB4.out.set_ jn (bb (!y))
              rw [HU.out, ← HG.out, ← HF.out] at hs2
              exact ⟨k + 1, by omega, by go_num, hs2, HT4.out.kept ((Kept.refl [g] wr).setCell (.inl (by simp)) _) (by simp; omega), HK4.out.setCell (.inr hge) _⟩
            case measure => simp [intOf]; omega
          · obtain rfl : k = 14 := by omega
            go_wp2_with fail
            go_roundw
            case rel =>
              refine ⟨i + 1, by omega, by go_num, ?_, HT4.out, HK4.out⟩
              rw [Hid, HS.out, HS2.out]
              exact HB4.out
            case measure => simp [intOf]; omega
    · obtain rfl : i = 8 * l.length := by omega
      obtain ⟨v, hv, hdv, hsum⟩ := HD.out
      rw [HDl.out] at hdv
      have HB5 : Hid (Blk wr g 4 ((List.replicate (8 * l.length) false ++ v).map bb ++ rest).toArray) := by rw [Hid, ← hdv]; exact HB.out
      have Hsum := Lib.hid hsum
      have Hv := Lib.hid hv
      have hw0 : IntKind.i64.wrap (8 * (l.length : Int) + 32 - 1) = 8 * (l.length : Int) + 31 := by rw [IntWalk.i64_in _ (by omega)]; omega
      clear hdv hsum hv
      go_wp2_with fail
      go_loop [8, 9] (fun nv iv' => ∃ j : Nat, j ≤ 32 ∧ iv' = .int .i64 (8 * (l.length : Int) + (j : Int) - 1) ∧ nv = .int .u32 ((valN ((v.drop j).map not) : Nat) : Int)) (fun _ iv' => (intOf iv' + 1 - 8 * (l.length : Int)).toNat)
      case atStart => exact ⟨32, Nat.le_refl _, by go_num, by rw [List.drop_of_length_le (by rw [Hv.out]; exact Nat.le_refl _)]; rfl⟩
      case round =>
        obtain ⟨j, hj, hi, rfl⟩ := hrel
        rcases j with _ | j
        · obtain rfl := hi
          have HF : Hid (valN ((v.drop 0).map not) = sumN l) := by rw [Hid, List.drop_zero]; exact Hsum.out
          rw [HF.out]
          go_wp2_with fail
          go_ret
          exact ⟨rfl, HK.out⟩
        · rw [show 8 * (l.length : Int) + ((j + 1 : Nat) : Int) - 1 = 8 * (l.length : Int) + (j : Int) by omega] at hi
          obtain rfl := hi
          have hjv : j < v.length := by rw [Hv.out]; omega
          have hc := HB5.out.cell (8 * l.length + j)
          rw [rep_at _ _ _ _ hjv] at hc
          have HDr : Hid ((v.drop j).map not = (!v[j]) :: (v.drop (j + 1)).map not) := by rw [Hid, List.drop_eq_getElem_cons hjv, List.map_cons]
          have hlt2 := valN_lt ((v.drop (j + 1)).map not)
          have hll : ((v.drop (j + 1)).map not).length ≤ 31 := by rw [List.length_map, List.length_drop, Hv.out]; omega
          have hbig : valN ((v.drop (j + 1)).map not) < 2147483648 := Nat.lt_of_lt_of_le hlt2 (Nat.le_trans (Nat.pow_le_pow_right (by omega) hll) (by decide))
          have HV : Hid (valN ((v.drop j).map not) = 2 * valN ((v.drop (j + 1)).map not) + (!v[j]).toNat) := by rw [Hid, HDr.out, valN]
          clear hlt2 hll
          generalize v[j] = x at *
          generalize valN ((v.drop (j + 1)).map not) = n at *
          simp only [bb] at hc
          cases x
          · go_wp2_with fail
            go_round
            case rel =>
              refine ⟨j, by omega, by go_num, ?_⟩
              rw [HV.out]
              simp
            case measure => simp [intOf]; omega
          · go_wp2_with fail
            go_round
            case rel =>
              refine ⟨j, by omega, by go_num, ?_⟩
              rw [HV.out]
              simp
            case measure => simp [intOf]; omega
end Go.Proofs.YtcjdkanmbafjmaaDoor
