/- The document's sum: its bits. -/
import Derived.Test.YtcjdkanmbafjmaaDoorBitA
import Derived.Test.YtcjdkanmbafjmaaDoorRefZ
namespace Go.Proofs.YtcjdkanmbafjmaaDoor
open Go.RowKit

def bb (b : Bool) : Value := .bool b
theorem infoBool : (Tryd.prog.info? 4).map (fun i => (i.zero, i.size, i.bytes)) = some (some (.bool false), 1, 1) := by kernel_rfl
def bitsTo (l : List UInt8) (k : Nat) : List Bool := dataBits (l.take k)
def someBits (c : UInt8) (k : Nat) : List Bool := (byteBits c).take k
theorem byteBits_len (c : UInt8) : (byteBits c).length = 8 := by simp [byteBits]
theorem dataBits_len : ∀ l : List UInt8, (dataBits l).length = 8 * l.length
  | [] => rfl
  | c :: l => by
    have : dataBits (c :: l) = byteBits c ++ dataBits l := rfl
    rw [this, List.length_append, byteBits_len, dataBits_len l, List.length_cons]
    omega
theorem bitsTo_len (l : List UInt8) (k : Nat) (h : k ≤ l.length) : (bitsTo l k).length = 8 * k := by
  rw [bitsTo, dataBits_len, List.length_take]
  omega
theorem bitsTo_succ (l : List UInt8) (k : Nat) (h : k < l.length) : bitsTo l (k + 1) = bitsTo l k ++ byteBits l[k] := by
  unfold bitsTo dataBits
  rw [List.take_succ_eq_append_getElem h, List.flatMap_append]
  simp
theorem someBits_succ (c : UInt8) (k : Nat) (h : k < 8) : someBits c (k + 1) = someBits c k ++ [decide (c.toNat / 2 ^ k % 2 = 1)] := by
  unfold someBits
  rw [List.take_succ_eq_append_getElem (by rw [byteBits_len]; exact h)]
  simp [byteBits]
theorem someBits_len (c : UInt8) (k : Nat) (h : k ≤ 8) : (someBits c k).length = k := by
  rw [someBits, List.length_take, byteBits_len]; omega

def flipK (A : List Bool) (i : Nat) : List Bool := (A.take i).map not ++ A.drop i
theorem flipK_len (A : List Bool) (i : Nat) : (flipK A i).length = A.length := by
  simp [flipK]; omega
theorem flipK_at (A : List Bool) (i : Nat) (h : i < A.length) : (flipK A i)[i]'(by rw [flipK_len]; exact h) = A[i] := by
  simp only [flipK]
  rw [List.getElem_append_right (by simp; omega), List.getElem_drop]
  congr 1
  simp
  omega
theorem flipK_set (A : List Bool) (i : Nat) (h : i < A.length) : (flipK A i).set i (!A[i]) = flipK A (i + 1) := by
  unfold flipK
  have hl : ((A.take i).map not).length = i := by simp; omega
  rw [List.set_append_right _ _ (by omega), hl, Nat.sub_self, List.drop_eq_getElem_cons h, List.set_cons_zero, List.take_succ_eq_append_getElem h, List.map_append, List.append_assoc]
  rfl
theorem arr_set (L : List Bool) (rest : List Value) (i : Nat) (b : Bool) (h : i < L.length) : (L.map bb ++ rest).toArray.setIfInBounds i (bb b) = ((L.set i b).map bb ++ rest).toArray := by
  rw [List.setIfInBounds_toArray, List.set_append_left _ _ (by simpa using h), List.map_set]
theorem arr_at (L : List Bool) (rest : List Value) (i : Nat) (h : i < L.length) : (L.map bb ++ rest).toArray[i]? = some (bb L[i]) := by
  simp [List.getElem?_append_left, h]

set_option maxRecDepth 4000 in
set_option maxHeartbeats 1000000 in
theorem ref_bits (w : World) (l : List UInt8) (hl : l.length ≤ 10000) :
    Calls Tryd.prog 66 #[.string ⟨l.toArray⟩] w fun e w' => ∃ g c rest, e = .returned (.slice (some ⟨g, 0, none⟩) (8 * l.length + 32) c) ∧ Blk w' g 4 ((startBits l).map bb ++ rest).toArray ∧ Kept [] w w' ∧ w.heap.size ≤ g := by
  obtain ⟨i0, hi0, hz0, hz1, hz2⟩ := info_parts infoBool
  go_enter Tryd.func66, Tryd.ntmps66
  go_wp2_with fail
  go_loopw [3, 4] (fun v i W => ∃ (k : Nat) (Av : Option Addr) (cv : Nat), k ≤ l.length ∧ i = .int .i64 k ∧ v = .slice Av (8 * k) cv ∧ Hid (W.ownsRow w.heap.size 4 1 (.slice Av (8 * k) cv) (8 * k) ((bitsTo l k).map bb)) ∧ Hid (Kept [] w W)) (fun _ i _ => l.length - (intOf i).toNat)
  case atStart => exact ⟨0, none, 0, Nat.zero_le _, rfl, rfl, World.ownsRow_nil _ _ _ _, Kept.refl _ _⟩
  case round =>
    obtain ⟨k, Av, cv, hk, rfl, rfl, Hown, HK⟩ := hrel
    by_cases hlt : k < l.length
    · have hb : (⟨l.toArray⟩ : ByteArray)[k]'hlt = l[k] := rfl
      have HN := Lib.hid (bitsTo_succ l k hlt)
      have hb8 := UInt8.toNat_lt l[k]
      generalize l[k] = c at *
      go_wp2_with fail
      go_loopw [3, 5, 6] (fun v cvv i W => ∃ (j : Nat) (Av : Option Addr) (cv : Nat), j ≤ 8 ∧ i = .int .i64 j ∧ cvv = .int .u8 ((c.toNat / 2 ^ j : Nat) : Int) ∧ v = .slice Av (8 * k + j) cv ∧ Hid (W.ownsRow w.heap.size 4 1 (.slice Av (8 * k + j) cv) (8 * k + j) ((bitsTo l k ++ someBits c j).map bb)) ∧ Hid (Kept [] w W)) (fun _ _ i _ => 8 - (intOf i).toNat)
      case atStart => exact ⟨0, Av, cv, Nat.zero_le _, rfl, by simp, rfl, by simpa [Hid, someBits] using Hown.out, HK.out⟩
      case round =>
        obtain ⟨j, Aw, cw, hj, rfl, rfl, rfl, Hown2, HK2⟩ := hrel
        by_cases hlt2 : j < 8
        · have HS := Lib.hid (someBits_succ c j hlt2)
          have hdv : c.toNat / 2 ^ j / 2 = c.toNat / 2 ^ (j + 1) := by rw [Nat.div_div_eq_div_mul, Nat.pow_succ]
          have Hdv := Lib.hid hdv
          have hm8 : c.toNat / 2 ^ j < 256 := Nat.lt_of_le_of_lt (Nat.div_le_self _ _) hb8
          clear hdv
          generalize c.toNat / 2 ^ j = m at *
          have hsz := HK2.out.size
          have hown := Hown2.out
          rcases (show (m : Int) % 2 = 1 ∨ (m : Int) % 2 = 0 by omega) with hm2 | hm2
          · have HV : Hid (decide (m % 2 = 1) = true) := by simp [Hid]; omega
            go_wp2_with (at_builtin; refine wpList_append_lies _ rfl (.tmp 22) (.tmp 26) _ rfl w.heap.size 4 i0 _ 1 1 Tryd.underlying101 hi0 hz0 hz1 hz2 rfl (by omega) _ _ _ rfl (hown.alloc _) ⟨wr.heap.size, 0, none⟩ 1 1 [bb true] rfl rfl (World.news_of_block (cs := #[bb true]) (t := 4) (fr := (0, 0)) (heap_alloc_new wr _)) (by simp [bb, Value.oneCell']) (by omega) (by simp only [maxLen]; omega) (by omega) (by simp; omega) _ rfl ?_; intro gg cap w2 hown2 hgrow hat hlt3)
            go_roundw
            case rel =>
              have hk2 : Kept (Value.slice Aw (8 * k + j) cw).ownBlock.toList wr w2 := ((Kept.refl _ wr).alloc _).grown hgrow (fun x hx => .inl (by rw [Option.mem_toList]; exact hx))
              refine ⟨j + 1, _, _, by omega, by go_num, ?_, rfl, ?_, HK2.out.trans' hk2 (fun x hx => .inr ((hown.lt x (by simpa using hx)).1))⟩
              · rw [← Hdv.out]; simp
              · rw [Hid, HS.out, HV.out, ← List.append_assoc, List.map_append]
                simpa [bb, ← Nat.add_assoc] using hown2
            case measure => simp [intOf]; omega
          · have HV : Hid (decide (m % 2 = 1) = false) := by simp [Hid]; omega
            go_wp2_with (at_builtin; refine wpList_append_lies _ rfl (.tmp 22) (.tmp 26) _ rfl w.heap.size 4 i0 _ 1 1 Tryd.underlying101 hi0 hz0 hz1 hz2 rfl (by omega) _ _ _ rfl (hown.alloc _) ⟨wr.heap.size, 0, none⟩ 1 1 [bb false] rfl rfl (World.news_of_block (cs := #[bb false]) (t := 4) (fr := (0, 0)) (heap_alloc_new wr _)) (by simp [bb, Value.oneCell']) (by omega) (by simp only [maxLen]; omega) (by omega) (by simp; omega) _ rfl ?_; intro gg cap w2 hown2 hgrow hat hlt3)
            go_roundw
            case rel =>
              have hk2 : Kept (Value.slice Aw (8 * k + j) cw).ownBlock.toList wr w2 := ((Kept.refl _ wr).alloc _).grown hgrow (fun x hx => .inl (by rw [Option.mem_toList]; exact hx))
              refine ⟨j + 1, _, _, by omega, by go_num, ?_, rfl, ?_, HK2.out.trans' hk2 (fun x hx => .inr ((hown.lt x (by simpa using hx)).1))⟩
              · rw [← Hdv.out]; simp
              · rw [Hid, HS.out, HV.out, ← List.append_assoc, List.map_append]
                simpa [bb, ← Nat.add_assoc] using hown2
            case measure => simp [intOf]; omega
        · obtain rfl : j = 8 := by omega
          have HS8 : Hid (someBits c 8 = byteBits c) := by rw [Hid, someBits, List.take_of_length_le (by rw [byteBits_len]; exact Nat.le_refl _)]
          go_wp2_with fail
          go_roundw
          case rel =>
            refine ⟨k + 1, Aw, cw, by omega, by go_num, rfl, ?_, HK2.out⟩
            have := Hown2.out
            rw [HS8.out, ← HN.out] at this
            exact this
          case measure => simp [intOf]; omega
    · obtain rfl : k = l.length := by omega
      have HD : Hid (bitsTo l l.length = dataBits l) := by rw [Hid, bitsTo, List.take_length]
      go_wp2_with fail
      go_loopw [3, 7] (fun v i W => ∃ (j : Nat) (Av : Option Addr) (cv : Nat), j ≤ 32 ∧ i = .int .i64 j ∧ v = .slice Av (8 * l.length + j) cv ∧ Hid (W.ownsRow w.heap.size 4 1 (.slice Av (8 * l.length + j) cv) (8 * l.length + j) ((dataBits l ++ List.replicate j false).map bb)) ∧ Hid (Kept [] w W)) (fun _ i _ => 32 - (intOf i).toNat)
      case atStart => exact ⟨0, Av, cv, Nat.zero_le _, rfl, rfl, by have := Hown.out; rw [HD.out] at this; simpa [Hid] using this, HK.out⟩
      case round =>
        obtain ⟨j, Aw, cw, hj, rfl, rfl, Hown2, HK2⟩ := hrel
        by_cases hlt2 : j < 32
        · have hsz := HK2.out.size
          have hown := Hown2.out
          go_wp2_with (at_builtin; refine wpList_append_lies _ rfl (.tmp 34) (.tmp 35) _ rfl w.heap.size 4 i0 _ 1 1 Tryd.underlying101 hi0 hz0 hz1 hz2 rfl (by omega) _ _ _ rfl (hown.alloc _) ⟨wr.heap.size, 0, none⟩ 1 1 [bb false] rfl rfl (World.news_of_block (cs := #[bb false]) (t := 4) (fr := (0, 0)) (heap_alloc_new wr _)) (by simp [bb, Value.oneCell']) (by omega) (by simp only [maxLen]; omega) (by omega) (by simp; omega) _ rfl ?_; intro gg cap w2 hown2 hgrow hat hlt3)
          go_roundw
          case rel =>
            have hk2 : Kept (Value.slice Aw (8 * l.length + j) cw).ownBlock.toList wr w2 := ((Kept.refl _ wr).alloc _).grown hgrow (fun x hx => .inl (by rw [Option.mem_toList]; exact hx))
            refine ⟨j + 1, _, _, by omega, by go_num, rfl, ?_, HK2.out.trans' hk2 (fun x hx => .inr ((hown.lt x (by simpa using hx)).1))⟩
            rw [Hid, List.replicate_succ', ← List.append_assoc, List.map_append]
            simpa [bb, ← Nat.add_assoc] using hown2
          case measure => simp [intOf]; omega
        · obtain rfl : j = 32 := by omega
          have hown := Hown2.out
          obtain ⟨g, cg, hv, _⟩ := own_some hown (by omega)
          injection hv with hv1 hv2 hv3
          subst hv1
          obtain ⟨rest, hblk, _, _, _⟩ := own_blk hown
          have hge := (hown.lt g rfl).1
          have HB0 : Hid (Blk wr g 4 ((flipK (allBits l) 0).map bb ++ rest).toArray) := by simpa [Hid, flipK, allBits] using hblk
          have hal : (allBits l).length = 8 * l.length + 32 := by simp [allBits, dataBits_len]
          have HS : Hid (flipK (allBits l) 32 = startBits l) := rfl
          clear hown hblk hv3
          generalize allBits l = A at *
          go_wp2_with fail
          go_loopw [8] (fun i W => ∃ k : Nat, k ≤ 32 ∧ i = .int .i64 k ∧ Hid (Blk W g 4 ((flipK A k).map bb ++ rest).toArray) ∧ Hid (Kept [] w W)) (fun i _ => 32 - (intOf i).toNat)
          case atStart => exact ⟨0, Nat.zero_le _, rfl, HB0.out, HK2.out⟩
          case round =>
            obtain ⟨k, hk, rfl, HB, HK3⟩ := hrel
            by_cases hlt : k < 32
            · have hkA : k < A.length := by omega
              have hc := HB.out.cell k
              rw [arr_at _ _ _ (by rw [flipK_len]; exact hkA), flipK_at A k hkA] at hc
              have hf := HB.out.frozen k
              have HT := Lib.hid (flipK_set A k hkA)
              have HU := Lib.hid (fun b => arr_set (flipK A k) rest k b (by rw [flipK_len]; exact hkA))
              generalize A[k] = x at *
              simp only [bb] at hc
              go_wp2_with fail
              go_roundw
              case rel =>
                have hs2 := HB.out.set_ k (bb (!x))
                rw [HU.out, HT.out] at hs2
                exact ⟨k + 1, by omega, by go_num, hs2, HK3.out.setCell (.inr hge) _⟩
              case measure => simp [intOf]; omega
            · obtain rfl : k = 32 := by omega
              go_wp2_with fail
              go_ret
              exact ⟨g, cw, rest, rfl, by rw [← HS.out]; exact HB.out, HK3.out, hge⟩
end Go.Proofs.YtcjdkanmbafjmaaDoor
