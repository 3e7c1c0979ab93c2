/- The program's octet: numbers' bytes, one behind the other. -/
import Derived.Test.YtcjdkanmbafjmaaDoorOctJ
namespace Go.Proofs.YtcjdkanmbafjmaaDoor
open Go.RowKit

theorem join_closure (n : Int) (w : World) : Calls Tryd.prog 27 #[.int .i64 n] w fun e w' => e = .returned (.bool (!sizeB n)) ∧ w = w' := by
  go_enter Tryd.func27, Tryd.ntmps27
  go_wp2_with fail
  refine (oct_right n w).mono ?_
  rintro e w' ⟨rfl, rfl⟩
  go_wp2_with fail
  go_ret
  exact ⟨rfl, rfl⟩

set_option maxHeartbeats 1000000 in
theorem oct_IndexFunc2 (w : World) (A : Option Addr) (c : Nat) (zs : List Int) (h : Rd w w.heap.size 1 A zs.length (zs.map iv)) (hn : zs.length ≤ 1000000) :
    Calls Tryd.prog 43 #[.slice A zs.length c, .func (.func 27) #[] #[]] w fun e w' => (∃ r : Int, e = .returned (.int .i64 r) ∧ (0 ≤ r ↔ badB zs = true)) ∧ w = w' := by
  have HS : Hid (∀ k, (hk : k < zs.length) → ∃ b o, A = some ⟨b, o, none⟩ ∧ w.cell? ⟨b, o + k, none⟩ = some (.int .i64 zs[k])) := fun k hk => by
    obtain ⟨b, o, e, hb, hc⟩ := h.2 (by omega)
    exact ⟨b, o, e, hc k (iv zs[k]) (by simp [hk])⟩
  clear h
  go_enter Tryd.func43, Tryd.ntmps43
  go_wp2_with fail
  go_loop [8, 5] (fun i _ => ∃ k : Nat, k ≤ zs.length ∧ i = .int .i64 k ∧ Hid (∀ j, (hj : j < zs.length) → j < k → sizeB zs[j] = true)) (fun i _ => zs.length - (intOf i).toNat)
  case atStart => exact ⟨0, Nat.zero_le _, rfl, fun j _ hj => absurd hj (Nat.not_lt_zero _)⟩
  case round =>
    obtain ⟨k, hk, rfl, HJ⟩ := hrel
    by_cases hlt : k < zs.length
    · obtain ⟨b, o, rfl, hc⟩ := HS.out k hlt
      have HB : Hid (sizeB zs[k] = false → badB zs = true) := fun hs => by
        rw [badB, List.any_eq_true]
        exact ⟨zs[k], List.getElem_mem hlt, by rw [hs]; rfl⟩
      have HT : Hid (sizeB zs[k] = true → ∀ j, (hj : j < zs.length) → j < k + 1 → sizeB zs[j] = true) := fun hs j hj hjk => by
        rcases Nat.lt_or_ge j k with h1 | h1
        · exact HJ.out j hj h1
        · obtain rfl : j = k := by omega
          exact hs
      generalize zs[k] = z at *
      go_wp2_with fail
      refine (join_closure z w).mono ?_
      rintro e w' ⟨rfl, rfl⟩
      cases hs : sizeB z
      · go_wp2_with fail
        go_ret
        exact ⟨⟨_, rfl, by rw [HB.out hs]; simp⟩, rfl⟩
      · have HT2 := Lib.hid (HT.out hs)
        clear hs HT
        go_wp2_with fail
        go_round
        case rel => exact ⟨k + 1, by omega, by go_num, HT2.out⟩
        case measure => simp [intOf]; omega
    · obtain rfl : k = zs.length := by omega
      go_wp2_with fail
      go_ret
      refine ⟨⟨_, rfl, ?_⟩, rfl⟩
      have : badB zs = false := by
        rw [badB, List.any_eq_false]
        intro z hz
        obtain ⟨j, hj, rfl⟩ := List.getElem_of_mem hz
        rw [HJ.out j hj hj]; simp
      rw [this]; simp
theorem oct_Contains2 (w : World) (A : Option Addr) (c : Nat) (zs : List Int) (h : Rd w w.heap.size 1 A zs.length (zs.map iv)) (hn : zs.length ≤ 1000000) :
    Calls Tryd.prog 26 #[.slice A zs.length c, .func (.func 27) #[] #[]] w fun e w' => e = .returned (.bool (badB zs)) ∧ w = w' := by
  go_enter Tryd.func26, Tryd.ntmps26
  go_wp2_with fail
  refine (oct_IndexFunc2 w A c zs h hn).mono ?_
  rintro e w' ⟨⟨r, rfl, hr⟩, rfl⟩
  have hr := Lib.hid hr
  go_wp2_with fail
  go_ret
  refine ⟨?_, rfl⟩
  congr 2


/-- the i-th number's bytes, or the error -/
def putAt (zs : List Int) (l : List Nat) (i : Nat) : List UInt8 × Int := putL (l[i]?.getD 0) (zs[i]?.getD 0)
def fitB (zs : List Int) (l : List Nat) : Bool := (List.range l.length).all fun i => (putAt zs l i).2 == 0
def catL (zs : List Int) (l : List Nat) (k : Nat) : List UInt8 := ((List.range k).map fun i => (putAt zs l i).1).flatten
def joinL (zs : List Int) (l : List Nat) : List UInt8 × Int :=
  if zs.length ≠ l.length ∨ badB zs = true then ([], 1) else if fitB zs l = true then (catL zs l l.length, 0) else ([], 2)
theorem catL_succ (zs : List Int) (l : List Nat) (k : Nat) : catL zs l (k + 1) = catL zs l k ++ (putAt zs l k).1 := by
  unfold catL
  rw [List.range_succ, List.map_append, List.flatten_append]
  simp
theorem putL_len (n : Nat) (z : Int) : (putL n z).1.length ≤ 8 := by
  unfold putL
  split
  · simp
  · split
    · simp
    · rw [lowL_len]; omega
theorem putAt_len (zs : List Int) (l : List Nat) (i : Nat) : (putAt zs l i).1.length ≤ 8 := putL_len _ _
theorem catL_len (zs : List Int) (l : List Nat) : ∀ k, (catL zs l k).length ≤ 8 * k
  | 0 => by simp [catL]
  | k + 1 => by
    rw [catL_succ, List.length_append]
    have := catL_len zs l k
    have := putAt_len zs l k
    omega
theorem putL_err (n : Nat) (z : Int) (hz : 0 ≤ z ∧ z ≤ 8) (h : (putL n z).2 ≠ 0) : (putL n z).2 = 2 := by
  unfold putL at h ⊢
  rw [if_neg (by omega)] at h ⊢
  split
  · rfl
  · rename_i h2
    rw [if_neg h2] at h
    exact absurd rfl h
theorem putAt_eq (zs : List Int) (l : List Nat) (k : Nat) (h1 : k < zs.length) (h2 : k < l.length) : putAt zs l k = putL l[k] zs[k] := by
  simp [putAt, h1, h2]
theorem join_no (zs : List Int) (l : List Nat) (k : Nat) (h1 : zs.length = l.length) (h2 : badB zs = false) (hk : k < l.length) (h : (putAt zs l k).2 ≠ 0) : joinL zs l = ([], 2) := by
  rw [joinL, if_neg (by rw [h2]; simp [h1]), if_neg]
  intro hf
  rw [fitB, List.all_eq_true] at hf
  exact h (by simpa using hf k (by simpa using hk))
theorem join_yes (zs : List Int) (l : List Nat) (h1 : zs.length = l.length) (h2 : badB zs = false) (h : ∀ j, j < l.length → (putAt zs l j).2 = 0) : joinL zs l = (catL zs l l.length, 0) := by
  rw [joinL, if_neg (by rw [h2]; simp [h1]), if_pos]
  rw [fitB, List.all_eq_true]
  intro i hi
  simp [h i (by simpa using hi)]
theorem bld_kept {T e : TypeId} {B b : Nat} {bs : List Value} {w w' : World} (h : Lib.IsBuilder T e B b bs w) (k : Kept [] w w') : Lib.IsBuilder T e B b bs w' := by
  have go : ∀ p, Lib.BuilderAt T e B b p bs w → Lib.BuilderAt T e B b p bs w' := fun p h => by
    obtain ⟨hB, v, hb, hown, hne⟩ := h
    exact ⟨hB, v, k.heap hb (fun h => by cases h), k.owns hown (fun _ _ h => by cases h), hne⟩
  exact h.elim (fun x => .inl (go _ x)) (fun x => .inr (go _ x))

set_option maxRecDepth 4000 in
set_option maxHeartbeats 1000000 in
theorem oct_Join (w : World) (A B : Option Addr) (c d : Nat) (zs : List Int) (l : List Nat) (hA : Rd w w.heap.size 1 A zs.length (zs.map iv)) (hB : Rd w w.heap.size 1 B l.length (l.map uv)) (hn : zs.length ≤ 1000) (hm : l.length ≤ 1000) (h64 : ∀ n ∈ l, n < 18446744073709551616) :
    Calls Tryd.prog 13 #[.slice A zs.length c, .slice B l.length d] w fun e w' => e = .returned (.tuple #[.string ⟨(joinL zs l).1.toArray⟩, .int .i64 (joinL zs l).2]) ∧ Kept [] w w' := by
  have HS : Hid (∀ k, (hk : k < zs.length) → ∃ b o, A = some ⟨b, o, none⟩ ∧ w.cell? ⟨b, o + k, none⟩ = some (.int .i64 zs[k])) := fun k hk => by
    obtain ⟨b, o, e, hb, hc⟩ := hA.2 (by omega)
    exact ⟨b, o, e, hc k (iv zs[k]) (by simp [hk])⟩
  have HT : Hid (∀ k, (hk : k < l.length) → ∃ b o, B = some ⟨b, o, none⟩ ∧ w.cell? ⟨b, o + k, none⟩ = some (.int .u64 (l[k] : Int))) := fun k hk => by
    obtain ⟨b, o, e, hb, hc⟩ := hB.2 (by omega)
    exact ⟨b, o, e, hc k (uv l[k]) (by simp [hk])⟩
  have HA := Lib.hid hA
  have H64 := Lib.hid h64
  clear hA hB h64
  by_cases hlen : zs.length = l.length
  · cases hbad : badB zs
    · have Hlen := Lib.hid hlen
      have Hbad := Lib.hid hbad
      have hcon := oct_Contains2 w A c zs HA.out (by omega)
      rw [hlen] at hcon ⊢
      have Hcon := Lib.hid hcon
      clear hlen hcon
      go_enter Tryd.func13, Tryd.ntmps13
      go_wp2_with fail
      refine Hcon.out.mono ?_
      rintro e w' ⟨rfl, rfl⟩
      rw [hbad]
      clear hbad Hcon
      have HB0 : Hid (Lib.IsBuilder 59 5 w.heap.size w.heap.size (Lib.byteCells (catL zs l 0)) (w.alloc (.cells #[.pointer none, .slice none 0 0] 59))) :=
        .inl ⟨Nat.le_refl _, _, Blk.new w _ _, World.ownsRow_nil _ _ _ _, by simp [Value.ownBlock]⟩
      have HK0 : Hid (Kept [] w (w.alloc (.cells #[.pointer none, .slice none 0 0] 59))) := (Kept.refl [] w).alloc _
      go_wp2_with fail
      go_loopw [22] (fun i W => ∃ k : Nat, k ≤ l.length ∧ i = .int .i64 k ∧ Hid (Kept [] w W) ∧ Hid (Lib.IsBuilder 59 5 w.heap.size w.heap.size (Lib.byteCells (catL zs l k)) W) ∧ Hid (∀ j, j < k → (putAt zs l j).2 = 0)) (fun i _ => l.length - (intOf i).toNat)
      case atStart => exact ⟨0, Nat.zero_le _, rfl, HK0.out, HB0.out, fun j hj => absurd hj (Nat.not_lt_zero _)⟩
      case round =>
        obtain ⟨k, hk, rfl, HK, HB, HJ⟩ := hrel
        by_cases hlt : k < l.length
        · have hlt2 : k < zs.length := by rw [Hlen.out]; exact hlt
          obtain ⟨b, o, rfl, hc⟩ := HS.out k hlt2
          obtain ⟨b', o', rfl, hc'⟩ := HT.out k hlt
          have hc1 := HK.out.cell hc (fun h => by cases h)
          have hc2 := HK.out.cell hc' (fun h => by cases h)
          have HP := Lib.hid (putAt_eq zs l k hlt2 hlt)
          have hl64 := H64.out _ (List.getElem_mem hlt)
          have hz := good_of zs Hbad.out _ (List.getElem_mem hlt2)
          have Herr := Lib.hid (putL_err l[k] zs[k] hz)
          have Hno := Lib.hid (join_no zs l k Hlen.out Hbad.out hlt)
          have HC := Lib.hid (catL_succ zs l k)
          have hcl := catL_len zs l k
          have hpl := putL_len l[k] zs[k]
          rw [HP.out] at Hno HC
          clear hc hc' hz
          generalize l[k] = n at *
          generalize zs[k] = z at *
          go_wp2_with fail
          refine (oct_Put n z wr hl64).mono ?_
          rintro e w1 ⟨rfl, k1⟩
          have hb1 := bld_kept HB.out k1
          have hsz := (HK.out.trans k1).size
          by_cases h0 : (putL n z).2 = 0
          · have HJ2 : Hid (∀ j, j < k + 1 → (putAt zs l j).2 = 0) := fun j hj => by
              rcases Nat.lt_or_ge j k with h1 | h1
              · exact HJ.out j h1
              · obtain rfl : j = k := by omega
                rw [HP.out]; exact h0
            rw [h0]
            clear h0 Herr Hno
            generalize (putL n z).1 = p at *
            go_wp2_with fail
            refine (bld_write w.heap.size w.heap.size (Lib.byteCells (catL zs l k)) ⟨p.toArray⟩ w1 hb1 (by rw [Lib.byteCells_length]; show _ + p.length ≤ _; omega) hsz).mono ?_
            rintro e w2 ⟨rfl, hb2, hbel⟩
            go_wp2_with fail
            go_roundw
            case rel =>
              refine ⟨k + 1, by omega, by go_num, Kept.ofBelow ((HK.out.trans k1).toBelow.trans hbel), ?_, HJ2.out⟩
              rw [HC.out, Lib.byteCells_append]
              exact .inr hb2
            case measure => simp [intOf]; omega
          · have he := Herr.out h0
            have Hj : Hid (joinL zs l = ([], 2)) := Hno.out h0
            rw [he]
            generalize (putL n z).1 = p at *
            go_wp2_with fail
            go_ret2
            rw [Hj.out]
            exact ⟨rfl, HK.out.trans k1⟩
        · obtain rfl : k = l.length := by omega
          have Hy := Lib.hid (join_yes zs l Hlen.out Hbad.out HJ.out)
          have hsz := HK.out.size
          go_wp2_with fail
          refine (Tryd.Builder_String_any w.heap.size w.heap.size (catL zs l l.length) wr HB.out hsz).mono ?_
          rintro e w2 ⟨rfl, hbel⟩
          go_wp2_with fail
          go_ret2
          rw [Hy.out]
          exact ⟨rfl, Kept.ofBelow (HK.out.toBelow.trans hbel)⟩
    · have H : Hid (joinL zs l = ([], 1)) := by rw [Hid, joinL, if_pos (.inr hbad)]
      have hcon := oct_Contains2 w A c zs HA.out (by omega)
      rw [hlen] at hcon ⊢
      have Hcon := Lib.hid hcon
      clear hlen hcon
      go_enter Tryd.func13, Tryd.ntmps13
      go_wp2_with fail
      refine Hcon.out.mono ?_
      rintro e w' ⟨rfl, rfl⟩
      rw [hbad]
      go_wp2_with fail
      go_ret2
      rw [H.out]
      exact ⟨rfl, Kept.refl _ _⟩
  · have H : Hid (joinL zs l = ([], 1)) := by rw [Hid, joinL, if_pos (.inl hlen)]
    have hne : ¬ ((zs.length : Int) = (l.length : Int)) := by omega
    go_enter Tryd.func13, Tryd.ntmps13
    go_wp2_with fail
    go_ret2
    rw [H.out]
    exact ⟨rfl, Kept.refl _ _⟩
end Go.Proofs.YtcjdkanmbafjmaaDoor
