/- One number again and again: slices.Repeat. -/
import Derived.Test.YtfidgmpeiabhiaaTbE
import Derived.Test.YtfidgmpeiabhiaaShelf
import Derived.StillTailTactics
namespace Go.Proofs.Ytfidgmpeiabhiaa
open Go.RowKit

theorem infoI : (Try.prog.info? 3).map (fun i => (i.zero, i.size, i.bytes)) = some (some (.int .i64 0), 1, 8) := by kernel_rfl
/-- the first k of n -/
def filled (x : Int) (n k : Nat) : List Value := List.replicate k (iv x) ++ List.replicate (n - k) (iv 0)
theorem filled_len (x : Int) (n k : Nat) (h : k ≤ n) : (filled x n k).length = n := by
  simp [filled]
  omega
theorem filled_splice (x : Int) (n k m : Nat) (h : k + m ≤ n) : splice (filled x n k) k (List.replicate m (iv x)) = filled x n (k + m) := by
  unfold splice filled
  rw [List.length_replicate, List.take_append_of_le_length (by simp), List.take_of_length_le (by simp), List.drop_append, List.drop_eq_nil_of_le (by simp), List.nil_append, List.drop_replicate, List.length_replicate]
  rw [← List.append_assoc, List.replicate_append_replicate]
  congr 2
  omega
theorem rep_copy (W w1 : World) (b n : Nat) (x : Int) (h : W.cell? ⟨b, 0, none⟩ = some (iv x)) (hown1 : w1.ownsRow 0 3 1 (.slice (some ⟨W.heap.size, 0, none⟩) n n) n (madeCells (Value.int IntKind.i64 0).cells (n * 1)).toList) (hgrow1 : W.grownBy w1 none) (hn : n ≤ 1048576) :
    ∃ w2, (Builtin.copy_ #[26, 26] 3 #[.slice (some ⟨W.heap.size, 0, none⟩) n n, .slice (some ⟨b, 0, none⟩) 1 1]).run Try.prog w1 = .ok (goInt ((min 1 n : Nat) : Int)) w2 ∧ Blk w2 W.heap.size 3 (filled x n (min 1 n)).toArray ∧ Kept [] W w2 := by
  have hk1 := (Kept.refl [] W).grown hgrow1 (fun _ h => by cases h)
  have hb1 : Blk w1 W.heap.size 3 (filled x n 0).toArray := by
    obtain ⟨r1, hb1, hl1, hr1, _⟩ := own_blk hown1
    obtain rfl : r1 = [] := List.eq_nil_of_length_eq_zero (by omega)
    simp only [Value.cells, toList_madeCells_one, List.append_nil, Nat.mul_one] at hb1
    exact hb1
  have hsrc := hk1.cell h (fun h => by cases h)
  obtain ⟨w2, hr, hb2, hk2⟩ := (run_copy_sl (P := Try.prog) w1 26 26 3 3 Try.underlying26 (by kernel_rfl) (some ⟨W.heap.size, 0, none⟩) n n (some ⟨b, 0, none⟩) 1 1 W.heap.size 0 3 (filled x n 0) hb1 (List.replicate (min 1 n) (iv x)) (by intro v hv; rw [List.eq_of_mem_replicate hv]; rfl) (by simp)
    (fun b' o' e j v hv => by
      injection e with e
      injection e with e1 e2 _
      subst e1
      subst e2
      have hj := (List.getElem?_eq_some_iff.1 hv).1
      rw [List.length_replicate] at hj
      obtain rfl : j = 0 := by omega
      rw [List.getElem?_replicate_of_lt (by omega)] at hv
      injection hv with hv
      rw [← hv]
      exact hsrc) (fun _ => ⟨b, 0, rfl⟩) (fun _ => rfl) (by rw [filled_len x n 0 (by omega), List.length_replicate]; omega))
  rw [List.length_replicate] at hr
  have hs := filled_splice x n 0 (min 1 n) (by omega)
  rw [Nat.zero_add] at hs
  rw [hs] at hb2
  exact ⟨w2, hr, hb2, hk1.trans' hk2 (fun z hz => .inr (by simp at hz; omega))⟩
theorem rep_more (V : World) (g n k : Nat) (x : Int) (h : Blk V g 3 (filled x n k).toArray) (hk : k ≤ n) :
    ∃ w2, (Builtin.copy_ #[26, 26] 3 #[.slice (some ⟨g, k, none⟩) (n - k) (n - k), .slice (some ⟨g, 0, none⟩) k n]).run Try.prog V = .ok (goInt ((min k (n - k) : Nat) : Int)) w2 ∧ Blk w2 g 3 (filled x n (k + min k (n - k))).toArray ∧ Kept [g] V w2 := by
  obtain ⟨w2, hr, hb2, hk2⟩ := (run_copy_sl (P := Try.prog) V 26 26 3 3 Try.underlying26 (by kernel_rfl) (some ⟨g, k, none⟩) (n - k) (n - k) (some ⟨g, 0, none⟩) k n g k 3 (filled x n k) h (List.replicate (min k (n - k)) (iv x)) (by intro v hv; rw [List.eq_of_mem_replicate hv]; rfl) (by simp)
    (fun b' o' e j v hv => by
      injection e with e
      injection e with e1 e2 _
      subst e1
      subst e2
      have hj := (List.getElem?_eq_some_iff.1 hv).1
      rw [List.length_replicate] at hj
      rw [List.getElem?_replicate_of_lt (by omega)] at hv
      injection hv with hv
      rw [← hv, h.cell, Nat.zero_add]
      simp only [filled, List.getElem?_toArray]
      rw [List.getElem?_append_left (by simp; omega), List.getElem?_replicate_of_lt (by omega)]) (fun _ => ⟨g, 0, rfl⟩) (fun _ => rfl) (by rw [filled_len x n k hk, List.length_replicate]; omega))
  rw [List.length_replicate] at hr
  rw [filled_splice x n k _ (by omega)] at hb2
  exact ⟨w2, hr, hb2, hk2⟩
theorem step_copy {P : Program} {w : World} {ops : Array Oper} {o : Oper} {a : Act} {K : Act → World → Prop} {Q : Exit → Act → World → Prop} {E : Prop} (hgd : o.guard = none) (d s : Operand) (dT sT : TypeId)
    (ho : o.op = .call { callee := .builtin .copy, args := #[d, s], argTypes := #[dT, sT] }) (vd vs : Value) (hd : a.eval d = vd) (hs : a.eval s = vs) (n : Int) {R : World → Prop}
    (hrun : ∃ w', (Builtin.copy_ #[dT, sT] o.type #[vd, vs]).run P w = .ok (goInt n) w' ∧ R w') (h : ∀ w', R w' → K (a.put o.dst (goInt n)) w') : if Region.wanted o (yielded ops a.tmps) = true then Oper.wp P o a w K Q else E := by
  have hw : Region.wanted o (yielded ops a.tmps) = true := by simp [Region.wanted, hgd]
  rw [if_pos hw]
  obtain ⟨w', hr, hR⟩ := hrun
  unfold Oper.wp
  simp [execOp, ho, resolve, invoke, builtin, hd, hs, hr, Result.andThen]
  exact h w' hR
theorem own_up {w : World} {base e size n : Nat} {v : Value} {xs : List Value} (h : w.ownsRow 0 e size v n xs) (hb : ∀ k, v.ownBlock = some k → base ≤ k) : w.ownsRow base e size v n xs := by
  refine ⟨h.1, ?_⟩
  rcases h.2 with h2 | ⟨g, cap, cur, rfl, _, h3⟩
  · exact .inl h2
  · exact .inr ⟨g, cap, cur, rfl, hb g rfl, h3⟩
set_option maxRecDepth 4000 in
set_option maxHeartbeats 2000000 in
theorem slices_Repeat (W : World) (b n : Nat) (x : Int) (h : W.cell? ⟨b, 0, none⟩ = some (iv x)) (hn : n ≤ 1048576) :
    Calls Try.prog 23 #[.slice (some ⟨b, 0, none⟩) 1 1, .int .i64 n] W fun e w' => ∃ v, e = .returned v ∧ w'.ownsRow W.heap.size 3 1 v n ((List.replicate n x).map iv) ∧ Kept [] W w' := by
  obtain ⟨i0, p0, p1, p2, p3⟩ := info_parts infoI
  replace p0 := Lib.hid p0
  replace p1 := Lib.hid p1
  replace p2 := Lib.hid p2
  replace p3 := Lib.hid p3
  have hbl := block_lt_of_cell h
  have e1 : ((1 * n / 18446744073709551616 : Nat) : Int) = 0 := by
    have : 1 * n / 18446744073709551616 = 0 := Nat.div_eq_of_lt (by omega)
    omega
  have e2 : ((1 * n % 18446744073709551616 : Nat) : Int) = n := by
    have : 1 * n % 18446744073709551616 = n := by
      rw [Nat.mod_eq_of_lt (by omega)]
      omega
    omega
  replace e1 := Lib.hid e1
  replace e2 := Lib.hid e2
  have HC := Lib.hid h
  have hM := Lib.hid (fun (w : World) => Try.bits_Mul 1 n (by omega) (by omega) w)
  clear h
  go_enter Try.func23, Try.ntmps23
  have hni : ¬ (n : Int) < 0 := by omega
  go_wp2_with fail
  refine (hM.out _).mono ?_
  rintro e w1 ⟨rfl, hw1⟩
  obtain rfl := hw1.symm
  have hlim : ¬ (9223372036854775807 : Int) < (n : Int) := by omega
  rw [e1.out, e2.out]
  have hnw : IntKind.i64.wrap (n : Int) = (n : Int) := IntWalk.i64_in _ (by omega)
  go_wp2_with (first | (at_make; refine wpList_make_full _ rfl (.tmp 29) (.tmp 29) 26 rfl 0 3 i0 _ 1 Try.underlying26 p0.out p1.out p2.out .i64 .i64 _ _ n rfl rfl (by rfl) (by rfl) (by rw [p3.out]; omega) (by simp only [maxLen]; omega) (by omega) ?_; intro w1 hown1 hgrow1; have hcopy := Lib.hid (rep_copy W w1 b n x HC.out hown1 hgrow1 hn); clear hown1 hgrow1) | (refine wpList_copy_run (o := ⟨some 33, _, _, _, _, _⟩) rfl (.tmp 31) (.tmp 32) _ _ rfl _ _ rfl rfl ((min 1 n : Nat) : Int) (R := fun w2 => Blk w2 W.heap.size 3 (filled x n (min 1 n)).toArray ∧ Kept [] W w2) ?_ ?_; (next => exact hcopy.out); rintro w2 ⟨hb2, hk2⟩; have HB2 := Lib.hid hb2; have HK2 := Lib.hid hk2; clear hb2 hk2 hcopy))
  go_loopw [8] (fun i V => ∃ k : Nat, k ≤ n ∧ (0 < n → 0 < k) ∧ i = .int .i64 k ∧ Hid (Blk V W.heap.size 3 (filled x n k).toArray) ∧ Hid (Kept [] W V)) (fun i _ => n - (intOf i).toNat)
  case atStart => exact ⟨min 1 n, by omega, by omega, rfl, HB2, HK2⟩
  case round =>
    obtain ⟨k, hk, hk0, rfl, HB, HK⟩ := hrel
    by_cases hlt : k < n
    · have hki : (k : Int) < (n : Int) := by omega
      have hnk : ¬ n = k := by omega
      have hcp := rep_more wr.drew W.heap.size n k x HB.out hk
      have hk2 : ((k + min k (n - k) : Nat) : Int) = (k : Int) + ((min k (n - k) : Nat) : Int) := by omega
      have hle : k + min k (n - k) ≤ n := by omega
      have hpos : 0 < min k (n - k) := by omega
      obtain ⟨m, hm⟩ : ∃ m, Hid (min k (n - k) = m) := ⟨_, Lib.hid rfl⟩
      rw [hm.out] at hcp hk2 hle hpos
      replace hcp := Lib.hid hcp
      replace hk2 := Lib.hid hk2
      have hwm : IntKind.i64.wrap ((k : Int) + (m : Int)) = (k : Int) + (m : Int) := IntWalk.i64_in _ (by omega)
      go_wp2_with fail
      go_region_law (refine step_copy rfl (.tmp 41) (.tmp 44) 26 26 rfl _ _ rfl rfl (m : Int) (R := fun w2 => Blk w2 W.heap.size 3 (filled x n (k + m)).toArray ∧ Kept [W.heap.size] wr.drew w2) ?_ ?_; (next => simp [Act.eval, Act.put]; exact hcp.out); rintro w2 ⟨hb2, hkk2⟩)
      simp only [List.getElem_toArray, List.getElem_cons_zero, List.getElem_cons_succ, Act.put, List.setIfInBounds_toArray, List.set_cons_succ, List.set_cons_zero]
      go_wp2_with fail
      go_roundw
      case rel => exact ⟨k + m, hle, by omega, by rw [hk2.out], hb2, HK.out.drew.trans' hkk2 (fun z hz => .inr (by simp at hz; omega))⟩
      case measure => simp [intOf]; omega
    · obtain rfl : k = n := by omega
      go_wp2_with fail
      go_ret
      refine ⟨_, rfl, ?_, HK.out⟩
      have h5 := blk_own (xs := (List.replicate k x).map iv) (rest := []) (n := k) (c := k) (e := 3) (by
        have h6 := HB.out
        simp only [filled, Nat.sub_self, List.replicate_zero, List.append_nil] at h6
        rw [List.map_replicate, List.append_nil]
        exact h6) (by simp) (by simp) (by simp only [maxLen]; omega)
      exact own_up h5 (fun j hj => by cases hj; exact Nat.le_refl _)
end Go.Proofs.Ytfidgmpeiabhiaa
