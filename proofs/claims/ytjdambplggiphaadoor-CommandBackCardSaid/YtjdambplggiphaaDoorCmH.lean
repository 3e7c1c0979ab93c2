/- Commands: the document's Print. -/
import Derived.Test.YtjdambplggiphaaDoorCmG
namespace Go.Proofs.YtjdambplggiphaaDoor
open Go.RowKit Go.Lib

def PrintPost (c : Cm) (w : World) (e : Ending) (w' : World) : Prop := e = .returned (.tuple #[.string ⟨((printL c).getD []).toArray⟩, .int .i64 (if (printL c).isSome then 0 else 1)]) ∧ Kept [] w w'
theorem PrintPost.no {c : Cm} {w w' : World} (h : printL c = none) (k : Kept [] w w') : PrintPost c w (.returned (.tuple #[.string ⟨([] : Bs).toArray⟩, .int .i64 1])) w' := by
  unfold PrintPost
  rw [h]
  exact ⟨rfl, k⟩
theorem PrintPost.yes {c : Cm} {s : Bs} {w w' : World} (h : printL c = some s) (k : Kept [] w w') : PrintPost c w (.returned (.tuple #[.string ⟨s.toArray⟩, .int .i64 0])) w' := by
  unfold PrintPost
  rw [h]
  exact ⟨rfl, k⟩
theorem print_no_form {c : Cm} (h : frm c.op = none) : printL c = none := by
  unfold printL
  rw [h]
  rfl
theorem print_no_bound {c : Cm} (h : boundC c = false) : printL c = none := by
  rw [← print_eq]
  unfold printD
  cases frm c.op with
  | none => rfl
  | some f =>
    refine if_neg ?_
    rw [h]
    rintro ⟨h1, _⟩
    cases h1
theorem print_no_plain {c : Cm} {f : Bs} (h : frm c.op = some f) (hp : plainL c f ≠ c) : printL c = none := by
  rw [← print_eq]
  unfold printD
  rw [h]
  exact if_neg fun h2 => hp h2.2
theorem print_yes {c : Cm} {f : Bs} (h : frm c.op = some f) (hb : boundC c = true) (hp : plainL c f = c) : printL c = some (textL c f) := by
  rw [← print_eq]
  unfold printD
  rw [h]
  exact if_pos ⟨hb, hp⟩
theorem join_snoc : ∀ {l : List Bs} (w : Bs), l ≠ [] → joinL (l ++ [w]) = joinL l ++ 32 :: w
  | [], _, h => absurd rfl h
  | [x], w, _ => rfl
  | x :: y :: t, w, _ => by
    show x ++ 32 :: joinL (y :: t ++ [w]) = (x ++ 32 :: joinL (y :: t)) ++ 32 :: w
    rw [join_snoc w (fun h => by cases h)]
    simp
def partL (c : Cm) (f : Bs) (k : Nat) : Bs := joinL (c.op :: (f.take k).map (wordL c))
theorem part_zero (c : Cm) (f : Bs) : partL c f 0 = c.op := rfl
theorem part_next {c : Cm} {f : Bs} {k : Nat} (h : k < f.length) : partL c f (k + 1) = partL c f k ++ 32 :: wordL c f[k] := by
  unfold partL
  rw [List.take_succ_eq_append_getElem h, List.map_append, ← List.cons_append]
  exact join_snoc _ (fun h => by cases h)
theorem part_all (c : Cm) (f : Bs) : partL c f f.length = textL c f := by
  unfold partL
  rw [List.take_length]
  rfl
theorem plain_next {c : Cm} {f : Bs} {k : Nat} (h : k < f.length) : plainL c (f.take (k + 1)) = (if f[k] = 105 then { plainL c (f.take k) with id := c.id } else if f[k] = 97 then { plainL c (f.take k) with at_ := c.at_ } else if f[k] = 110 then { plainL c (f.take k) with n := c.n } else { plainL c (f.take k) with data := c.data }) := by
  unfold plainL
  rw [List.take_succ_eq_append_getElem h, List.foldl_append]
  rfl
theorem form_letters {op f : Bs} (h : frm op = some f) : ∀ x ∈ f, x = 105 ∨ x = 97 ∨ x = 110 ∨ x = 100 := by
  rcases frm_cases h with ⟨_, rfl⟩ | ⟨_, rfl⟩ | ⟨_, rfl⟩ | ⟨_, rfl⟩ | ⟨_, rfl⟩ | ⟨_, rfl⟩ <;> simp
theorem form_op {op f : Bs} (h : frm op = some f) : op.length ≤ 6 := by
  rcases frm_cases h with ⟨rfl, _⟩ | ⟨rfl, _⟩ | ⟨rfl, _⟩ | ⟨rfl, _⟩ | ⟨rfl, _⟩ | ⟨rfl, _⟩ <;> decide
theorem hexL_len (s : Bs) : (hexL s).length ≤ 2 * s.length + 1 := by
  unfold hexL
  split
  · simp
  · rw [hex_len]
    omega
theorem blank_app (a b : Bs) : (⟨a.toArray⟩ : ByteArray) ++ ⟨#[32]⟩ ++ ⟨b.toArray⟩ = ⟨(a ++ 32 :: b).toArray⟩ := by
  apply ByteArray.ext
  rw [ByteArray.data_append, ByteArray.data_append]
  simp
set_option maxRecDepth 4000 in
set_option maxHeartbeats 8000000 in
theorem ref_Print (c : Cm) (w : World) (hs : c.op.length ≤ 1000000 ∧ c.data.length ≤ 1000000) : Calls Tryd.prog 8 #[cmV c] w (PrintPost c w) := by
  have HNo := Lib.hid (fun w' (h : printL c = none) (k : Kept [] w w') => PrintPost.no h k)
  have HYes := Lib.hid (fun w' s (h : printL c = some s) (k : Kept [] w w') => PrintPost.yes h k)
  have HNF := Lib.hid (print_no_form (c := c))
  have HNB := Lib.hid (print_no_bound (c := c))
  have HNP := Lib.hid (fun f => print_no_plain (c := c) (f := f))
  have HPY := Lib.hid (fun f => print_yes (c := c) (f := f))
  have K0 := Lib.hid ((Kept.refl [] w).alloc (.cells (cmC c) 23))
  have B0 := Lib.hid (Blk.new w 23 (cmC c))
  have HForm := Lib.hid (fun w => ref_form c.op w)
  unfold FormPost at HForm
  have HHex := Lib.hid (fun w => ref_Hex c.data w hs.2)
  generalize PrintPost c w = Q at *
  cases hf : frm c.op with
  | none =>
    have hn := Lib.hid (HNF.out hf)
    obtain ⟨op, id, at_, n, data⟩ := c
    unfold cmV
    unfold cmC at K0 B0
    dsimp only at K0 B0 HForm hf ⊢
    rw [hf] at HForm
    have c0 := B0.out.cell 0
    simp only [List.getElem?_toArray, List.getElem?_cons_zero, List.getElem?_cons_succ] at c0
    clear hf
    go_enter Tryd.func8, Tryd.ntmps8
    go_wp2_with fail
    refine (HForm.out _).mono ?_
    rintro e w2 ⟨rfl, rfl⟩
    go_wp2_with fail
    exact HNo.out _ hn.out K0.out
  | some f =>
    have hf3 := form_len hf
    have HLt := Lib.hid (form_letters hf)
    have hop := form_op hf
    have HP1 := Lib.hid (fun k (h : k < f.length) => part_next (c := c) h)
    have HP2 := Lib.hid (fun k (h : k < f.length) => plain_next (c := c) h)
    have HPA := Lib.hid (part_all c f)
    have hp0 := Lib.hid (part_zero c f)
    have hq0 : Hid (plainL c (f.take 0) = ⟨c.op, 0, 0, 0, []⟩) := rfl
    have HNP := Lib.hid (HNP.out f hf)
    have HPY := Lib.hid (HPY.out f hf)
    have HFm : Hid (∀ w, Calls Tryd.prog 16 #[.string ⟨c.op.toArray⟩] w fun e w' => e = .returned (.tuple #[.string ⟨f.toArray⟩, .bool true]) ∧ w = w') := fun w => (HForm.out w).mono (fun e w' h => by
      rw [hf] at h
      exact h)
    have HC0 : Hid (∀ k v, (cmC c)[k]? = some v → (w.alloc (.cells (cmC c) 23)).cell? ⟨w.heap.size, k, none⟩ = some v) := fun k v h => by rw [B0.out.cell k]; exact h
    clear HForm hf HNF
    by_cases hb : boundC c = true
    · have hb2 : (0 ≤ c.id ∧ c.id ≤ 2147483647) ∧ (0 ≤ c.at_ ∧ c.at_ ≤ 2147483647) ∧ (0 ≤ c.n ∧ c.n ≤ 2147483647) := by
        unfold boundC at hb
        rw [Bool.and_eq_true, Bool.and_eq_true] at hb
        exact ⟨inM_iff.1 hb.1, inM_iff.1 hb.2.1, inM_iff.1 hb.2.2⟩
      have HPY := Lib.hid (HPY.out hb)
      have HFi : Hid (∀ n : Int, 0 ≤ n → n ≤ 2147483647 → ∀ w, Calls Tryd.prog 17 #[.int .i64 n] w fun e w' => e = .returned (.string ⟨(itoa n).toArray⟩) ∧ Kept [] w w') := fun n h0 h1 w => by
        obtain ⟨v, rfl⟩ := Int.eq_ofNat_of_zero_le h0
        rw [itoa_nat]
        exact ref_Figures v (by omega) w
      have HFl : Hid (∀ n : Int, 0 ≤ n → n ≤ 2147483647 → (itoa n).length ≤ 10) := fun n h0 h1 => by
        obtain ⟨v, rfl⟩ := Int.eq_ofNat_of_zero_le h0
        rw [itoa_nat]
        exact dec_len 9 v (by omega)
      have HHl := Lib.hid (hexL_len c.data)
      have HWi : Hid (wordL c 105 = itoa c.id) := rfl
      have HWa : Hid (wordL c 97 = itoa c.at_) := rfl
      have HWn : Hid (wordL c 110 = itoa c.n) := rfl
      have HWd : Hid (wordL c 100 = hexL c.data) := rfl
      clear hb HNB
      generalize hc : c = cc at *
      obtain ⟨op, id, at_, n, data⟩ := cc
      unfold cmV
      unfold cmC at K0 B0
      dsimp only at K0 B0 HFm HHex hop hs hb2 HWi HWa HWn HWd HHl hp0 hq0 HP2 ⊢
      have c0 := B0.out.cell 0
      have c1 := B0.out.cell 1
      have c2 := B0.out.cell 2
      have c3 := B0.out.cell 3
      simp only [List.getElem?_toArray, List.getElem?_cons_zero, List.getElem?_cons_succ] at c0 c1 c2 c3
      clear HC0 hc
      obtain ⟨⟨i0, i1⟩, ⟨t0, t1⟩, ⟨n0, n1⟩⟩ := hb2
      have a1 : ¬ id < 0 := by omega
      have a2 : ¬ at_ < 0 := by omega
      have a3 : ¬ n < 0 := by omega
      have a4 : ¬ 2147483647 < id := by omega
      have a5 : ¬ 2147483647 < at_ := by omega
      have a6 : ¬ 2147483647 < n := by omega
      go_enter Tryd.func8, Tryd.ntmps8
      go_wp2_with fail
      refine (HFm.out _).mono ?_
      rintro e w2 ⟨rfl, rfl⟩
      go_wp2_with fail
      go_loopw [7, 9] (fun o i V => ∃ (k : Nat) (L : Bs) (p : Cm), k ≤ f.length ∧ L.length ≤ 6 + k * 2000003 ∧ i = .int .i64 k ∧ o = .string ⟨L.toArray⟩ ∧ Hid (L = partL ⟨op, id, at_, n, data⟩ f k) ∧ Hid (p = plainL ⟨op, id, at_, n, data⟩ (f.take k)) ∧ Hid (Blk V (w.heap.size + 1) 23 (cmC p)) ∧ Hid (Kept [] (w.alloc (.cells #[.string ⟨op.toArray⟩, .int .i64 id, .int .i64 at_, .int .i64 n, .string ⟨data.toArray⟩] 23)) V)) (fun _ i _ => f.length - (intOf i).toNat)
      case atStart => exact ⟨0, op, ⟨op, 0, 0, 0, []⟩, Nat.zero_le _, by omega, rfl, rfl, hp0.out.symm, hq0.out.symm, Lib.hid (blk_new' (by simp)), Lib.hid ((Kept.refl [] _).alloc _)⟩
      case round =>
        obtain ⟨k, L, p, hk, hLl, rfl, rfl, HL, HQ, H8, HK⟩ := hrel
        have C1 := Lib.hid (B0.out.kept HK.out (fun h => by cases h))
        have KR := Lib.hid (K0.out.trans HK.out)
        obtain ⟨pop, pid, pat, pn, pdata⟩ := p
        by_cases hlt : k < f.length
        · have hki : (k : Int) < (f.length : Int) := by omega
          have hwk2 : IntKind.i64.wrap ((k : Int) + 1) = (k : Int) + 1 := IntWalk.i64_in _ (by omega)
          rcases HLt.out f[k] (List.getElem_mem _) with hx | hx | hx | hx
          · have hx : f[k] = 105 := hx
            have hbn : (⟨f.toArray⟩ : ByteArray)[k]'hlt = 105 := hx
            have HL2 : Hid (partL ⟨op, id, at_, n, data⟩ f (k + 1) = L ++ 32 :: itoa id) := by rw [Hid, HP1.out k hlt, hx, HWi.out, HL.out]
            have HQ2 : Hid (plainL ⟨op, id, at_, n, data⟩ (f.take (k + 1)) = ⟨pop, id, pat, pn, pdata⟩) := by
              rw [Hid, HP2.out k hlt, hx, ← HQ.out]
              rfl
            clear hx
            have hln := HFl.out id i0 i1
            have q1 : L.length + 1 ≤ 9223372036854775807 := by omega
            have q2 : L.length + 1 + (itoa id).length ≤ 9223372036854775807 := by omega
            have hla := blank_app L (itoa id)
            have c0 := C1.out.cell 1
            have f0 := H8.out.frozen 1
            have e0 := H8.out.cell 1
            unfold cmC at e0
            simp only [List.getElem?_toArray, List.getElem?_cons_zero, List.getElem?_cons_succ] at c0 e0
            have kS : Kept [] (w.alloc (.cells #[.string ⟨op.toArray⟩, .int .i64 id, .int .i64 at_, .int .i64 n, .string ⟨data.toArray⟩] 23)) (wr.setCell ⟨w.heap.size + 1, 1, none⟩ (.int .i64 id)) := HK.out.setCell (.inr (by simp)) _
            have HS := Lib.hid (H8.out.set_ 1 (.int .i64 id))
            replace kS := Lib.hid kS
            go_wp2_with fail
            refine (HFi.out id i0 i1 _).mono ?_
            rintro e w5 ⟨rfl, k5⟩
            have K5 := Lib.hid (kS.out.trans k5)
            have H5 := Lib.hid (HS.out.kept k5 (fun h => by cases h))
            clear k5 c0 e0 f0
            go_wp2_with fail
            go_roundw
            case rel => exact ⟨k + 1, L ++ 32 :: itoa id, ⟨pop, id, pat, pn, pdata⟩, by omega, by rw [List.length_append, List.length_cons]; omega, by go_num, by rw [← blank_app], HL2.out.symm, HQ2.out.symm, H5, K5⟩
            case measure => simp [intOf]; omega
          · have hx : f[k] = 97 := hx
            have hbn : (⟨f.toArray⟩ : ByteArray)[k]'hlt = 97 := hx
            have HL2 : Hid (partL ⟨op, id, at_, n, data⟩ f (k + 1) = L ++ 32 :: itoa at_) := by rw [Hid, HP1.out k hlt, hx, HWa.out, HL.out]
            have HQ2 : Hid (plainL ⟨op, id, at_, n, data⟩ (f.take (k + 1)) = ⟨pop, pid, at_, pn, pdata⟩) := by
              rw [Hid, HP2.out k hlt, hx, ← HQ.out]
              rfl
            clear hx
            have hln := HFl.out at_ t0 t1
            have q1 : L.length + 1 ≤ 9223372036854775807 := by omega
            have q2 : L.length + 1 + (itoa at_).length ≤ 9223372036854775807 := by omega
            have hla := blank_app L (itoa at_)
            have c0 := C1.out.cell 2
            have f0 := H8.out.frozen 2
            have e0 := H8.out.cell 2
            unfold cmC at e0
            simp only [List.getElem?_toArray, List.getElem?_cons_zero, List.getElem?_cons_succ] at c0 e0
            have kS : Kept [] (w.alloc (.cells #[.string ⟨op.toArray⟩, .int .i64 id, .int .i64 at_, .int .i64 n, .string ⟨data.toArray⟩] 23)) (wr.setCell ⟨w.heap.size + 1, 2, none⟩ (.int .i64 at_)) := HK.out.setCell (.inr (by simp)) _
            have HS := Lib.hid (H8.out.set_ 2 (.int .i64 at_))
            replace kS := Lib.hid kS
            go_wp2_with fail
            refine (HFi.out at_ t0 t1 _).mono ?_
            rintro e w5 ⟨rfl, k5⟩
            have K5 := Lib.hid (kS.out.trans k5)
            have H5 := Lib.hid (HS.out.kept k5 (fun h => by cases h))
            clear k5 c0 e0 f0
            go_wp2_with fail
            go_roundw
            case rel => exact ⟨k + 1, L ++ 32 :: itoa at_, ⟨pop, pid, at_, pn, pdata⟩, by omega, by rw [List.length_append, List.length_cons]; omega, by go_num, by rw [← blank_app], HL2.out.symm, HQ2.out.symm, H5, K5⟩
            case measure => simp [intOf]; omega
          · have hx : f[k] = 110 := hx
            have hbn : (⟨f.toArray⟩ : ByteArray)[k]'hlt = 110 := hx
            have HL2 : Hid (partL ⟨op, id, at_, n, data⟩ f (k + 1) = L ++ 32 :: itoa n) := by rw [Hid, HP1.out k hlt, hx, HWn.out, HL.out]
            have HQ2 : Hid (plainL ⟨op, id, at_, n, data⟩ (f.take (k + 1)) = ⟨pop, pid, pat, n, pdata⟩) := by
              rw [Hid, HP2.out k hlt, hx, ← HQ.out]
              rfl
            clear hx
            have hln := HFl.out n n0 n1
            have q1 : L.length + 1 ≤ 9223372036854775807 := by omega
            have q2 : L.length + 1 + (itoa n).length ≤ 9223372036854775807 := by omega
            have hla := blank_app L (itoa n)
            have c0 := C1.out.cell 3
            have f0 := H8.out.frozen 3
            have e0 := H8.out.cell 3
            unfold cmC at e0
            simp only [List.getElem?_toArray, List.getElem?_cons_zero, List.getElem?_cons_succ] at c0 e0
            have kS : Kept [] (w.alloc (.cells #[.string ⟨op.toArray⟩, .int .i64 id, .int .i64 at_, .int .i64 n, .string ⟨data.toArray⟩] 23)) (wr.setCell ⟨w.heap.size + 1, 3, none⟩ (.int .i64 n)) := HK.out.setCell (.inr (by simp)) _
            have HS := Lib.hid (H8.out.set_ 3 (.int .i64 n))
            replace kS := Lib.hid kS
            go_wp2_with fail
            refine (HFi.out n n0 n1 _).mono ?_
            rintro e w5 ⟨rfl, k5⟩
            have K5 := Lib.hid (kS.out.trans k5)
            have H5 := Lib.hid (HS.out.kept k5 (fun h => by cases h))
            clear k5 c0 e0 f0
            go_wp2_with fail
            go_roundw
            case rel => exact ⟨k + 1, L ++ 32 :: itoa n, ⟨pop, pid, pat, n, pdata⟩, by omega, by rw [List.length_append, List.length_cons]; omega, by go_num, by rw [← blank_app], HL2.out.symm, HQ2.out.symm, H5, K5⟩
            case measure => simp [intOf]; omega
          · have hx : f[k] = 100 := hx
            have hbn : (⟨f.toArray⟩ : ByteArray)[k]'hlt = 100 := hx
            have HL2 : Hid (partL ⟨op, id, at_, n, data⟩ f (k + 1) = L ++ 32 :: hexL data) := by rw [Hid, HP1.out k hlt, hx, HWd.out, HL.out]
            have HQ2 : Hid (plainL ⟨op, id, at_, n, data⟩ (f.take (k + 1)) = ⟨pop, pid, pat, pn, data⟩) := by
              rw [Hid, HP2.out k hlt, hx, ← HQ.out]
              rfl
            clear hx
            have hln := HHl.out
            have q1 : L.length + 1 ≤ 9223372036854775807 := by omega
            have q2 : L.length + 1 + (hexL data).length ≤ 9223372036854775807 := by omega
            have hla := blank_app L (hexL data)
            have c0 := C1.out.cell 4
            have f0 := H8.out.frozen 4
            have e0 := H8.out.cell 4
            unfold cmC at e0
            simp only [List.getElem?_toArray, List.getElem?_cons_zero, List.getElem?_cons_succ] at c0 e0
            have kS : Kept [] (w.alloc (.cells #[.string ⟨op.toArray⟩, .int .i64 id, .int .i64 at_, .int .i64 n, .string ⟨data.toArray⟩] 23)) (wr.setCell ⟨w.heap.size + 1, 4, none⟩ (.string ⟨data.toArray⟩)) := HK.out.setCell (.inr (by simp)) _
            have HS := Lib.hid (H8.out.set_ 4 (.string ⟨data.toArray⟩))
            replace kS := Lib.hid kS
            go_wp2_with fail
            refine (HHex.out _).mono ?_
            rintro e w5 ⟨rfl, k5⟩
            replace k5 := Dr.kept k5
            have K5 := Lib.hid (kS.out.trans k5)
            have H5 := Lib.hid (HS.out.kept k5 (fun h => by cases h))
            clear k5 c0 e0 f0
            go_wp2_with fail
            go_roundw
            case rel => exact ⟨k + 1, L ++ 32 :: hexL data, ⟨pop, pid, pat, pn, data⟩, by omega, by rw [List.length_append, List.length_cons]; omega, by go_num, by rw [← blank_app], HL2.out.symm, HQ2.out.symm, H5, K5⟩
            case measure => simp [intOf]; omega
        · obtain rfl : k = f.length := by omega
          have HLa : Hid (L = textL ⟨op, id, at_, n, data⟩ f) := HL.out.trans HPA.out
          have HQa : Hid ((⟨pop, pid, pat, pn, pdata⟩ : Cm) = plainL ⟨op, id, at_, n, data⟩ f) := by
            have h := HQ.out
            rwa [List.take_length] at h
          have c0 := C1.out.cell 0
          have c1 := C1.out.cell 1
          have c2 := C1.out.cell 2
          have c3 := C1.out.cell 3
          have c4 := C1.out.cell 4
          have e0 := H8.out.cell 0
          have e1 := H8.out.cell 1
          have e2 := H8.out.cell 2
          have e3 := H8.out.cell 3
          have e4 := H8.out.cell 4
          unfold cmC at e0 e1 e2 e3 e4
          simp only [List.getElem?_toArray, List.getElem?_cons_zero, List.getElem?_cons_succ] at c0 c1 c2 c3 c4 e0 e1 e2 e3 e4
          by_cases hpl : plainL ⟨op, id, at_, n, data⟩ f = ⟨op, id, at_, n, data⟩
          · have hy := Lib.hid (HPY.out hpl)
            have hpc : (⟨pop, pid, pat, pn, pdata⟩ : Cm) = ⟨op, id, at_, n, data⟩ := HQa.out.trans hpl
            injection hpc with q0 q1 q2 q3 q4
            subst q0 q1 q2 q3 q4
            clear hpl
            go_wp2_with fail
            rw [HLa.out]
            exact HYes.out _ _ hy.out KR.out
          · have hn := Lib.hid (HNP.out hpl)
            have hpc : ¬ (⟨pop, pid, pat, pn, pdata⟩ : Cm) = ⟨op, id, at_, n, data⟩ := fun h => hpl (HQa.out.symm.trans h)
            clear hpl
            go_wp2_with fail
            all_goals first
              | exact HNo.out _ hn.out KR.out
              | (exfalso; exact hpc (by simp only [*]))
    · have hn := Lib.hid (HNB.out (by simpa using hb))
      have hb' : ¬ ((0 ≤ c.id ∧ c.id ≤ 2147483647) ∧ (0 ≤ c.at_ ∧ c.at_ ≤ 2147483647) ∧ (0 ≤ c.n ∧ c.n ≤ 2147483647)) := fun h => hb (by
        unfold boundC
        rw [inM_iff.2 h.1, inM_iff.2 h.2.1, inM_iff.2 h.2.2]
        rfl)
      obtain ⟨op, id, at_, n, data⟩ := c
      unfold cmV
      unfold cmC at K0 B0
      dsimp only at K0 B0 HFm HHex hop hs ⊢
      have c0 := B0.out.cell 0
      have c1 := B0.out.cell 1
      have c2 := B0.out.cell 2
      have c3 := B0.out.cell 3
      simp only [List.getElem?_toArray, List.getElem?_cons_zero, List.getElem?_cons_succ] at c0 c1 c2 c3
      clear HC0
      clear hb
      dsimp only at hb'
      by_cases a1 : id < 0
      · clear hb'
        go_enter Tryd.func8, Tryd.ntmps8
        go_wp2_with fail
        refine (HFm.out _).mono ?_
        rintro e w2 ⟨rfl, rfl⟩
        go_wp2_with fail
        exact HNo.out _ hn.out K0.out
      · by_cases a2 : at_ < 0
        · clear hb'
          go_enter Tryd.func8, Tryd.ntmps8
          go_wp2_with fail
          refine (HFm.out _).mono ?_
          rintro e w2 ⟨rfl, rfl⟩
          go_wp2_with fail
          exact HNo.out _ hn.out K0.out
        · by_cases a3 : n < 0
          · clear hb'
            go_enter Tryd.func8, Tryd.ntmps8
            go_wp2_with fail
            refine (HFm.out _).mono ?_
            rintro e w2 ⟨rfl, rfl⟩
            go_wp2_with fail
            exact HNo.out _ hn.out K0.out
          · by_cases a4 : 2147483647 < id
            · clear hb'
              go_enter Tryd.func8, Tryd.ntmps8
              go_wp2_with fail
              refine (HFm.out _).mono ?_
              rintro e w2 ⟨rfl, rfl⟩
              go_wp2_with fail
              exact HNo.out _ hn.out K0.out
            · by_cases a5 : 2147483647 < at_
              · clear hb'
                go_enter Tryd.func8, Tryd.ntmps8
                go_wp2_with fail
                refine (HFm.out _).mono ?_
                rintro e w2 ⟨rfl, rfl⟩
                go_wp2_with fail
                exact HNo.out _ hn.out K0.out
              · have a6 : 2147483647 < n := by omega
                clear hb'
                go_enter Tryd.func8, Tryd.ntmps8
                go_wp2_with fail
                refine (HFm.out _).mono ?_
                rintro e w2 ⟨rfl, rfl⟩
                go_wp2_with fail
                exact HNo.out _ hn.out K0.out
end Go.Proofs.YtjdambplggiphaaDoor
