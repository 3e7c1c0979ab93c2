/- Extents: Right, Free. -/
import Derived.Test.YtkbldbcjpdfopaaExA
namespace Go.Proofs.Ytkbldbcjpdfopaa
open Go.RowKit

theorem ext_in (n : Int) (w : World) : Calls Try.prog 19 #[.int .i64 n] w fun e w' => e = .returned (.bool (inB n)) ∧ w = w' := by
  by_cases h0 : 0 ≤ n
  · by_cases h1 : n ≤ 1048576
    · have hr : Hid (inB n = true) := by simp [Hid, inB, h0, h1]
      go_enter Try.func19, Try.ntmps19
      go_wp2_with fail
      go_ret
      exact ⟨by rw [hr.out]; rfl, rfl⟩
    · have hr : Hid (inB n = false) := by simp [Hid, inB, h1]
      go_enter Try.func19, Try.ntmps19
      go_wp2_with fail
      go_ret
      exact ⟨by rw [hr.out]; rfl, rfl⟩
  · have hr : Hid (inB n = false) := by simp [Hid, inB, h0]
    go_enter Try.func19, Try.ntmps19
    go_wp2_with fail
    go_ret
    exact ⟨by rw [hr.out]; rfl, rfl⟩
def wfX (x : Ex) : Prop := (-9223372036854775808 ≤ x.st ∧ x.st ≤ 9223372036854775807) ∧ (-9223372036854775808 ≤ x.len ∧ x.len ≤ 9223372036854775807)
def EAt (n₀ : Nat) (W : World) (A : Option Addr) (c : Nat) (l : List Ex) : Prop := W.ownsRow n₀ 23 2 (.slice A l.length c) l.length (l.flatMap exE)
theorem EAt.at_ {n₀ : Nat} {W : World} {A : Option Addr} {c : Nat} {l : List Ex} (h : EAt n₀ W A c l) {k : Nat} (hk : k < l.length) : ∃ b, A = some ⟨b, 0, none⟩ ∧ W.cell? ⟨b, k * 2, none⟩ = some (.int .i64 l[k].st) ∧ W.cell? ⟨b, k * 2 + 1, none⟩ = some (.int .i64 l[k].len) := by
  obtain ⟨b, _, e, _⟩ := own_some h (by omega)
  injection e with e _ e2
  subst e
  subst e2
  have h0 := own_cellS h (k * 2 + 0) (.int .i64 l[k].st) (by rw [flatMap_at 2 exE exE_len l k 0 hk (by omega)]; rfl)
  have h1 := own_cellS h (k * 2 + 1) (.int .i64 l[k].len) (by rw [flatMap_at 2 exE exE_len l k 1 hk (by omega)]; rfl)
  rw [Nat.zero_add] at h0 h1
  exact ⟨b, rfl, h0, h1⟩
set_option maxRecDepth 4000 in
set_option maxHeartbeats 4000000 in
theorem ext_Right (W : World) (n₀ : Nat) (r : Ex) (A : Option Addr) (c : Nat) (l : List Ex) (hn0 : n₀ ≤ W.heap.size) (hln : l.length ≤ 8796093022208) (hA : RdX n₀ W A l) (hl : ∀ x ∈ l, wfX x) :
    Calls Try.prog 12 #[exV r, .slice A l.length c] W fun e w' => e = .returned (.bool (rightB r l)) ∧ Kept [] W w' := by
  obtain ⟨rs, rl⟩ := r
  have K0 := (Kept.refl [] W).alloc (.cells #[.int .i64 rs, .int .i64 rl] 23)
  have HS := Lib.hid (ext_sorted (W.alloc (.cells #[.int .i64 rs, .int .i64 rl] 23)) n₀ A c l (Nat.le_trans hn0 K0.size) hln (hA.kept K0 hn0))
  have HB := Blk.new W 23 #[.int .i64 rs, .int .i64 rl]
  have HL := Lib.hid hl
  have hI1 := ext_in rs
  have hI2 := ext_in rl
  clear hA hl
  unfold exV
  by_cases h1 : inB rs = true
  · by_cases h2 : inB rl = true
    · have g1 := inB_iff.1 h1
      have g2 := inB_iff.1 h2
      have HR : Hid (inB rs = true ∧ inB rl = true) := ⟨h1, h2⟩
      replace h1 := Lib.hid h1
      replace h2 := Lib.hid h2
      replace hI1 := Lib.hid hI1
      replace hI2 := Lib.hid hI2
      replace K0 := Lib.hid K0
      replace HB := Lib.hid HB
      go_enter Try.func12, Try.ntmps12
      go_wp2_with fail
      refine (hI1.out _).mono ?_
      rintro e w1 ⟨rfl, rfl⟩
      rw [h1.out]
      go_wp2_with fail
      refine (hI2.out _).mono ?_
      rintro e w1 ⟨rfl, rfl⟩
      rw [h2.out]
      go_wp2_with fail
      refine HS.out.mono ?_
      rintro e w2 ⟨A1, c1, l', rfl, hp, hs, ho, k2⟩
      have hll : l'.length = l.length := hp.length_eq
      have HP := Lib.hid hp
      have HSo := Lib.hid hs
      have HO := Lib.hid ho
      have K2 := Lib.hid (K0.out.trans k2)
      have HB2 := Lib.hid (HB.out.kept k2 (fun h => by cases h))
      have HF : Hid (fitsL ⟨rs, rl⟩ rs l' = rightB ⟨rs, rl⟩ l) := by
        have e := (fits_right (r := ⟨rs, rl⟩) HSo.out HR.out).trans (rightX.perm HP.out)
        rw [← rightB_iff] at e
        rw [Hid, Bool.eq_iff_iff]
        exact e
      have HLx : Hid (∀ x ∈ l', wfX x) := fun x hx => HL.out x (HP.out.mem_iff.1 hx)
      clear hp hs ho k2 HS HB HL
      go_wp2_with fail
      go_loopw [5, 23] (fun a i V => ∃ (k : Nat) (at_ : Int), k ≤ l'.length ∧ i = .int .i64 k ∧ a = .int .i64 at_ ∧ (rs ≤ at_ ∧ at_ ≤ rs + rl) ∧ Hid (fitsL ⟨rs, rl⟩ rs l' = fitsL ⟨rs, rl⟩ at_ (l'.drop k)) ∧ Hid (Kept [] w2 V)) (fun _ i _ => l'.length - (intOf i).toNat)
      case atStart => exact ⟨0, rs, Nat.zero_le _, rfl, rfl, by omega, rfl, Kept.refl _ _⟩
      case round =>
        obtain ⟨k, at_, hk, rfl, rfl, hat, HE, HK⟩ := hrel
        have r0 : wr.cell? ⟨W.heap.size, 0, none⟩ = some (.int .i64 rs) := (HB2.out.kept HK.out (fun h => by cases h)).cell 0
        have r1 : wr.cell? ⟨W.heap.size, 1, none⟩ = some (.int .i64 rl) := (HB2.out.kept HK.out (fun h => by cases h)).cell 1
        by_cases hlt : k < l'.length
        · obtain ⟨b, rfl, d0, d1⟩ := EAt.at_ HO.out hlt
          have c0 := HK.out.cell d0 (fun h => by cases h)
          have c1 := HK.out.cell d1 (fun h => by cases h)
          have HD : Hid (l'.drop k = l'[k] :: l'.drop (k + 1)) := List.drop_eq_getElem_cons hlt
          have hw := HLx.out l'[k] (List.getElem_mem _)
          have hki : (k : Int) < (l'.length : Int) := by omega
          clear d0 d1
          generalize l'[k] = x at *
          obtain ⟨xs, xl⟩ := x
          obtain ⟨hw1, hw2⟩ := hw
          dsimp only at c0 c1 hw1 hw2
          have HE2 : Hid (rightB ⟨rs, rl⟩ l = (!badB ⟨rs, rl⟩ at_ ⟨xs, xl⟩ && fitsL ⟨rs, rl⟩ (xs + xl) (l'.drop (k + 1)))) := by
            rw [Hid, ← HF.out, HE.out, HD.out]
            rfl
          have q0 : (wr.alloc (.cells #[.int .i64 xs, .int .i64 xl] 23)).cell? ⟨W.heap.size, 0, none⟩ = some (.int .i64 rs) := ((Kept.refl [] wr).alloc _).cell r0 (fun h => by cases h)
          have q1 : (wr.alloc (.cells #[.int .i64 xs, .int .i64 xl] 23)).cell? ⟨W.heap.size, 1, none⟩ = some (.int .i64 rl) := ((Kept.refl [] wr).alloc _).cell r1 (fun h => by cases h)
          by_cases b1 : xl < 1
          · have HNo : Hid (rightB ⟨rs, rl⟩ l = false) := by rw [Hid, HE2.out]; simp [badB, b1]
            go_wp2_with fail
            go_ret
            rw [HNo.out]
            exact ⟨rfl, (K2.out.trans HK.out).alloc _⟩
          · by_cases b2 : xs < at_
            · have HNo : Hid (rightB ⟨rs, rl⟩ l = false) := by rw [Hid, HE2.out]; simp [badB, b2]
              go_wp2_with fail
              go_ret
              rw [HNo.out]
              exact ⟨rfl, (K2.out.trans HK.out).alloc _⟩
            · have w1 : IntKind.i64.wrap (xs - rs) = xs - rs := IntWalk.i64_in _ (by omega)
              by_cases b3 : rl < xs - rs
              · have HNo : Hid (rightB ⟨rs, rl⟩ l = false) := by rw [Hid, HE2.out]; simp [badB, b3]
                go_wp2_with fail
                go_ret
                rw [HNo.out]
                exact ⟨rfl, (K2.out.trans HK.out).alloc _⟩
              · have w2 : IntKind.i64.wrap (rl - (xs - rs)) = rl - (xs - rs) := IntWalk.i64_in _ (by omega)
                by_cases b4 : rl - (xs - rs) < xl
                · have HNo : Hid (rightB ⟨rs, rl⟩ l = false) := by rw [Hid, HE2.out]; simp [badB, b4]
                  go_wp2_with fail
                  go_ret
                  rw [HNo.out]
                  exact ⟨rfl, (K2.out.trans HK.out).alloc _⟩
                · have w3 : IntKind.i64.wrap (xs + xl) = xs + xl := IntWalk.i64_in _ (by omega)
                  have HE3 : Hid (fitsL ⟨rs, rl⟩ rs l' = fitsL ⟨rs, rl⟩ (xs + xl) (l'.drop (k + 1))) := by
                    rw [Hid, HF.out, HE2.out]
                    simp [badB, b1, b2, b3, b4]
                  have hat2 : rs ≤ xs + xl ∧ xs + xl ≤ rs + rl := by omega
                  go_wp2_with fail
                  go_roundw
                  case rel => exact ⟨k + 1, xs + xl, by omega, by go_num, rfl, hat2, HE3.out, HK.out.alloc _⟩
                  case measure => simp [intOf]; omega
        · obtain rfl : k = l'.length := by omega
          have HYes : Hid (rightB ⟨rs, rl⟩ l = true) := by
            rw [Hid, ← HF.out, HE.out, List.drop_length]
            rfl
          go_wp2_with fail
          go_ret
          rw [HYes.out]
          exact ⟨rfl, K2.out.trans HK.out⟩
    · have h2 : inB rl = false := by simpa using h2
      have HNo : Hid (rightB ⟨rs, rl⟩ l = false) := rightB_no fun h => by
        have := h.1.2
        dsimp only at this
        rw [h2] at this
        cases this
      replace h1 := Lib.hid h1
      replace h2 := Lib.hid h2
      replace hI1 := Lib.hid hI1
      replace hI2 := Lib.hid hI2
      replace K0 := Lib.hid K0
      go_enter Try.func12, Try.ntmps12
      go_wp2_with fail
      refine (hI1.out _).mono ?_
      rintro e w1 ⟨rfl, rfl⟩
      rw [h1.out]
      go_wp2_with fail
      refine (hI2.out _).mono ?_
      rintro e w1 ⟨rfl, rfl⟩
      rw [h2.out]
      go_wp2_with fail
      go_ret
      rw [HNo.out]
      exact ⟨rfl, K0.out⟩
  · have h1 : inB rs = false := by simpa using h1
    have HNo : Hid (rightB ⟨rs, rl⟩ l = false) := rightB_no fun h => by
      have := h.1.1
      dsimp only at this
      rw [h1] at this
      cases this
    replace h1 := Lib.hid h1
    replace hI1 := Lib.hid hI1
    replace hI2 := Lib.hid hI2
    replace K0 := Lib.hid K0
    go_enter Try.func12, Try.ntmps12
    go_wp2_with fail
    refine (hI1.out _).mono ?_
    rintro e w1 ⟨rfl, rfl⟩
    rw [h1.out]
    go_wp2_with fail
    go_ret
    rw [HNo.out]
    exact ⟨rfl, K0.out⟩
theorem sumL_take {l : List Ex} {k : Nat} (h : k < l.length) : sumL (l.take (k + 1)) = sumL (l.take k) + l[k].len := by
  rw [List.take_succ_eq_append_getElem h, sumL_append, sumL_cons]
  simp [sumL]
set_option maxRecDepth 4000 in
set_option maxHeartbeats 2000000 in
theorem ext_Free (W : World) (n₀ : Nat) (r : Ex) (A : Option Addr) (c : Nat) (l : List Ex) (hn0 : n₀ ≤ W.heap.size) (hln : l.length ≤ 8796093022208) (hA : RdX n₀ W A l) (hl : ∀ x ∈ l, wfX x) :
    Calls Try.prog 14 #[exV r, .slice A l.length c] W fun e w' => e = .returned (.int .i64 (freeX r l)) ∧ Kept [] W w' := by
  have K0 := (Kept.refl [] W).alloc (.cells #[.int .i64 r.st, .int .i64 r.len] 23)
  have HR := Lib.hid (ext_Right (W.alloc (.cells #[.int .i64 r.st, .int .i64 r.len] 23)) n₀ r A c l (Nat.le_trans hn0 K0.size) hln (hA.kept K0 hn0) hl)
  have HB := Lib.hid (Blk.new W 23 #[.int .i64 r.st, .int .i64 r.len])
  have HA := Lib.hid hA
  replace K0 := Lib.hid K0
  clear hA
  by_cases hr : rightX r l
  · have hb : Hid (rightB r l = true) := rightB_iff.2 hr
    have hf : Hid (freeX r l = r.len - sumL l) := if_pos hb.out
    have hsum := right_sum hr
    have h0 := inB_iff.1 hr.1.2
    have HPos : Hid (∀ k, k ≤ l.length → 0 ≤ sumL (l.take k) ∧ sumL (l.take k) ≤ sumL l) := fun k hk => by
      have e : sumL l = sumL (l.take k) + sumL (l.drop k) := by rw [← sumL_append, List.take_append_drop]
      have h1 := sumL_nonneg (l := l.take k) (fun x hx => (hr.2.1 x (List.mem_of_mem_take hx)).1)
      have h2 := sumL_nonneg (l := l.drop k) (fun x hx => (hr.2.1 x (List.mem_of_mem_drop hx)).1)
      omega
    clear hl hr
    obtain ⟨rs, rl⟩ := r
    dsimp only at HR HB K0 hf hsum h0
    unfold exV at HR ⊢
    dsimp only at HR ⊢
    go_enter Try.func14, Try.ntmps14
    go_wp2_with fail
    refine HR.out.mono ?_
    rintro e w1 ⟨rfl, k1⟩
    rw [hb.out]
    have HB1 := HB.out.kept k1 (fun h => by cases h)
    have r1 : w1.cell? ⟨W.heap.size, 1, none⟩ = some (.int .i64 rl) := HB1.cell 1
    have K1 := Lib.hid (K0.out.trans k1)
    clear k1 HB1 HR
    go_wp2_with fail
    go_loopw [5, 16] (fun a i V => ∃ k : Nat, k ≤ l.length ∧ i = .int .i64 k ∧ a = .int .i64 (rl - sumL (l.take k)) ∧ Hid (Kept [] w1 V)) (fun _ i _ => l.length - (intOf i).toNat)
    case atStart => exact ⟨0, Nat.zero_le _, rfl, by simp [sumL], Kept.refl _ _⟩
    case round =>
      obtain ⟨k, hk, rfl, rfl, HK⟩ := hrel
      by_cases hlt : k < l.length
      · obtain ⟨b, o, rfl, d0, d1⟩ := HA.out.at_ hlt
        have KK := K1.out.trans HK.out
        have c0 := KK.cell d0 (fun h => by cases h)
        have c1 := KK.cell d1 (fun h => by cases h)
        have HS := Lib.hid (sumL_take hlt)
        have p1 := HPos.out k hk
        have p2 := HPos.out (k + 1) hlt
        rw [HS.out] at p2
        have hki : (k : Int) < (l.length : Int) := by omega
        clear d0 d1 KK
        generalize l[k] = x at *
        obtain ⟨xs, xl⟩ := x
        dsimp only at c0 c1 HS p2
        generalize sumL (l.take k) = m at *
        have w1 : IntKind.i64.wrap (rl - m - xl) = rl - m - xl := IntWalk.i64_in _ (by omega)
        go_wp2_with fail
        go_roundw
        case rel => exact ⟨k + 1, by omega, by go_num, by rw [HS.out]; congr 1; omega, HK.out.alloc _⟩
        case measure => simp [intOf]; omega
      · obtain rfl : k = l.length := by omega
        rw [List.take_length]
        go_wp2_with fail
        go_ret
        rw [hf.out]
        exact ⟨rfl, K1.out.trans HK.out⟩
  · have hb : Hid (rightB r l = false) := rightB_no hr
    have hf : Hid (freeX r l = 0) := by
      rw [Hid, freeX, hb.out]
      rfl
    clear hl hr
    obtain ⟨rs, rl⟩ := r
    unfold exV at HR ⊢
    dsimp only at HR HB K0 hf ⊢
    go_enter Try.func14, Try.ntmps14
    go_wp2_with fail
    refine HR.out.mono ?_
    rintro e w1 ⟨rfl, k1⟩
    rw [hb.out]
    have K1 := Lib.hid (K0.out.trans k1)
    clear k1 HR
    go_wp2_with fail
    go_ret
    rw [hf.out]
    exact ⟨rfl, K1.out⟩
end Go.Proofs.Ytkbldbcjpdfopaa
