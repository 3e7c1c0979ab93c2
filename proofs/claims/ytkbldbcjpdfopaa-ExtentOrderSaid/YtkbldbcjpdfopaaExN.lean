/- Extents: the document's Right. -/
import Derived.Test.YtkbldbcjpdfopaaExM
namespace Go.Proofs.Ytkbldbcjpdfopaa
open Go.RowKit

theorem right_nil {r : Ex} (h : inB r.st = true ∧ inB r.len = true) : rightX r [] := ⟨h, fun _ hx => (by cases hx), List.Pairwise.nil⟩
theorem right_next {r : Ex} {l : List Ex} {k : Nat} (hk : k < l.length) (h : rightX r (l.take k)) (hw : withinP r l[k]) (ha : ∀ j, (hj : j < k) → apartP (l[j]'(Nat.lt_trans hj hk)) l[k]) : rightX r (l.take (k + 1)) := by
  rw [List.take_succ_eq_append_getElem hk]
  refine ⟨h.1, fun x hx => ?_, ?_⟩
  · rcases List.mem_append.1 hx with hx | hx
    · exact h.2.1 x hx
    · obtain rfl := List.mem_singleton.1 hx
      exact hw
  · rw [List.pairwise_append]
    refine ⟨h.2.2, List.pairwise_singleton _ _, fun a hat b hb => ?_⟩
    obtain rfl := List.mem_singleton.1 hb
    obtain ⟨j, hj, rfl⟩ := List.getElem_of_mem hat
    rw [List.getElem_take]
    exact ha j (by rw [List.length_take] at hj; omega)
theorem right_no_within {r x : Ex} {l : List Ex} (hx : x ∈ l) (h : ¬ withinP r x) : rightB r l = false := rightB_no fun h2 => h (h2.2.1 x hx)
theorem right_no_apart {r : Ex} {l : List Ex} {j k : Nat} (hk : k < l.length) (hj : j < k) (h : ¬ apartP (l[j]'(Nat.lt_trans hj hk)) l[k]) : rightB r l = false := rightB_no fun h2 => h (List.pairwise_iff_getElem.1 h2.2.2 j k (Nat.lt_trans hj hk) hk hj)
set_option maxRecDepth 4000 in
set_option maxHeartbeats 4000000 in
theorem ref_Right (W : World) (n₀ : Nat) (r : Ex) (A : Option Addr) (c : Nat) (l : List Ex) (hln : l.length ≤ 8796093022208) (hA : RdX n₀ W A l) (hl : ∀ x ∈ l, wfX x) :
    Calls Try.prog 13 #[exV r, .slice A l.length c] W fun e w' => e = .returned (.bool (rightB r l)) ∧ Kept [] W w' := by
  have K0 := Lib.hid ((Kept.refl [] W).alloc (.cells #[.int .i64 r.st, .int .i64 r.len] 23))
  have HB := Lib.hid (Blk.new W 23 #[.int .i64 r.st, .int .i64 r.len])
  have HA := Lib.hid hA
  have HL := Lib.hid hl
  have HS := fun w => ref_small r w
  clear hA hl
  by_cases hs : (inB r.st && inB r.len) = true
  · rw [hs] at HS
    rw [Bool.and_eq_true] at hs
    have g1 := inB_iff.1 hs.1
    have g2 := inB_iff.1 hs.2
    have HR : Hid (inB r.st = true ∧ inB r.len = true) := hs
    clear hs
    obtain ⟨rs, rl⟩ := r
    unfold exV at HS ⊢
    dsimp only at HS HB K0 HR g1 g2 ⊢
    have we : IntKind.i64.wrap (rs + rl) = rs + rl := IntWalk.i64_in _ (by omega)
    replace HS := Lib.hid HS
    go_enter Try.func13, Try.ntmps13
    go_wp2_with fail
    refine (HS.out _).mono ?_
    rintro e w1 ⟨rfl, k1⟩
    have K1 := Lib.hid (K0.out.trans k1)
    have HB1 := Lib.hid (HB.out.kept k1 (fun h => by cases h))
    clear k1 HB
    go_wp2_with fail
    go_loopw [6] (fun i V => ∃ k : Nat, k ≤ l.length ∧ i = .int .i64 k ∧ Hid (rightX ⟨rs, rl⟩ (l.take k)) ∧ Hid (Kept [] w1 V)) (fun i _ => l.length - (intOf i).toNat)
    case atStart => exact ⟨0, Nat.zero_le _, rfl, right_nil HR.out, Kept.refl _ _⟩
    case round =>
      obtain ⟨k, hk, rfl, HE, HK⟩ := hrel
      by_cases hlt : k < l.length
      · obtain ⟨b, o, rfl, d0, d1⟩ := HA.out.at_ hlt
        have KK := K1.out.trans HK.out
        have c0 := KK.cell d0 (fun h => by cases h)
        have c1 := KK.cell d1 (fun h => by cases h)
        have r0 : wr.cell? ⟨W.heap.size, 0, none⟩ = some (.int .i64 rs) := (HB1.out.kept HK.out (fun h => by cases h)).cell 0
        have r1 : wr.cell? ⟨W.heap.size, 1, none⟩ = some (.int .i64 rl) := (HB1.out.kept HK.out (fun h => by cases h)).cell 1
        have hw := HL.out l[k] (List.getElem_mem _)
        have hki : (k : Int) < (l.length : Int) := by omega
        have HNw : Hid (¬ withinP ⟨rs, rl⟩ l[k] → rightB ⟨rs, rl⟩ l = false) := right_no_within (List.getElem_mem _)
        have HNa : Hid (∀ j, (hj : j < k) → ¬ apartP (l[j]'(Nat.lt_trans hj hlt)) l[k] → rightB ⟨rs, rl⟩ l = false) := fun j hj => right_no_apart hlt hj
        have HNx : Hid (withinP ⟨rs, rl⟩ l[k] → (∀ j, (hj : j < k) → apartP (l[j]'(Nat.lt_trans hj hlt)) l[k]) → rightX ⟨rs, rl⟩ (l.take (k + 1))) := right_next hlt HE.out
        clear d0 d1
        generalize l[k] = x at *
        obtain ⟨xs, xl⟩ := x
        obtain ⟨hw1, hw2⟩ := hw
        dsimp only at c0 c1 hw1 hw2
        have q0 : (wr.alloc (.cells #[.int .i64 xs, .int .i64 xl] 23)).cell? ⟨W.heap.size, 0, none⟩ = some (.int .i64 rs) := ((Kept.refl [] wr).alloc _).cell r0 (fun h => by cases h)
        have q1 : (wr.alloc (.cells #[.int .i64 xs, .int .i64 xl] 23)).cell? ⟨W.heap.size, 1, none⟩ = some (.int .i64 rl) := ((Kept.refl [] wr).alloc _).cell r1 (fun h => by cases h)
        by_cases b1 : xl < 1
        · have HNo : Hid (rightB ⟨rs, rl⟩ l = false) := HNw.out (by unfold withinP; dsimp only; omega)
          go_wp2_with fail
          go_ret
          rw [HNo.out]
          exact ⟨rfl, KK.alloc _⟩
        · by_cases b2 : xs < rs
          · have HNo : Hid (rightB ⟨rs, rl⟩ l = false) := HNw.out (by unfold withinP; dsimp only; omega)
            go_wp2_with fail
            go_ret
            rw [HNo.out]
            exact ⟨rfl, KK.alloc _⟩
          · by_cases b3 : rs + rl ≤ xs
            · have HNo : Hid (rightB ⟨rs, rl⟩ l = false) := HNw.out (by unfold withinP; dsimp only; omega)
              go_wp2_with fail
              go_ret
              rw [HNo.out]
              exact ⟨rfl, KK.alloc _⟩
            · have w2 : IntKind.i64.wrap (rs + rl - xs) = rs + rl - xs := IntWalk.i64_in _ (by omega)
              by_cases b4 : rs + rl - xs < xl
              · have HNo : Hid (rightB ⟨rs, rl⟩ l = false) := HNw.out (by unfold withinP; dsimp only; omega)
                go_wp2_with fail
                go_ret
                rw [HNo.out]
                exact ⟨rfl, KK.alloc _⟩
              · have HW : Hid (withinP ⟨rs, rl⟩ ⟨xs, xl⟩) := ⟨by dsimp only; omega, by dsimp only; omega, by dsimp only; omega⟩
                have hx0 : 0 ≤ xs ∧ xs ≤ 4000000 ∧ 0 ≤ xl ∧ xl ≤ 4000000 := by omega
                have HBx := Lib.hid (Blk.new wr 23 #[.int .i64 xs, .int .i64 xl])
                have KA := Lib.hid (KK.alloc (.cells #[.int .i64 xs, .int .i64 xl] 23))
                have KB := Lib.hid (HK.out.alloc (.cells #[.int .i64 xs, .int .i64 xl] 23))
                have HTk : Hid (∀ x ∈ l.take k, withinP ⟨rs, rl⟩ x) := HE.out.2.1
                clear KK HNw
                go_wp2_with fail
                clear q0 q1 r0 r1 c0 c1
                generalize wr.heap.size = sx at *
                go_loopw [8] (fun i V => ∃ m : Nat, m ≤ k ∧ i = .int .i64 m ∧ Hid (∀ j, (hj : j < k) → j < m → apartP (l[j]'(Nat.lt_trans hj hlt)) ⟨xs, xl⟩) ∧ Hid (Kept [] (wr.alloc (.cells #[.int .i64 xs, .int .i64 xl] 23)) V)) (fun i _ => k - (intOf i).toNat)
                case atStart => exact ⟨0, Nat.zero_le _, rfl, fun j _ h => absurd h (Nat.not_lt_zero _), Kept.refl _ _⟩
                case round =>
                  obtain ⟨m, hm, rfl, HM, HJ⟩ := hrel
                  by_cases hmk : m < k
                  · have hml : m < l.length := Nat.lt_trans hmk hlt
                    obtain ⟨b', o', e', d0, d1⟩ := HA.out.at_ hml
                    injection e' with e'
                    injection e' with e1 e2
                    subst e1
                    subst e2
                    have KC := Lib.hid (KA.out.trans HJ.out)
                    have c0 := KC.out.cell d0 (fun h => by cases h)
                    have c1 := KC.out.cell d1 (fun h => by cases h)
                    have x0 := (HBx.out.kept HJ.out (fun h => by cases h)).cell 0
                    have x1 := (HBx.out.kept HJ.out (fun h => by cases h)).cell 1
                    have hmi : (m : Int) < (k : Int) := by omega
                    have hmi2 : (m : Int) < (l.length : Int) := by omega
                    have hyw : withinP ⟨rs, rl⟩ l[m] := HTk.out l[m] (by
                      rw [List.mem_take_iff_getElem]
                      exact ⟨m, by omega, rfl⟩)
                    have HNa2 : Hid (¬ apartP l[m] ⟨xs, xl⟩ → rightB ⟨rs, rl⟩ l = false) := HNa.out m hmk
                    have HM2 : Hid (apartP l[m] ⟨xs, xl⟩ → ∀ j, (hj : j < k) → j < m + 1 → apartP (l[j]'(Nat.lt_trans hj hlt)) ⟨xs, xl⟩) := fun ha j hj hjm => by
                      rcases Nat.lt_or_ge j m with h | h
                      · exact HM.out j hj h
                      · obtain rfl : j = m := by omega
                        exact ha
                    clear d0 d1
                    generalize l[m] = y at *
                    obtain ⟨ys, yl⟩ := y
                    unfold withinP at hyw
                    dsimp only at c0 c1 hyw
                    have hy0 : 0 ≤ ys ∧ ys ≤ 4000000 ∧ 0 ≤ yl ∧ yl ≤ 4000000 := by omega
                    have HAp := Lib.hid (fun w => ref_apart ⟨ys, yl⟩ ⟨xs, xl⟩ w hy0 hx0)
                    by_cases hap : apartP ⟨ys, yl⟩ ⟨xs, xl⟩
                    · rw [decide_eq_true hap] at HAp
                      replace hap := Lib.hid hap
                      clear hx0 hy0
                      unfold exV at HAp
                      dsimp only at HAp
                      go_wp2_with fail
                      go_region_held3 (fun V => V.cell? ⟨b, o + m * 2, none⟩ = some (.int .i64 ys) ∧ V.cell? ⟨b, o + m * 2 + 1, none⟩ = some (.int .i64 yl) ∧ V.cell? ⟨sx, 0, none⟩ = some (.int .i64 xs) ∧ V.cell? ⟨sx, 1, none⟩ = some (.int .i64 xl)) (first | exact ⟨c0, c1, x0, x1⟩ | exact ⟨kk.cell c0 (fun h => by cases h), kk.cell c1 (fun h => by cases h), kk.cell x0 (fun h => by cases h), kk.cell x1 (fun h => by cases h)⟩ | go_keep) (first | (go_at_call 22; refine (HAp.out _).mono ?_; rintro e w3 ⟨rfl, k3⟩; have kk : Kept [] wr w3 := ((Kept.refl [] wr).drew).trans k3))
                      go_wp2_with fail
                      go_roundw
                      case rel => exact ⟨m + 1, by omega, by go_num, HM2.out hap.out, HJ.out.trans kk⟩
                      case measure => simp [intOf]; omega
                    · rw [decide_eq_false hap] at HAp
                      replace hap := Lib.hid hap
                      clear hx0 hy0
                      unfold exV at HAp
                      dsimp only at HAp
                      go_wp2_with fail
                      go_region_held3 (fun V => V.cell? ⟨b, o + m * 2, none⟩ = some (.int .i64 ys) ∧ V.cell? ⟨b, o + m * 2 + 1, none⟩ = some (.int .i64 yl) ∧ V.cell? ⟨sx, 0, none⟩ = some (.int .i64 xs) ∧ V.cell? ⟨sx, 1, none⟩ = some (.int .i64 xl)) (first | exact ⟨c0, c1, x0, x1⟩ | exact ⟨kk.cell c0 (fun h => by cases h), kk.cell c1 (fun h => by cases h), kk.cell x0 (fun h => by cases h), kk.cell x1 (fun h => by cases h)⟩ | go_keep) (first | (go_at_call 22; refine (HAp.out _).mono ?_; rintro e w3 ⟨rfl, k3⟩; have kk : Kept [] wr w3 := ((Kept.refl [] wr).drew).trans k3))
                      go_wp2_with fail
                      go_ret
                      rw [(HNa2.out hap.out)]
                      exact ⟨rfl, KC.out.trans kk⟩
                  · obtain rfl : m = k := by omega
                    have HX2 : Hid (rightX ⟨rs, rl⟩ (l.take (m + 1))) := HNx.out HW.out (fun j hj => HM.out j hj hj)
                    go_wp2_with fail
                    go_roundw
                    case rel => exact ⟨m + 1, by omega, by go_num, HX2.out, KB.out.trans HJ.out⟩
                    case measure => simp [intOf]; omega
      · obtain rfl : k = l.length := by omega
        have HYes : Hid (rightB ⟨rs, rl⟩ l = true) := by
          have h := HE.out
          rw [List.take_length] at h
          exact rightB_iff.2 h
        go_wp2_with fail
        go_ret
        rw [HYes.out]
        exact ⟨rfl, K1.out.trans HK.out⟩
  · have hs : (inB r.st && inB r.len) = false := by simpa using hs
    rw [hs] at HS
    have HNo : Hid (rightB r l = false) := rightB_no fun h => by
      rw [h.1.1, h.1.2] at hs
      cases hs
    clear hs
    obtain ⟨rs, rl⟩ := r
    unfold exV at HS ⊢
    dsimp only at HS HB K0 ⊢
    replace HS := Lib.hid HS
    go_enter Try.func13, Try.ntmps13
    go_wp2_with fail
    refine (HS.out _).mono ?_
    rintro e w1 ⟨rfl, k1⟩
    have K1 := Lib.hid (K0.out.trans k1)
    clear k1 HB
    go_wp2_with fail
    go_ret
    rw [HNo.out]
    exact ⟨rfl, K1.out⟩
end Go.Proofs.Ytkbldbcjpdfopaa
