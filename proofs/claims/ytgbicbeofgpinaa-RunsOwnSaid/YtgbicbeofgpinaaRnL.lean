/- Exceptions in runs: whether two lists of lists are one; the live question. -/
import Derived.Test.YtgbicbeofgpinaaRnK
namespace Go.Proofs.Ytgbicbeofgpinaa
open Go.RowKit

theorem RnOk.rd {n₀ : Nat} {x : Rn} {W : World} (h : RnOk n₀ x W) : RdE W (some ⟨x.g, 0, none⟩) x.r := Rd.of_own h.1
set_option maxHeartbeats 1000000 in
theorem same_R (w : World) (A B : Option Addr) (ca cb n1 n2 : Nat) (xs ys : List Rn) (hA : w.ownsRow n1 22 1 (.slice A xs.length ca) xs.length (xs.map rnV)) (hB : w.ownsRow n2 22 1 (.slice B ys.length cb) ys.length (ys.map rnV))
    (hX : ∀ x ∈ xs, RnOk n1 x w) (hY : ∀ x ∈ ys, RnOk n2 x w) (hn : xs.length ≤ 1000000) (hm : ∀ x ∈ xs, x.r.length ≤ 1000000) :
    Calls Try.prog 11 #[.slice A xs.length ca, .slice B ys.length cb] w fun e w' => e = .returned (.bool (decide (xs.map (·.r) = ys.map (·.r)))) ∧ Dr w w' := by
  by_cases hl : xs.length = ys.length
  · have HA : Hid (∀ k, (hk : k < xs.length) → ∃ b, A = some ⟨b, 0, none⟩ ∧ w.cell? ⟨b, k, none⟩ = some (rnV xs[k]) ∧ RnOk n1 xs[k] w) := fun k hk => by
      obtain ⟨b, c, e, _⟩ := own_some hA (by omega)
      injection e with e _ e2
      subst e
      subst e2
      exact ⟨b, rfl, own_cell1 hA k _ (by simp [hk]), hX _ (List.getElem_mem _)⟩
    have HB : Hid (∀ k, (hk : k < ys.length) → ∃ b, B = some ⟨b, 0, none⟩ ∧ w.cell? ⟨b, k, none⟩ = some (rnV ys[k]) ∧ RnOk n2 ys[k] w) := fun k hk => by
      obtain ⟨b, c, e, _⟩ := own_some hB (by omega)
      injection e with e _ e2
      subst e
      subst e2
      exact ⟨b, rfl, own_cell1 hB k _ (by simp [hk]), hY _ (List.getElem_mem _)⟩
    have HL := Lib.hid hl
    have HM := Lib.hid hm
    rw [← hl]
    clear hA hB hl hX hY hm
    go_enter Try.func11, Try.ntmps11
    go_wp2_with fail
    go_loopw [5] (fun i W => ∃ k : Nat, k ≤ xs.length ∧ i = .int .i64 k ∧ Hid ((xs.map (·.r)).take k = (ys.map (·.r)).take k) ∧ Hid (Dr w W)) (fun i _ => xs.length - (intOf i).toNat)
    case atStart => exact ⟨0, Nat.zero_le _, rfl, rfl, Dr.refl _⟩
    case round =>
      obtain ⟨k, hk, rfl, HE, HK⟩ := hrel
      by_cases hlt : k < xs.length
      · have hltb : k < ys.length := HL.out ▸ hlt
        obtain ⟨b, rfl, h0, h1⟩ := HA.out k hlt
        obtain ⟨b', rfl, h2, h3⟩ := HB.out k hltb
        have c0 := HK.out.kept.cell h0 (fun h => by cases h)
        have c2 := HK.out.kept.cell h2 (fun h => by cases h)
        have k1 := h1.kept HK.out.kept (fun h => by cases h)
        have k3 := h3.kept HK.out.kept (fun h => by cases h)
        have HTa := Lib.hid (List.take_succ_eq_append_getElem (l := xs.map (·.r)) (by simpa using hlt))
        have HTb := Lib.hid (List.take_succ_eq_append_getElem (l := ys.map (·.r)) (by simpa using hltb))
        have hmm := HM.out xs[k] (List.getElem_mem _)
        have HNE : Hid (xs[k].r ≠ ys[k].r → decide (xs.map (·.r) = ys.map (·.r)) = false) := fun h => by
          rw [decide_eq_false_iff_not]
          intro e
          apply h
          have e1 : (xs.map (·.r))[k]? = some xs[k].r := by simp [hlt]
          have e2 : (ys.map (·.r))[k]? = some ys[k].r := by simp [hltb]
          rw [e, e2] at e1
          injection e1 with e1
          exact e1.symm
        simp only [List.getElem_map] at HTa HTb
        clear h0 h1 h2 h3
        obtain ⟨ax, hax⟩ : ∃ ax, Hid (xs[k] = ax) := ⟨_, Lib.hid rfl⟩
        obtain ⟨bx, hbx⟩ : ∃ bx, Hid (ys[k] = bx) := ⟨_, Lib.hid rfl⟩
        rw [hax.out] at c0 k1 HTa hmm HNE
        rw [hbx.out] at c2 k3 HTb HNE
        have hi : (k : Int) < (xs.length : Int) := by omega
        have hd1 := Lib.hid k1.rd
        have hd3 := Lib.hid k3.rd
        dsimp only [rnV] at c0 c2
        clear k1 k3
        by_cases ho : ax.r = bx.r
        · have hb := Lib.hid (decide_eq_true ho)
          replace ho := Lib.hid ho
          go_wp2_with fail
          go_quiet ((go_at_call 12; exact Calls.quiet_of (same_E_q true wr _ ⟨_, rfl⟩ _ _ _ _ ax.r bx.r hb hd1 hd3 hmm)))
          go_wp2_with fail
          go_roundw
          case rel => exact ⟨k + 1, by omega, by go_num, by rw [Hid, HTa.out, HTb.out, HE.out, ho.out], HK.out.drewN nq⟩
          case measure => simp [intOf]; omega
        · have hb := Lib.hid (decide_eq_false ho)
          replace ho := Lib.hid ho
          go_wp2_with fail
          go_quiet ((go_at_call 12; exact Calls.quiet_of (same_E_q false wr _ ⟨_, rfl⟩ _ _ _ _ ax.r bx.r hb hd1 hd3 hmm)))
          go_wp2_with fail
          go_ret
          rw [HNE.out ho.out]
          exact ⟨rfl, HK.out.drewN nq⟩
      · obtain rfl : k = xs.length := by omega
        go_wp2_with fail
        go_ret
        have h : xs.map (·.r) = ys.map (·.r) := by
          have h1 := HE.out
          rwa [List.take_of_length_le (by simp), List.take_of_length_le (by simp [HL.out])] at h1
        rw [decide_eq_true h]
        exact ⟨rfl, HK.out⟩
  · have hd : decide (xs.map (·.r) = ys.map (·.r)) = false := by
      rw [decide_eq_false_iff_not]
      intro h
      exact hl (by simpa using congrArg List.length h)
    rw [hd]
    have hl2 : ¬ (xs.length : Int) = (ys.length : Int) := by omega
    clear hA hB hd hX hY hm
    go_enter Try.func11, Try.ntmps11
    go_wp2_with fail
    go_ret
    exact ⟨rfl, Dr.refl _⟩
end Go.Proofs.Ytgbicbeofgpinaa
