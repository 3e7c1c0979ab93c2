/- Exceptions in runs: the document's first one; whether two lists, and two lists of lists, are one. -/
import Derived.Test.YtgbicbeofgpinaaRnJ
namespace Go.Proofs.Ytgbicbeofgpinaa
open Go.RowKit

set_option maxHeartbeats 1000000 in
theorem ref_First (most : Int) (w : World) (A : Option Addr) (c : Nat) (l : List En) (hA : RdE w A l) (hn : l.length ≤ 1000000) (ho : ∀ x ∈ l, x.org ≤ 9223372036854775807) :
    Calls Try.prog 10 #[.int .i64 most, .slice A l.length c] w (FirstPost most l w) := by
  have H := ref_Of most w A c l hA hn ho
  clear hA
  go_enter Try.func10, Try.ntmps10
  go_wp2_with fail
  refine H.mono ?_
  rintro e w1 (⟨hr, rfl, hk⟩ | ⟨hr, v, xs, rfl, hxs, ho, hx, hk⟩)
  · go_wp2_with fail
    refine bodyPost_ret (results_tmp2 rfl _ _ _) rfl ?_
    exact .inl ⟨hr, rfl, hk⟩
  · obtain ⟨A', c', rfl, _⟩ := own_slice ho
    have HS := Lib.hid hxs
    have HX := Lib.hid hx
    have HR := Lib.hid hr
    have HO := Lib.hid ho
    clear hxs hx hr ho H
    cases xs with
    | nil =>
      rw [List.length_nil] at HO
      rw [List.length_nil]
      go_wp2_with fail
      refine bodyPost_ret (results_tmp2 rfl _ _ _) rfl ?_
      have hl : l = [] := by
        have h1 := runs_flat most _ l (Nat.le_refl _)
        rw [← HS.out] at h1
        exact h1.symm
      exact .inr (.inl ⟨HR.out, hl, rfl, hk⟩)
    | cons x xs =>
      have hO := HO.out
      simp only [List.length_cons, List.map_cons] at hO
      rw [List.length_cons]
      obtain ⟨G, C, e3, _⟩ := own_some hO (by omega)
      injection e3 with e3 _ e4
      subst e3
      subst e4
      have c8 := own_cell1 hO 0 (rnV x) rfl
      clear hO
      dsimp only [rnV] at c8
      have hlp : (0 : Int) < (xs.length : Int) + 1 := by omega
      have hlp2 : ¬ (xs.length : Int) + 1 = 0 := by omega
      go_wp2_with fail
      refine bodyPost_ret (results_tmp2 rfl _ _ _) rfl ?_
      have hne : l ≠ [] := by
        rintro rfl
        have := HS.out
        cases this
      have h2 := HS.out
      rw [runsR_cons most l hne] at h2
      injection h2 with h2 _
      exact .inr (.inr ⟨HR.out, hne, x, rfl, h2, HX.out x (List.mem_cons_self ..), hk⟩)
/-- nothing but draws -/
def Dr (w W : World) : Prop := ∃ m, W = w.drewN m
theorem Dr.refl (w : World) : Dr w w := ⟨0, rfl⟩
theorem Dr.trans {a b c : World} (h : Dr a b) (k : Dr b c) : Dr a c := by
  obtain ⟨m, rfl⟩ := h
  obtain ⟨n, rfl⟩ := k
  exact ⟨m + n, World.drewN_drewN _ _ _⟩
theorem Dr.drewN {a b : World} (h : Dr a b) (n : Nat) : Dr a (b.drewN n) := h.trans ⟨n, rfl⟩
theorem Dr.kept {a b : World} (h : Dr a b) : Kept [] a b := by
  obtain ⟨m, rfl⟩ := h
  exact (Kept.refl [] a).drewN m
set_option maxHeartbeats 1000000 in
theorem same_E (w : World) (A B : Option Addr) (ca cb : Nat) (la lb : List En) (hA : RdE w A la) (hB : RdE w B lb) (hn : la.length ≤ 1000000) :
    Calls Try.prog 12 #[.slice A la.length ca, .slice B lb.length cb] w fun e w' => e = .returned (.bool (decide (la = lb))) ∧ Dr w w' := by
  by_cases hl : la.length = lb.length
  · have HA : Hid (∀ k, (hk : k < la.length) → ∃ b o, A = some ⟨b, o, none⟩ ∧ w.cell? ⟨b, o + k * 2, none⟩ = some (.int .i64 la[k].org) ∧ w.cell? ⟨b, o + k * 2 + 1, none⟩ = some (.int .i64 la[k].idx)) := fun k hk => by
      obtain ⟨b, o, e, _, hc⟩ := hA.at_ (by omega)
      exact ⟨b, o, e, hc k hk⟩
    have HB : Hid (∀ k, (hk : k < lb.length) → ∃ b o, B = some ⟨b, o, none⟩ ∧ w.cell? ⟨b, o + k * 2, none⟩ = some (.int .i64 lb[k].org) ∧ w.cell? ⟨b, o + k * 2 + 1, none⟩ = some (.int .i64 lb[k].idx)) := fun k hk => by
      obtain ⟨b, o, e, _, hc⟩ := hB.at_ (by omega)
      exact ⟨b, o, e, hc k hk⟩
    have HL := Lib.hid hl
    rw [← hl]
    clear hA hB hl
    go_enter Try.func12, Try.ntmps12
    go_wp2_with fail
    go_loopw [5] (fun i W => ∃ k : Nat, k ≤ la.length ∧ i = .int .i64 k ∧ Hid (la.take k = lb.take k) ∧ Hid (Dr w W)) (fun i _ => la.length - (intOf i).toNat)
    case atStart => exact ⟨0, Nat.zero_le _, rfl, rfl, Dr.refl _⟩
    case round =>
      obtain ⟨k, hk, rfl, HE, HK⟩ := hrel
      by_cases hlt : k < la.length
      · have hltb : k < lb.length := HL.out ▸ hlt
        obtain ⟨b, o, rfl, h0, h1⟩ := HA.out k hlt
        obtain ⟨b', o', rfl, h2, h3⟩ := HB.out k hltb
        have c0 := HK.out.kept.cell h0 (fun h => by cases h)
        have c1 := HK.out.kept.cell h1 (fun h => by cases h)
        have c2 := HK.out.kept.cell h2 (fun h => by cases h)
        have c3 := HK.out.kept.cell h3 (fun h => by cases h)
        have HTa := Lib.hid (List.take_succ_eq_append_getElem hlt)
        have HTb := Lib.hid (List.take_succ_eq_append_getElem hltb)
        clear h0 h1 h2 h3
        generalize hax : la[k] = ax at *
        generalize hbx : lb[k] = bx at *
        obtain ⟨xo, xi⟩ := ax
        obtain ⟨yo, yi⟩ := bx
        dsimp only at c0 c1 c2 c3
        have hne : ¬ (xo = yo ∧ xi = yi) → decide (la = lb) = false := by
          intro h
          rw [decide_eq_false_iff_not]
          rintro rfl
          rw [hax] at hbx
          injection hbx with h1 h2
          exact h ⟨h1, h2⟩
        have HN := Lib.hid hne
        have hi : (k : Int) < (la.length : Int) := by omega
        clear hne hax hbx hltb
        by_cases ho : xo = yo
        · subst ho
          by_cases hx : xi = yi
          · subst hx
            go_wp2_with fail
            go_quiet (fail)
            go_wp2_with fail
            go_roundw
            case rel => exact ⟨k + 1, by omega, by go_num, by rw [Hid, HTa.out, HTb.out, HE.out], HK.out.drewN nq⟩
            case measure => simp [intOf]; omega
          · go_wp2_with fail
            go_quiet (fail)
            go_wp2_with fail
            go_ret
            rw [HN.out (fun h => hx h.2)]
            exact ⟨rfl, HK.out.drewN nq⟩
        · go_wp2_with fail
          go_quiet (fail)
          go_wp2_with fail
          go_ret
          rw [HN.out (fun h => ho h.1)]
          exact ⟨rfl, HK.out.drewN nq⟩
      · obtain rfl : k = la.length := by omega
        go_wp2_with fail
        go_ret
        have h : la = lb := by
          have h1 := HE.out
          rwa [List.take_length, HL.out, List.take_length] at h1
        rw [decide_eq_true h]
        exact ⟨rfl, HK.out⟩
  · have hd : decide (la = lb) = false := by
      rw [decide_eq_false_iff_not]
      rintro rfl
      exact hl rfl
    rw [hd]
    have hl2 : ¬ (la.length : Int) = (lb.length : Int) := by omega
    clear hA hB hd
    go_enter Try.func12, Try.ntmps12
    go_wp2_with fail
    go_ret
    exact ⟨rfl, Dr.refl _⟩
theorem same_E_q (b : Bool) (w W : World) (hw : Dr w W) (A B : Option Addr) (ca cb : Nat) (la lb : List En) (hb : Hid (decide (la = lb) = b)) (hA : Hid (RdE w A la)) (hB : Hid (RdE w B lb)) (hn : la.length ≤ 1000000) :
    Calls Try.prog 12 #[.slice A la.length ca, .slice B lb.length cb] W fun e w' => e = .returned (.bool b) ∧ ∃ m, w' = W.drewN m :=
  (same_E W A B ca cb la lb (hA.out.kept hw.kept) (hB.out.kept hw.kept) hn).mono fun _ _ h => ⟨by rw [h.1, hb.out], h.2⟩
end Go.Proofs.Ytgbicbeofgpinaa
