/- Tables: the document's: Copy, Page; whether two lists of numbers are one. -/
import Derived.Test.YtfidgmpeiabhiaaTbR
namespace Go.Proofs.Ytfidgmpeiabhiaa
open Go.RowKit Go.Maps

theorem rf_Copy (W : World) (n₀ : Nat) (A : Option Addr) (c : Nat) (p : List Int) (h : DtAt n₀ W (.slice A p.length c) p) (hn : p.length ≤ 1048576) :
    Calls Try.prog 15 #[.slice A p.length c] W fun e w' => ∃ A' c', e = .returned (.slice A' p.length c') ∧ DtAt W.heap.size w' (.slice A' p.length c') p ∧ Kept [] W w' := by
  obtain ⟨i0, p0, p1, p2, p3⟩ := info_parts infoI
  have HRun := Lib.hid (fun ty => run_app (P := Try.prog) W 27 ty 3 i0 _ 1 8 Try.underlying27 p0 p1 p2 p3 rfl (by decide) _ 0 [] (World.ownsRow_nil _ _ _ _) A p.length c (p.map iv) (by simp) (fun hA => by
      rcases h.2 with ⟨h2, _⟩ | ⟨g, cap, cur, e', _⟩
      · injection h2
      · injection e' with e1
        rw [e1] at hA
        cases hA) (fun hm => by
      obtain ⟨b, c2, e, _⟩ := own_some h hm
      injection e with e _ e2
      subst e
      subst e2
      exact ⟨b, 0, rfl, fun j u hu => own_cellS h j u hu⟩) (iv_one p) (by simp only [maxLen]; omega) (by omega))
  clear h p0 p1 p2 p3
  go_enter Try.func15, Try.ntmps15
  go_wp2_with (at_builtin; refine wpList_app rfl (.tmp 4) (.tmp 5) _ rfl _ _ rfl rfl (HRun.out _) ?_; rintro v1 w2 ⟨hq2, hq3, hq4⟩; rw [Nat.zero_add, List.nil_append] at hq2; obtain ⟨A1, c1, rfl, _⟩ := own_slice hq2; have HQ2 := Lib.hid hq2; have HQ3 := Lib.hid hq3; have HQ4 := Lib.hid hq4; clear hq2 hq3 hq4 HRun)
  go_ret
  refine ⟨A1, c1, rfl, own_up HQ2.out (fun k hk => ?_), (Kept.refl _ _).grown HQ3.out (fun k e => by cases e)⟩
  rcases HQ4.out with h | h
  · rw [h] at hk
    cases hk
  · rw [h] at hk
    injection hk with hk
    omega
set_option maxHeartbeats 1000000 in
theorem same_I (w : World) (A B : Option Addr) (ca cb n1 n2 : Nat) (la lb : List Int) (hA : DtAt n1 w (.slice A la.length ca) la) (hB : DtAt n2 w (.slice B lb.length cb) lb) (hn : la.length ≤ 1048576) :
    Calls Try.prog 34 #[.slice A la.length ca, .slice B lb.length cb] w fun e w' => e = .returned (.bool (decide (la = lb))) ∧ Dr w w' := by
  by_cases hl : la.length = lb.length
  · have HA := hA.at_
    have HB := hB.at_
    have HL := Lib.hid hl
    rw [← hl]
    clear hA hB hl
    go_enter Try.func34, Try.ntmps34
    go_wp2_with fail
    go_loopw [5] (fun i W => ∃ k : Nat, k ≤ la.length ∧ i = .int .i64 k ∧ Hid (la.take k = lb.take k) ∧ Hid (Dr w W)) (fun i _ => la.length - (intOf i).toNat)
    case atStart => exact ⟨0, Nat.zero_le _, rfl, rfl, Dr.refl _⟩
    case round =>
      obtain ⟨k, hk, rfl, HE, HK⟩ := hrel
      by_cases hlt : k < la.length
      · have hltb : k < lb.length := HL.out ▸ hlt
        obtain ⟨b, rfl, h0⟩ := HA.out k hlt
        obtain ⟨b', rfl, h2⟩ := HB.out k hltb
        have c0 := HK.out.kept.cell h0 (fun h => by cases h)
        have c2 := HK.out.kept.cell h2 (fun h => by cases h)
        have HTa := Lib.hid (List.take_succ_eq_append_getElem hlt)
        have HTb := Lib.hid (List.take_succ_eq_append_getElem hltb)
        clear h0 h2
        generalize hax : la[k] = x at *
        generalize hbx : lb[k] = y at *
        have HN : Hid (x ≠ y → decide (la = lb) = false) := by
          intro h
          rw [decide_eq_false_iff_not]
          rintro rfl
          rw [hax] at hbx
          exact h hbx
        have hi : (k : Int) < (la.length : Int) := by omega
        clear hax hbx hltb
        by_cases hx : x = y
        · subst hx
          go_wp2_with fail
          go_quiet (fail)
          go_wp2_with fail
          go_roundw
          case rel => exact ⟨k + 1, by omega, by go_num, by rw [Hid, HTa.out, HTb.out, HE.out], HK.out.drewN nq⟩
          case measure => simp [intOf]; omega
        · go_wp2_with fail
          go_quiet (fail)
          go_wp2_with fail
          go_ret
          rw [HN.out hx]
          exact ⟨rfl, HK.out.drewN nq⟩
      · obtain rfl : k = la.length := by omega
        go_wp2_with fail
        go_ret
        have h : la = lb := by
          have h1 := HE.out
          rwa [List.take_length, HL.out, List.take_length] at h1
        rw [decide_eq_true h]
        exact ⟨rfl, HK.out⟩
  · have hd : decide (la = lb) = false := by
      rw [decide_eq_false_iff_not]
      rintro rfl
      exact hl rfl
    rw [hd]
    have hl2 : ¬ (la.length : Int) = (lb.length : Int) := by omega
    clear hA hB hd
    go_enter Try.func34, Try.ntmps34
    go_wp2_with fail
    go_ret
    exact ⟨rfl, Dr.refl _⟩
/-- the first k of a page -/
def pgT (p : List Int) (i k : Nat) : List Int := (pageP p i).take k
theorem pgT_len (p : List Int) (i k : Nat) (h : k ≤ 13) : (pgT p i k).length = k := by
  rw [pgT, List.length_take, pageP_len]
  omega
theorem pgT_snoc (p : List Int) (i k : Nat) (h : k < 13) : pgT p i (k + 1) = pgT p i k ++ [p[13 * i + k]?.getD (-1)] := by
  have h1 : k < (pageP p i).length := by rw [pageP_len]; exact h
  rw [pgT, List.take_succ_eq_append_getElem h1]
  have h2 := pageP_at p i k h
  rw [List.getElem?_eq_getElem h1] at h2
  injection h2 with h2
  rw [h2]
  rfl
set_option maxRecDepth 4000 in
set_option maxHeartbeats 2000000 in
theorem rf_Page (W : World) (n₀ : Nat) (A : Option Addr) (c : Nat) (p : List Int) (i : Int) (h : DtAt n₀ W (.slice A p.length c) p) (hn : p.length ≤ 1048576) :
    Calls Try.prog 33 #[.slice A p.length c, .int .i64 i] W (PagePost p i W) := by
  have HS := h.at_
  clear h
  by_cases h0 : i < 0
  · have hb : Hid (pgB p i = false) := by simp [Hid, pgB]; omega
    go_enter Try.func33, Try.ntmps33
    go_wp2_with (go_at_call 32; refine (rf_Pages _ _ _ _ hn).mono ?_; rintro e w1 ⟨rfl, rfl⟩)
    refine bodyPost_ret (results_tmp2 rfl _ _ _) rfl ?_
    refine ⟨.slice none 0 0, ?_, ?_, Kept.refl _ _⟩
    · simp [pgE, hb.out]
    · simp [pgL, hb.out]; exact World.ownsRow_nil _ _ _ _
  · by_cases h1 : i < (((p.length + 12) / 13 : Nat) : Int)
    · have hb : Hid (pgB p i = true) := by simp only [Hid, pgB, Bool.and_eq_true, decide_eq_true_eq]; omega
      obtain ⟨k, rfl⟩ : ∃ k : Nat, i = (k : Int) := ⟨i.toNat, by omega⟩
      have hk : 13 * k < p.length := by omega
      have hnp : ¬ ((p.length : Int) + 12) / 13 ≤ (k : Int) := by omega
      have hk13 : IntKind.i64.wrap (13 * (k : Int)) = 13 * (k : Int) := IntWalk.i64_in _ (by omega)
      go_enter Try.func33, Try.ntmps33
      go_wp2_with (go_at_call 32; refine (rf_Pages _ _ _ _ hn).mono ?_; rintro e w1 ⟨rfl, rfl⟩)
      go_loopw [6, 7] (fun v j V => ∃ (m c' : Nat) (A' : Option Addr), m ≤ 13 ∧ j = .int .i64 (13 * (k : Int) + (m : Int)) ∧ v = .slice A' m c' ∧ Hid (V.ownsRow W.heap.size 3 1 (.slice A' (pgT p k m).length c') (pgT p k m).length ((pgT p k m).map iv)) ∧ Hid (Kept [] W V)) (fun _ j _ => (13 * k + 13) - (intOf j).toNat)
      case atStart => exact ⟨0, 0, none, Nat.zero_le _, by simp, rfl, World.ownsRow_nil _ _ _ _, Kept.refl _ _⟩
      case round =>
        obtain ⟨m, c', A', hm, rfl, rfl, HO, HK⟩ := hrel
        by_cases hlt : m < 13
        · have hlti : 13 * (k : Int) + (m : Int) < 13 * (k : Int) + 13 := by omega
          have hfl : (pgT p k m).length = m := pgT_len p k m hm
          have HSn := Lib.hid (pgT_snoc p k m hlt)
          have hfl2 : Hid ((pgT p k (m + 1)).length = m + 1) := pgT_len p k (m + 1) (by omega)
          by_cases hin : 13 * k + m < p.length
          · have hini : 13 * (k : Int) + (m : Int) < (p.length : Int) := by omega
            obtain ⟨b, rfl, h0⟩ := HS.out (13 * k + m) hin
            have c0 := HK.out.cell h0 (fun h => by cases h)
            have hval : Hid (p[13 * k + m]?.getD (-1) = p[13 * k + m]) := by rw [Hid, List.getElem?_eq_getElem hin]; rfl
            obtain ⟨y, hy⟩ : ∃ y, Hid (p[13 * k + m] = y) := ⟨_, Lib.hid rfl⟩
            rw [hy.out] at c0 hval
            have hidx : (13 * (k : Int) + (m : Int)).toNat = 13 * k + m := by omega
            have hge : (0 : Int) ≤ 13 * (k : Int) + (m : Int) := by omega
            clear h0
            have HRun := Lib.hid (app_run (W := W) y HO.out (by rw [hfl]; omega) 26 Try.underlying26)
            rw [hfl] at HRun
            replace hfl := Lib.hid hfl
            go_wp2_with (at_builtin; refine wpList_app rfl (.tmp 29) (.tmp 34) _ rfl _ _ rfl rfl (HRun.out _) ?_; rintro v3 w4 ⟨hr2, hr3, hr4⟩; obtain ⟨A3, c3, rfl, _⟩ := own_slice hr2; have HR2 := Lib.hid hr2; have HR3 := Lib.hid hr3; have HR4 := Lib.hid hr4; clear hr2 hr3 hr4 HRun)
            go_roundw
            case rel =>
              have h5 := app_fin (x := y) HO.out HK.out (by rw [hfl.out]; exact HR2.out) (by rw [hfl.out]; exact HR3.out) (by rw [hfl.out]; exact HR4.out)
              have e5 := HSn.out
              rw [hval.out] at e5
              rw [← e5, hfl2.out] at h5
              exact ⟨m + 1, c3, A3, by omega, by go_num, rfl, by rw [Hid, hfl2.out]; exact h5.1, h5.2⟩
            case measure => simp [intOf]; omega
          · have hini : ¬ 13 * (k : Int) + (m : Int) < (p.length : Int) := by omega
            have hval : Hid (p[13 * k + m]?.getD (-1) = -1) := by rw [Hid, List.getElem?_eq_none (by omega)]; rfl
            have HRun := Lib.hid (app_run (W := W) (-1) HO.out (by rw [hfl]; omega) 26 Try.underlying26)
            rw [hfl] at HRun
            replace hfl := Lib.hid hfl
            go_wp2_with (at_builtin; refine wpList_app rfl (.tmp 36) (.tmp 37) _ rfl _ _ rfl rfl (HRun.out _) ?_; rintro v3 w4 ⟨hr2, hr3, hr4⟩; obtain ⟨A3, c3, rfl, _⟩ := own_slice hr2; have HR2 := Lib.hid hr2; have HR3 := Lib.hid hr3; have HR4 := Lib.hid hr4; clear hr2 hr3 hr4 HRun)
            go_roundw
            case rel =>
              have h5 := app_fin (x := -1) HO.out HK.out (by rw [hfl.out]; exact HR2.out) (by rw [hfl.out]; exact HR3.out) (by rw [hfl.out]; exact HR4.out)
              have e5 := HSn.out
              rw [hval.out] at e5
              rw [← e5, hfl2.out] at h5
              exact ⟨m + 1, c3, A3, by omega, by go_num, rfl, by rw [Hid, hfl2.out]; exact h5.1, h5.2⟩
            case measure => simp [intOf]; omega
        · obtain rfl : m = 13 := by omega
          have hfl : Hid (pgT p k 13 = pageP p k) := by rw [Hid, pgT, List.take_of_length_le (by rw [pageP_len]; omega)]
          have hfl3 : Hid ((pgT p k 13).length = 13) := pgT_len p k 13 (by omega)
          go_wp2_with fail
          refine bodyPost_ret (results_tmp2 rfl _ _ _) rfl ?_
          refine ⟨.slice A' 13 c', ?_, ?_, HK.out⟩
          · simp [pgE, hb.out]
          · have h6 := HO.out
            rw [hfl3.out, hfl.out] at h6
            rw [pgL, hb.out]
            simp only [if_true, Int.toNat_natCast, pageP_len]
            exact h6
    · have hb : Hid (pgB p i = false) := by simp only [Hid, pgB, Bool.and_eq_false_iff, decide_eq_false_iff_not]; omega
      go_enter Try.func33, Try.ntmps33
      go_wp2_with (go_at_call 32; refine (rf_Pages _ _ _ _ hn).mono ?_; rintro e w1 ⟨rfl, rfl⟩)
      refine bodyPost_ret (results_tmp2 rfl _ _ _) rfl ?_
      refine ⟨.slice none 0 0, ?_, ?_, Kept.refl _ _⟩
      · simp [pgE, hb.out]
      · simp [pgL, hb.out]; exact World.ownsRow_nil _ _ _ _
end Go.Proofs.Ytfidgmpeiabhiaa
