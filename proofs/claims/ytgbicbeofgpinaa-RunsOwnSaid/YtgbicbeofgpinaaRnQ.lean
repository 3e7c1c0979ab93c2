/- Exceptions in runs: the law: whole: its walk. -/
import Derived.Test.YtgbicbeofgpinaaRnP
import Derived.Test.YtgbicbeofgpinaaRnN
namespace Go.Proofs.Ytgbicbeofgpinaa
open Go.RowKit

theorem rn_cell {n₀ : Nat} {x : Rn} {W : World} (h : RnOk n₀ x W) (j : Nat) (hj : j < x.r.length) : W.cell? ⟨x.g, j * 2, none⟩ = some (.int .i64 x.r[j].org) := by
  have := own_cellS h.1 (j * 2 + 0) (.int .i64 x.r[j].org) (by rw [flatMap_at 2 enE enE_len x.r j 0 hj (by omega)]; rfl)
  rwa [Nat.add_zero, Nat.zero_add] at this
theorem whole_rn (most : Int) (l : List En) (xs : List Rn) (hxs : xs.map (·.r) = runsR most l) (hm : 1 ≤ most) (k : Nat) (hk : k < xs.length) (x : Rn) (hx : xs[k] = x) :
    1 ≤ x.r.length ∧ (x.r.length : Int) ≤ most ∧ goesOn x.r ∧ posR (xs.map (·.r)) k + x.r.length ≤ l.length ∧ (∀ j, (hj : j < x.r.length) → l[posR (xs.map (·.r)) k + j]? = some x.r[j]) ∧ posR (xs.map (·.r)) (k + 1) = posR (xs.map (·.r)) k + x.r.length ∧ l.take (posR (xs.map (·.r)) (k + 1)) = l.take (posR (xs.map (·.r)) k) ++ x.r ∧
    (∀ h0 : 0 < k, 1 ≤ posR (xs.map (·.r)) k ∧ (((xs[k - 1]'(by omega)).r.length : Int) < most → ∀ a b, l[posR (xs.map (·.r)) k]? = some a → l[posR (xs.map (·.r)) k - 1]? = some b → a.org ≠ b.org + 1)) := by
  have h := whole_facts most l (xs.map (·.r)) hxs hm k (by simpa using hk)
  have e : (xs.map (·.r))[k]'(by simpa using hk) = x.r := by rw [List.getElem_map, hx]
  rw [e] at h
  obtain ⟨h1, h2, h3, h4, h5, h6, h7, h8⟩ := h
  refine ⟨h1, h2, h3, h4, h5, h6, h7, fun h0 => ?_⟩
  have h9 := h8 h0
  rw [List.getElem_map] at h9
  exact h9
set_option maxRecDepth 8000 in
set_option maxHeartbeats 8000000 in
theorem runs_wholeLaw (most : Int) (w : World) (A : Option Addr) (c : Nat) (l : List En) (hA : RdE w A l) (hc : l.length ≤ c) (hm : l.length * 16 ≤ 140737488351232) (hmb : most ≤ 9223372036854775807) (ho : ∀ x ∈ l, x.org ≤ 9223372036854775807) :
    Calls Try.prog 4 #[.int .i64 most, .slice A l.length c] w (TrueK w) := by
  have hA0 := Lib.hid hA
  have hn0 : l.length ≤ 8796093022208 := by omega
  clear hA
  have hO := Lib.hid ho
  clear ho
  by_cases hn : l.length ≤ 100
  · go_enter Try.func4, Try.ntmps4
    go_wp2_with fail
    refine (runs_Of most w A c l hA0.out hc hn0 hmb hO.out).mono ?_
    rintro e w1 (⟨hr, rfl, k1⟩ | ⟨hr, v, xs, rfl, hxs, ho1, hx1, k1⟩)
    · go_wp2_with (go_at_call 6; refine (runs_alive _).mono ?_; rintro e w2 ⟨rfl, k2⟩)
      go_ret
      exact ⟨rfl, k1.trans k2⟩
    · obtain ⟨A1, c1, rfl, _⟩ := own_slice ho1
      obtain ⟨hup, hm1⟩ := right_up hr hO.out
      have HU := Lib.hid hup
      have HS := Lib.hid hxs
      have HO1 := Lib.hid ho1
      have HX1 := Lib.hid hx1
      have K1 := Lib.hid k1
      have hxl := (runs_le most l hxs).1
      have HXl := Lib.hid (runs_le most l hxs).2
      have HF := Lib.hid (whole_rn most l xs hxs hm1)
      clear hxs ho1 hx1 k1 hup hr
      obtain ⟨i0, p0, p1, p2, p3⟩ := info_parts infoE
      replace p0 := Lib.hid p0
      replace p1 := Lib.hid p1
      replace p2 := Lib.hid p2
      replace p3 := Lib.hid p3
      go_wp2_with fail
      go_loopw [7, 8] (fun v i W => ∃ k : Nat, k ≤ xs.length ∧ i = .int .i64 k ∧ Hid (W.ownsRow w1.heap.size 36 2 v (posR (xs.map (·.r)) k) ((l.take (posR (xs.map (·.r)) k)).flatMap enE)) ∧ Hid (Kept [] w1 W)) (fun _ i _ => xs.length - (intOf i).toNat)
      case atStart => exact ⟨0, Nat.zero_le _, rfl, World.ownsRow_nil _ _ _ _, Kept.refl _ _⟩
      case round =>
        obtain ⟨k, hk, rfl, HV, HK⟩ := hrel
        obtain ⟨P, hP⟩ : ∃ P, Hid (posR (xs.map (·.r)) k = P) := ⟨_, Lib.hid rfl⟩
        rw [hP.out] at HV
        obtain ⟨A2, c2, rfl, _⟩ := own_slice HV.out
        by_cases hlt : k < xs.length
        · obtain ⟨x, hxx⟩ : ∃ x, Hid (xs[k] = x) := ⟨_, Lib.hid rfl⟩
          obtain ⟨h1, h2, h3, h4, h5, h6, h7, h8⟩ := HF.out k hlt x hxx.out
          obtain ⟨G, C, e1, _⟩ := own_some HO1.out (by omega)
          injection e1 with e1 _ e3
          subst e1
          subst e3
          have c8 := HK.out.cell (own_cell1 HO1.out k (rnV xs[k]) (by simp [hlt])) (fun h => by cases h)
          have HX := Lib.hid ((HX1.out xs[k] (List.getElem_mem _)).kept HK.out (fun h => by cases h))
          rw [hP.out] at h4 h5 h6 h7 h8
          have hki : (k : Int) < (xs.length : Int) := by omega
          -- the run ahead of it
          have HPrev : Hid (∀ h0 : 0 < k, 1 ≤ P ∧ w1.cell? ⟨G, k - 1, none⟩ = some (rnV (xs[k - 1]'(by omega))) ∧ (((xs[k - 1]'(by omega)).r.length : Int) < most → ∀ a b, l[P]? = some a → l[P - 1]? = some b → a.org ≠ b.org + 1)) := fun h0 => ⟨(h8 h0).1, own_cell1 HO1.out (k - 1) _ (by rw [List.getElem?_map, List.getElem?_eq_getElem (by omega)]; rfl), (h8 h0).2⟩
          have H5 := Lib.hid h5
          have H6 := Lib.hid h6
          have H7 := Lib.hid h7
          have H3 := Lib.hid h3
          clear h3 h5 h6 h7 h8
          rw [hxx.out] at c8 HX
          have HM : Hid (∀ j, (hj : j < x.r.length) → -1 ≤ x.r[j].org ∧ x.r[j].org ≤ 9223372036854775807) := fun j hj => HU.out.2 _ (List.mem_of_getElem? (H5.out j hj))
          dsimp only [rnV] at c8
          obtain ⟨W0, rfl⟩ : ∃ W0, W0 = wr := ⟨wr, rfl⟩
          have hx1 : ¬ (x.r.length : Int) < 1 := by omega
          have hx2 : ¬ most < (x.r.length : Int) := by omega
          go_wp2_with fail
          go_loopw [10] (fun j W => ∃ m : Nat, 1 ≤ m ∧ m ≤ x.r.length ∧ j = .int .i64 m ∧ Hid (Dr W0 W)) (fun j _ => x.r.length - (intOf j).toNat)
          case atStart => exact ⟨1, Nat.le_refl _, h1, rfl, Dr.refl _⟩
          case round =>
            obtain ⟨m, hm0, hm2, rfl, HD⟩ := hrel
            have d8 := HD.out.kept.cell c8 (fun h => by cases h)
            by_cases hml : m < x.r.length
            · have HXD := HX.out.kept HD.out.kept (fun h => by cases h)
              have a0 := rn_cell HXD m hml
              have a1 := rn_cell HXD (m - 1) (by omega)
              have hg := H3.out (m - 1) (by omega)
              have hb := HM.out m hml
              have hb1 := HM.out (m - 1) (by omega)
              simp only [show m - 1 + 1 = m by omega] at hg
              rw [hg] at a0 hb
              obtain ⟨z, hzz⟩ : ∃ z, Hid (x.r[m - 1] = z) := ⟨_, Lib.hid rfl⟩
              rw [hzz.out] at a0 a1 hb hb1
              clear hg HXD
              have hi0 : (0 : Int) ≤ (m : Int) - 1 := by omega
              have hi1 : (m : Int) - 1 < (x.r.length : Int) := by omega
              have hi2 : (m : Int) < (x.r.length : Int) := by omega
              have hi4 : (0 : Int) ≤ (m : Int) := by omega
              have hi5 : (1 : Int) ≤ (m : Int) := by omega
              have hmi : ((m : Int) - 1).toNat = m - 1 := by omega
              have hwm : IntKind.i64.wrap ((m : Int) - 1) = (m : Int) - 1 := IntWalk.i64_in _ (by omega)
              have hwx : IntKind.i64.wrap (z.org + 1) = z.org + 1 := IntWalk.i64_in _ (by omega)
              go_wp2_with fail
              go_quiet (fail)
              go_wp2_with fail
              go_roundw
              case rel => exact ⟨m + 1, by omega, by omega, by go_num, HD.out.drewN nq⟩
              case measure => simp [intOf]; omega
            · obtain rfl : m = x.r.length := by omega
              have HK2 := Lib.hid (HK.out.trans HD.out.kept)
              have HV2 := Lib.hid (HD.out.kept.owns HV.out (fun _ _ h => by cases h))
              have HX2 := Lib.hid (HX.out.kept HD.out.kept (fun h => by cases h))
              clear c8
              have hs1 := hn
              by_cases hz : k = 0
              · subst hz
                go_wp2_with fail
                go_quiet (fail)
                obtain ⟨W1, hW1⟩ : ∃ W1, W1 = wr.drewN nq := ⟨_, rfl⟩
                have K9 : Kept [] wr W1 := hW1 ▸ (Kept.refl [] wr).drewN nq
                rw [← hW1]
                clear hW1
                have d9 := K9.cell d8 (fun h => by cases h)
                have HV3 := Lib.hid (K9.owns HV2.out (fun _ _ h => by cases h))
                have HRun := Lib.hid (fun ty => run_app (P := Try.prog) W1 22 ty 36 i0 _ 2 16 Try.underlying22 p0.out p1.out p2.out p3.out rfl (by decide) _ _ _ (own_down HV3.out (Nat.zero_le _)) (some ⟨x.g, 0, none⟩) x.r.length x.c (x.r.flatMap enE) (by rw [flatMap_len 2 enE enE_len]) (fun h => by cases h)
                  (fun _ => ⟨x.g, 0, rfl, fun j u hu => K9.cell (own_cellS HX2.out.1 j u hu) (fun h => by cases h)⟩) (enE_one _) (by simp only [maxLen]; omega) (by omega))
                clear d8
                go_wp2_with (at_builtin; refine wpList_app rfl (.tmp 97) (.tmp 101) _ rfl _ _ rfl rfl (HRun.out _) ?_; rintro v1 w2 ⟨hq2, hq3, hq4⟩; have HQ2 := Lib.hid hq2; have HQ3 := Lib.hid hq3; have HQ4 := Lib.hid hq4; clear hq2 hq3 hq4 HRun)
                go_roundw
                case rel =>
                  have hlo : ∀ j, (Value.slice A2 P c2).ownBlock = some j → w1.heap.size ≤ j := fun j hj => (HV2.out.lt j hj).1
                  refine ⟨0 + 1, by omega, by go_num, ?_, (HK2.out.trans K9).grown HQ3.out (fun j e => .inr (hlo j e))⟩
                  rw [Hid, H7.out, H6.out, List.flatMap_append]
                  refine own_up HQ2.out (fun j hj => ?_)
                  rcases HQ4.out with h | h
                  · exact hlo j (h ▸ hj)
                  · rw [h] at hj
                    injection hj with hj
                    subst hj
                    exact Nat.le_trans HK2.out.size K9.size
                case measure => simp [intOf]; omega
              · obtain ⟨hp1, hpc, hpn⟩ := HPrev.out (by omega)
                have p8 := HK2.out.cell hpc (fun h => by cases h)
                obtain ⟨pv, hpv⟩ : ∃ pv, Hid (xs[k - 1]'(by omega) = pv) := ⟨_, Lib.hid rfl⟩
                rw [hpv.out] at p8 hpn
                dsimp only [rnV] at p8
                have hk0 : (0 : Int) < (k : Int) := by omega
                have hk2 : 0 < k := by omega
                have hk3 : 1 ≤ k := by omega
                have hi0 : (0 : Int) ≤ (k : Int) - 1 := by omega
                have hi1 : (k : Int) - 1 < (xs.length : Int) := by omega
                have hi4 : (0 : Int) ≤ (k : Int) := by omega
                have hi5 : (1 : Int) ≤ (k : Int) := by omega
                have hmi : ((k : Int) - 1).toNat = k - 1 := by omega
                have hwm : IntKind.i64.wrap ((k : Int) - 1) = (k : Int) - 1 := IntWalk.i64_in _ (by omega)
                have HN := Lib.hid hpn
                clear hpn hpc
                by_cases hpl : (pv.r.length : Int) < most
                · obtain ⟨ga, ca, e2, _⟩ := own_some HV2.out (by omega)
                  injection e2 with e2 _ e3
                  subst e2
                  subst e3
                  have hPl : P < l.length := by omega
                  have a0 := rn_cell HX2.out 0 (by omega)
                  have b0 := own_cellS HV2.out ((P - 1) * 2 + 0) (.int .i64 (l[P - 1]'(by omega)).org) (by rw [flatMap_at 2 enE enE_len (l.take P) (P - 1) 0 (by rw [List.length_take]; omega) (by omega)]; simp [enE])
                  have hx0 := H5.out 0 (by omega)
                  rw [Nat.add_zero, List.getElem?_eq_getElem hPl] at hx0
                  injection hx0 with hx0
                  have hne := HN.out hpl l[P] (l[P - 1]'(by omega)) (List.getElem?_eq_getElem hPl) (List.getElem?_eq_getElem (by omega))
                  have hlt2 := HU.out.1 (P - 1) (by omega)
                  simp only [show P - 1 + 1 = P by omega] at hlt2
                  have hb1 := (HU.out.2 l[P] (List.getElem_mem _)).2
                  have hb2 := (HU.out.2 (l[P - 1]'(by omega)) (List.getElem_mem _)).1
                  rw [← hx0] at a0
                  clear hx0
                  obtain ⟨y, hyy⟩ : ∃ y, Hid (l[P] = y) := ⟨_, Lib.hid rfl⟩
                  obtain ⟨z, hzz⟩ : ∃ z, Hid (l[P - 1]'(by omega) = z) := ⟨_, Lib.hid rfl⟩
                  rw [hyy.out] at a0 hne hlt2 hb1
                  rw [hzz.out] at b0 hne hlt2 hb2
                  simp only [Nat.zero_mul, Nat.add_zero, Nat.zero_add] at a0 b0
                  have hj0 : (0 : Int) ≤ (P : Int) - 1 := by omega
                  have hj1 : (P : Int) - 1 < (P : Int) := by omega
                  have hj5 : (1 : Int) ≤ (P : Int) := by omega
                  have hjm : ((P : Int) - 1).toNat = P - 1 := by omega
                  have hjw : IntKind.i64.wrap ((P : Int) - 1) = (P : Int) - 1 := IntWalk.i64_in _ (by omega)
                  have hwx : IntKind.i64.wrap (z.org + 1) = z.org + 1 := IntWalk.i64_in _ (by omega)
                  have hx0 : (0 : Int) < (x.r.length : Int) := by omega
                  go_wp2_with fail
                  go_quiet (fail)
                  clear a0 b0 p8 hjm hjw hwx hwm hmi
                  obtain ⟨W1, hW1⟩ : ∃ W1, W1 = wr.drewN nq := ⟨_, rfl⟩
                  have K9 : Kept [] wr W1 := hW1 ▸ (Kept.refl [] wr).drewN nq
                  rw [← hW1]
                  clear hW1
                  have d9 := K9.cell d8 (fun h => by cases h)
                  have HV3 := Lib.hid (K9.owns HV2.out (fun _ _ h => by cases h))
                  have HRun := Lib.hid (fun ty => run_app (P := Try.prog) W1 22 ty 36 i0 _ 2 16 Try.underlying22 p0.out p1.out p2.out p3.out rfl (by decide) _ _ _ (own_down HV3.out (Nat.zero_le _)) (some ⟨x.g, 0, none⟩) x.r.length x.c (x.r.flatMap enE) (by rw [flatMap_len 2 enE enE_len]) (fun h => by cases h)
                    (fun _ => ⟨x.g, 0, rfl, fun j u hu => K9.cell (own_cellS HX2.out.1 j u hu) (fun h => by cases h)⟩) (enE_one _) (by simp only [maxLen]; omega) (by omega))
                  clear d8
                  go_wp2_with (at_builtin; refine wpList_app rfl (.tmp 97) (.tmp 101) _ rfl _ _ rfl rfl (HRun.out _) ?_; rintro v1 w2 ⟨hq2, hq3, hq4⟩; have HQ2 := Lib.hid hq2; have HQ3 := Lib.hid hq3; have HQ4 := Lib.hid hq4; clear hq2 hq3 hq4 HRun)
                  go_roundw
                  case rel =>
                    have hlo : ∀ j, (Value.slice (some ⟨ga, 0, none⟩) P c2).ownBlock = some j → w1.heap.size ≤ j := fun j hj => (HV2.out.lt j hj).1
                    refine ⟨k + 1, by omega, by go_num, ?_, (HK2.out.trans K9).grown HQ3.out (fun j e => .inr (hlo j e))⟩
                    rw [Hid, H7.out, H6.out, List.flatMap_append]
                    refine own_up HQ2.out (fun j hj => ?_)
                    rcases HQ4.out with h | h
                    · exact hlo j (h ▸ hj)
                    · rw [h] at hj
                      injection hj with hj
                      subst hj
                      exact Nat.le_trans HK2.out.size K9.size
                  case measure => simp [intOf]; omega
                · have hpd : decide ((pv.r.length : Int) < most) = false := by simpa using hpl
                  go_wp2_with fail
                  go_quiet (fail)
                  clear p8 hwm hmi
                  obtain ⟨W1, hW1⟩ : ∃ W1, W1 = wr.drewN nq := ⟨_, rfl⟩
                  have K9 : Kept [] wr W1 := hW1 ▸ (Kept.refl [] wr).drewN nq
                  rw [← hW1]
                  clear hW1
                  have d9 := K9.cell d8 (fun h => by cases h)
                  have HV3 := Lib.hid (K9.owns HV2.out (fun _ _ h => by cases h))
                  have HRun := Lib.hid (fun ty => run_app (P := Try.prog) W1 22 ty 36 i0 _ 2 16 Try.underlying22 p0.out p1.out p2.out p3.out rfl (by decide) _ _ _ (own_down HV3.out (Nat.zero_le _)) (some ⟨x.g, 0, none⟩) x.r.length x.c (x.r.flatMap enE) (by rw [flatMap_len 2 enE enE_len]) (fun h => by cases h)
                    (fun _ => ⟨x.g, 0, rfl, fun j u hu => K9.cell (own_cellS HX2.out.1 j u hu) (fun h => by cases h)⟩) (enE_one _) (by simp only [maxLen]; omega) (by omega))
                  clear d8
                  go_wp2_with (at_builtin; refine wpList_app rfl (.tmp 97) (.tmp 101) _ rfl _ _ rfl rfl (HRun.out _) ?_; rintro v1 w2 ⟨hq2, hq3, hq4⟩; have HQ2 := Lib.hid hq2; have HQ3 := Lib.hid hq3; have HQ4 := Lib.hid hq4; clear hq2 hq3 hq4 HRun)
                  go_roundw
                  case rel =>
                    have hlo : ∀ j, (Value.slice A2 P c2).ownBlock = some j → w1.heap.size ≤ j := fun j hj => (HV2.out.lt j hj).1
                    refine ⟨k + 1, by omega, by go_num, ?_, (HK2.out.trans K9).grown HQ3.out (fun j e => .inr (hlo j e))⟩
                    rw [Hid, H7.out, H6.out, List.flatMap_append]
                    refine own_up HQ2.out (fun j hj => ?_)
                    rcases HQ4.out with h | h
                    · exact hlo j (h ▸ hj)
                    · rw [h] at hj
                      injection hj with hj
                      subst hj
                      exact Nat.le_trans HK2.out.size K9.size
                  case measure => simp [intOf]; omega
        · obtain rfl : k = xs.length := by omega
          have hP2 : P = l.length := by
            have h1 := hP.out
            have h2 := pos_all (xs.map (·.r))
            rw [List.length_map] at h2
            rw [h2, HS.out, runs_flat most _ l (Nat.le_refl _)] at h1
            exact h1.symm
          subst hP2
          have HV2 := HV.out
          rw [List.take_length] at HV2
          have HR2 : Hid (RdE wr A2 l) := Rd.of_own HV2
          have HA2 := Lib.hid (hA0.out.kept (K1.out.trans HK.out))
          clear HV2
          go_wp2_with fail
          refine (runs_alive wr).mono ?_
          rintro e w2 ⟨rfl, k2⟩
          go_wp2_with fail
          refine (same_E_yes w2 A2 A c2 c l l rfl (HR2.out.kept k2) (HA2.out.kept k2) (by omega)).mono ?_
          rintro e w3 ⟨rfl, k3⟩
          go_wp2_with fail
          go_ret
          exact ⟨rfl, ((K1.out.trans HK.out).trans k2).trans k3⟩
  · go_enter Try.func4, Try.ntmps4
    go_wp2_with fail
    refine (runs_Of most w A c l hA0.out hc hn0 hmb hO.out).mono ?_
    rintro e w1 (⟨hr, rfl, k1⟩ | ⟨hr, v, xs, rfl, hxs, ho1, hx1, k1⟩)
    · go_wp2_with (go_at_call 6; refine (runs_alive _).mono ?_; rintro e w2 ⟨rfl, k2⟩)
      go_ret
      exact ⟨rfl, k1.trans k2⟩
    · go_wp2_with (go_at_call 6; refine (runs_alive _).mono ?_; rintro e w2 ⟨rfl, k2⟩)
      go_ret
      exact ⟨rfl, k1.trans k2⟩
end Go.Proofs.Ytgbicbeofgpinaa
