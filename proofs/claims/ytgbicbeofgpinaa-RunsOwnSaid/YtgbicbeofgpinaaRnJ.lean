/- Exceptions in runs: the document's answer: all of them. -/
import Derived.Test.YtgbicbeofgpinaaRnI
namespace Go.Proofs.Ytgbicbeofgpinaa
open Go.RowKit

theorem own_cellS {w : World} {base e size n g c : Nat} {xs : List Value} (h : w.ownsRow base e size (.slice (some ⟨g, 0, none⟩) n c) n xs) (j : Nat) (u : Value) (hu : xs[j]? = some u) : w.cell? ⟨g, 0 + j, none⟩ = some u := by
  have := h.cells (g := g) rfl j u hu
  rwa [Addr.add_lit] at this
set_option maxHeartbeats 4000000 in
theorem ref_Of (most : Int) (w : World) (A : Option Addr) (c : Nat) (l : List En) (hA : RdE w A l) (hn : l.length ≤ 1000000) (ho : ∀ x ∈ l, x.org ≤ 9223372036854775807) :
    Calls Try.prog 8 #[.int .i64 most, .slice A l.length c] w (OfPost most l w) := by
  have HR := ref_Right most w A c l hA hn
  by_cases hr : rightR most l = true
  · obtain ⟨hup, hm⟩ := right_up hr ho
    have HU := Lib.hid hup
    have HS : Hid (∀ k, (hk : k < l.length) → ∃ b o, A = some ⟨b, o, none⟩ ∧ w.cell? ⟨b, o + k * 2, none⟩ = some (.int .i64 l[k].org) ∧ w.cell? ⟨b, o + k * 2 + 1, none⟩ = some (.int .i64 l[k].idx) ∧ ∀ (j : Nat), j < l.length → w.cell? ⟨b, o + j * 2, none⟩ = some (.int .i64 (l[j]?.getD ⟨0, 0⟩).org)) := fun k hk => by
      obtain ⟨b, o, e, _, hc⟩ := hA.at_ (by omega)
      exact ⟨b, o, e, (hc k hk).1, (hc k hk).2, fun j hj => by rw [List.getElem?_eq_getElem hj]; exact (hc j hj).1⟩
    clear hA hup
    have hr' := Lib.hid hr
    obtain ⟨i0, p0, p1, p2, p3⟩ := info_parts infoE
    obtain ⟨j0, q0, q1, q2, q3⟩ := info_parts infoEs
    replace p0 := Lib.hid p0
    replace p1 := Lib.hid p1
    replace p2 := Lib.hid p2
    replace p3 := Lib.hid p3
    replace q0 := Lib.hid q0
    replace q1 := Lib.hid q1
    replace q2 := Lib.hid q2
    replace q3 := Lib.hid q3
    go_enter Try.func8, Try.ntmps8
    go_wp2_with (go_at_call 16; refine HR.mono ?_; rintro e w1 ⟨rfl, k1⟩; rw [hr])
    have K1 := Lib.hid k1
    clear k1 HR hr
    go_loopw [7, 8] (fun v i W => ∃ (k : Nat) (xs : List Rn), k ≤ l.length ∧ i = .int .i64 k ∧ Hid (xs.map (·.r) = runsR most (l.take k)) ∧ Hid (W.ownsRow w.heap.size 22 1 v xs.length (xs.map rnV)) ∧ Hid (∀ x ∈ xs, RnOk w.heap.size x W) ∧ Hid (Kept [] w W)) (fun _ i _ => l.length - (intOf i).toNat)
    case atStart => exact ⟨0, [], Nat.zero_le _, rfl, rfl, World.ownsRow_nil _ _ _ _, (fun _ h => by cases h), K1.out⟩
    case round =>
      obtain ⟨k, xs, hk, rfl, HE, HO, HX, HK⟩ := hrel
      obtain ⟨A', c', rfl, _⟩ := own_slice HO.out
      by_cases hlt : k < l.length
      · obtain ⟨b, o, rfl, h0, h1, h2⟩ := HS.out k hlt
        have c0 := HK.out.cell h0 (fun h => by cases h)
        have c1 := HK.out.cell h1 (fun h => by cases h)
        have hlti : (k : Int) < (l.length : Int) := by omega
        have hTake : Hid (l.take (k + 1) = l.take k ++ [l[k]]) := List.take_succ_eq_append_getElem hlt
        have hsz : xs.length ≤ k := by
          have h3 := congrArg List.length HE.out
          have h4 := congrArg List.length (runs_flat most _ (l.take k) (Nat.le_refl _))
          have h5 := runs_ne most _ (l.take k) (Nat.le_refl _)
          have h6 : ∀ (R : List (List En)), (∀ r ∈ R, r ≠ []) → R.length ≤ R.flatten.length := by
            intro R
            induction R with
            | nil => intro _; simp
            | cons r R ih =>
              intro h
              have := ih (fun x hx => h x (List.mem_cons_of_mem _ hx))
              have h7 := List.length_pos_iff.2 (h r (List.mem_cons_self ..))
              simp only [List.flatten_cons, List.length_append, List.length_cons]
              omega
          have h8 := h6 _ h5
          rw [List.length_map] at h3
          rw [List.length_take] at h4
          omega
        obtain ⟨nq, HSN⟩ : ∃ nq : Nat, Hid (nq = 0) := ⟨0, rfl⟩
        clear HSN
        obtain ⟨n, hxn⟩ : ∃ n, Hid (xs.length = n) := ⟨_, Lib.hid rfl⟩
        by_cases hz : k = 0
        · subst hz
          have hx0 : xs = [] := List.map_eq_nil_iff.1 (HE.out)
          subst hx0
          have hTake1 := hTake.out
          simp only [List.take_zero, List.nil_append, Nat.zero_add] at hTake1
          obtain ⟨y, hyy⟩ : ∃ y, Hid (l[0] = y) := ⟨_, Lib.hid rfl⟩
          rw [hyy.out] at c0 c1 hTake1
          have HE2 : Hid ([] ++ [[y]] = runsR most (l.take (0 + 1))) := by
            rw [Hid, hTake1, runsR_one]
            rfl
          simp only [Nat.zero_mul, Nat.add_zero] at c0 c1
          simp only [List.length_nil, List.map_nil] at HO
          rw [List.length_nil]
          clear hTake1 hTake HE h0 h1 h2 hxn
          go_wp2_with fail
          go_quiet (fail)
          obtain ⟨W0, hW0⟩ : ∃ W0, W0 = wr.drewN nq := ⟨_, rfl⟩
          have K0 : Kept [] wr W0 := hW0 ▸ (Kept.refl [] wr).drewN nq
          rw [← hW0]
          clear hW0
          have d0 := K0.cell c0 (fun h => by cases h)
          have d1 := K0.cell c1 (fun h => by cases h)
          have HOW := Lib.hid (K0.owns HO.out (fun _ _ h => by cases h))
          have HBn := Lib.hid (blk_new' (w := W0.alloc (.cells #[.int .i64 y.org, .int .i64 y.idx] 36)) (t := 22) (cs := #[.slice (some ⟨W0.heap.size, 0, none⟩) 1 1]) (g := W0.heap.size + 1) (by simp))
          have HRun := Lib.hid (fun ty => run_app (P := Try.prog) ((W0.alloc (.cells #[.int .i64 y.org, .int .i64 y.idx] 36)).alloc (.cells #[.slice (some ⟨W0.heap.size, 0, none⟩) 1 1] 22)) 24 ty 22 j0 _ 1 24 Try.underlying24 q0.out q1.out q2.out q3.out rfl (by decide) _ _ _ ((own_down (HOW.out.alloc _) (Nat.zero_le _)).alloc _) (some ⟨W0.heap.size + 1, 0, none⟩) 1 1 [.slice (some ⟨W0.heap.size, 0, none⟩) 1 1] (by simp) (fun h => by cases h)
            (fun _ => ⟨_, 0, rfl, fun j u hu => by
              have := World.news_of_block HBn.out j u hu
              rwa [Addr.add_lit] at this⟩) (by intro u hu; simp at hu; subst hu; rfl) (by simp only [maxLen]; omega) (by omega))
          clear c0 c1 
          go_wp2_with (at_builtin; refine wpList_app rfl (.tmp 68) (.tmp 74) _ rfl _ _ rfl rfl (HRun.out _) ?_; rintro v1 w2 ⟨hq2, hq3, hq4⟩; have HQ2 := Lib.hid hq2; have HQ3 := Lib.hid hq3; have HQ4 := Lib.hid hq4; clear hq2 hq3 hq4 HRun)
          go_roundw
          case rel =>
            obtain ⟨f1, f2, f3⟩ := fin_app (w := w) (wr := W0) (xs := []) (y := y) (A' := A') (C := c') (v' := v1) (W2 := w2) (by exact HOW.out) (fun x hx => (HX.out x hx).kept K0 (fun h => by cases h)) (HK.out.trans K0) (by exact HQ2.out) (by exact HQ3.out) (by exact HQ4.out)
            refine ⟨0 + 1, _, by omega, by go_num, ?_, f1, f2, f3⟩
            rw [List.map_append]
            exact HE2.out
          case measure => simp [intOf]; omega
        · have hz1 : (0 : Int) < (k : Int) := by omega
          have hz2 : 0 < k := by omega
          have hz3 : 1 ≤ k := by omega
          have hi0 : (0 : Int) ≤ (k : Int) - 1 := by omega
          have hi1 : (k : Int) - 1 < (l.length : Int) := by omega
          have hi4 : (0 : Int) ≤ (k : Int) := by omega
          have hi5 : (1 : Int) ≤ (k : Int) := by omega
          have hmi : ((k : Int) - 1).toNat = k - 1 := by omega
          have hwm : IntKind.i64.wrap ((k : Int) - 1) = (k : Int) - 1 := IntWalk.i64_in _ (by omega)
          have hp := h2 (k - 1) (by omega)
          rw [List.getElem?_eq_getElem (by omega)] at hp
          simp only [Option.getD_some] at hp
          have cp := HK.out.cell hp (fun h => by cases h)
          have hTake0 : l.take k = l.take (k - 1) ++ [l[k - 1]'(by omega)] := by
            have := List.take_succ_eq_append_getElem (l := l) (i := k - 1) (by omega)
            rwa [show k - 1 + 1 = k by omega] at this
          have hxy := HU.out.1 (k - 1) (by omega)
          simp only [show k - 1 + 1 = k by omega] at hxy
          have hlo := (HU.out.2 l[k] (List.getElem_mem _)).2
          have hlo2 := (HU.out.2 (l[k - 1]'(by omega)) (List.getElem_mem _)).1
          obtain ⟨R, r, e1, hrne, e2⟩ := runs_snoc most l[k] (l[k - 1]'(by omega)) _ (l.take (k - 1)) (Nat.le_refl _)
          rw [← hTake0] at e1 e2
          rw [← hTake.out] at e2
          obtain ⟨y, hyy⟩ : ∃ y, Hid (l[k] = y) := ⟨_, Lib.hid rfl⟩
          obtain ⟨z, hzz⟩ : ∃ z, Hid (l[k - 1]'(by omega) = z) := ⟨_, Lib.hid rfl⟩
          rw [hyy.out] at c0 c1 e2 hxy hlo
          rw [hzz.out] at cp e2 hxy hlo2
          have hwx : IntKind.i64.wrap (z.org + 1) = z.org + 1 := IntWalk.i64_in _ (by omega)
          have hrl : r.length ≤ 1000000 := by
            have h4 := congrArg List.length (runs_flat most _ (l.take k) (Nat.le_refl _))
            rw [e1, List.flatten_append, List.flatten_singleton, List.length_append, List.length_take] at h4
            omega
          obtain ⟨xs0, x, hxs, hx0, hxr⟩ := split_runs (HE.out.trans e1)
          subst hxs
          subst hxr
          have hO := HO.out
          simp only [List.length_append, List.length_cons, List.length_nil, Nat.zero_add, List.map_append, List.map_cons, List.map_nil] at hO hsz
          rw [List.length_append, List.length_cons, List.length_nil, Nat.zero_add]
          obtain ⟨G, C, e3, _⟩ := own_some hO (by omega)
          injection e3 with e3 _ e4
          subst e3
          subst e4
          have c8 := own_cell1 hO xs0.length (rnV x) (by rw [List.getElem?_append_right (by simp)]; simp)
          have f8 := own_frozen hO xs0.length
          have HO1 := Lib.hid hO
          have hbG : G < wr.heap.size := (hO.lt G rfl).2
          clear hO HO
          have HX0 := Lib.hid hx0
          have HE2 := Lib.hid e2
          clear e1 e2 hx0 hp h0 h1 h2 hTake0 hTake HE hxn
          have HOx := Lib.hid (HX.out x (List.mem_append_right _ (List.mem_singleton.2 rfl)))
          obtain ⟨xr, xg, xc⟩ := x
          dsimp only [rnV] at c8
          by_cases hgo : z.org + 1 = y.org
          · by_cases hf : (xr.length : Int) < most
            · go_wp2_with fail
              go_quiet (fail)
              obtain ⟨W0, hW0⟩ : ∃ W0, W0 = wr.drewN nq := ⟨_, rfl⟩
              have K0 : Kept [] wr W0 := hW0 ▸ (Kept.refl [] wr).drewN nq
              rw [← hW0]
              clear hW0
              have cA := (K0.alloc (.cells #[] 36)).cell c8 (fun h => by cases h)
              have HRun := Lib.hid (fun ty => run_app (P := Try.prog) (W0.alloc (.cells #[] 36)) 22 ty 36 i0 _ 2 16 Try.underlying22 p0.out p1.out p2.out p3.out rfl (by decide) _ 0 [] (emptyRow W0 _ 2) (some ⟨xg, 0, none⟩) xr.length xc (xr.flatMap enE) (by rw [flatMap_len 2 enE enE_len]) (fun h => by cases h)
                (fun _ => ⟨xg, 0, rfl, fun j u hu => (K0.alloc (.cells #[] 36)).cell (own_cellS HOx.out.1 j u hu) (fun h => by cases h)⟩) (enE_one _) (by simp only [maxLen]; omega) (by omega))
              have hz0 := K0.size
              have hxp : 0 < xr.length := List.length_pos_iff.2 HOx.out.2
              have HC0 := Lib.hid c0
              have HC1 := Lib.hid c1
              have HC8 := Lib.hid c8
              have HF8 := Lib.hid f8
              clear c0 c1 c8 f8 cp
              go_wp2_with (first | (at_builtin; refine wpList_app rfl (.tmp 51) (.tmp 55) _ rfl _ _ rfl rfl (HRun.out _) ?_; rintro v1 w2 ⟨hq2, hq3, hq4⟩; rw [Nat.zero_add, List.nil_append] at hq2; obtain ⟨g1, cc1, rfl, _⟩ := own_some hq2 (by omega); have K2 : Kept [] W0 w2 := ((Kept.refl [] W0).alloc _).grown hq3 (fun k e => .inr (by simp [Value.ownBlock] at e; omega)); have K02 := K0.trans K2; have d0 := K02.cell HC0.out (fun h => by cases h); have d1 := K02.cell HC1.out (fun h => by cases h); have HRun2 := Lib.hid (fun ty => run_app (P := Try.prog) (w2.alloc (.cells #[.int .i64 y.org, .int .i64 y.idx] 36)) 22 ty 36 i0 _ 2 16 Try.underlying22 p0.out p1.out p2.out p3.out rfl (by decide) _ _ _ (hq2.alloc _) (some ⟨w2.heap.size, 0, none⟩) 1 1 ([y].flatMap enE) (by simp [enE]) (fun h => by cases h) (fun _ => ⟨_, 0, rfl, fun j u hu => own_cellS (oneRow w2 y) j u hu⟩) (enE_one _) (by simp only [maxLen]; omega) (by omega)); have HQ2 := Lib.hid hq2; have HQ3 := Lib.hid hq3; have HQ4 := Lib.hid hq4; clear hq2 hq3 hq4 HRun) | (at_builtin; refine wpList_app rfl (.tmp 57) (.tmp 62) _ rfl _ _ rfl rfl (HRun2.out _) ?_; rintro v3 w4 ⟨hr2, hr3, hr4⟩; obtain ⟨g3, cc3, rfl, _⟩ := own_some hr2 (by omega); have K4 : Kept [g1] w2 w4 := ((Kept.refl [g1] w2).alloc _).grown hr3 (fun k e => .inl (by simp [Value.ownBlock] at e; simp [e])); have hg1 : wr.heap.size ≤ g1 := (by have h5 := HQ4.out; simp [Value.ownBlock] at h5; omega); have K04 : Kept [] wr w4 := K02.trans' K4 (fun z hm => .inr (by simp at hm; omega)); have d8 := K04.cell HC8.out (fun h => by cases h); have f8 := (K04.frozen (p := ⟨G, xs0.length, none⟩) hbG (fun h => by cases h)).trans HF8.out; have HR2 := Lib.hid hr2; have HR4 := Lib.hid hr4; clear hr2 hr3 hr4 HRun2))
              go_roundw
              case rel =>
                have hsz0 := HK.out.size
                have hgo' : y.org = z.org + 1 := hgo.symm
                have e4 : (⟨xr ++ [y], g3, cc3⟩ : Rn).r.length = xr.length + 1 := by simp
                obtain ⟨f1, f2, f3⟩ := fin_put (r2 := xr ++ [y]) (g2 := g3) (c2 := cc3) HO1.out HX.out HK.out K04 (by
                  rw [List.length_append, List.length_singleton, List.flatMap_append]
                  exact HR2.out) (by simp) (by
                  have h5 := HR4.out
                  simp [Value.ownBlock] at h5
                  have := K02.size
                  omega)
                rw [List.length_append, List.length_singleton] at f1 f2 f3
                refine ⟨k + 1, xs0 ++ [(⟨xr ++ [y], g3, cc3⟩ : Rn)], by omega, by go_num, ?_, f1, f2, f3⟩
                rw [Hid, HE2.out, if_pos ⟨hgo', hf⟩, List.map_append, HX0.out]
                rfl
              case measure => simp [intOf]; omega
            · have HE3 := HE2.out
              rw [if_neg (fun h => hf h.2), ← HX0.out] at HE3
              have HE4 : Hid ((xs0 ++ [(⟨xr, xg, xc⟩ : Rn)]).map (·.r) ++ [[y]] = runsR most (l.take (k + 1))) := by
                rw [Hid, HE3, List.map_append]
                rfl
              clear HE3
              go_wp2_with fail
              go_quiet (fail)
              obtain ⟨W0, hW0⟩ : ∃ W0, W0 = wr.drewN nq := ⟨_, rfl⟩
              have K0 : Kept [] wr W0 := hW0 ▸ (Kept.refl [] wr).drewN nq
              rw [← hW0]
              clear hW0
              have d0 := K0.cell c0 (fun h => by cases h)
              have d1 := K0.cell c1 (fun h => by cases h)
              have HOW := Lib.hid (K0.owns HO1.out (fun _ _ h => by cases h))
              have HBn := Lib.hid (blk_new' (w := W0.alloc (.cells #[.int .i64 y.org, .int .i64 y.idx] 36)) (t := 22) (cs := #[.slice (some ⟨W0.heap.size, 0, none⟩) 1 1]) (g := W0.heap.size + 1) (by simp))
              have HRun := Lib.hid (fun ty => run_app (P := Try.prog) ((W0.alloc (.cells #[.int .i64 y.org, .int .i64 y.idx] 36)).alloc (.cells #[.slice (some ⟨W0.heap.size, 0, none⟩) 1 1] 22)) 24 ty 22 j0 _ 1 24 Try.underlying24 q0.out q1.out q2.out q3.out rfl (by decide) _ _ _ ((own_down (HOW.out.alloc _) (Nat.zero_le _)).alloc _) (some ⟨W0.heap.size + 1, 0, none⟩) 1 1 [.slice (some ⟨W0.heap.size, 0, none⟩) 1 1] (by simp) (fun h => by cases h)
                (fun _ => ⟨_, 0, rfl, fun j u hu => by
                  have := World.news_of_block HBn.out j u hu
                  rwa [Addr.add_lit] at this⟩) (by intro u hu; simp at hu; subst hu; rfl) (by simp only [maxLen]; omega) (by omega))
              clear c0 c1 c8 f8 cp
              go_wp2_with (at_builtin; refine wpList_app rfl (.tmp 68) (.tmp 74) _ rfl _ _ rfl rfl (HRun.out _) ?_; rintro v1 w2 ⟨hq2, hq3, hq4⟩; have HQ2 := Lib.hid hq2; have HQ3 := Lib.hid hq3; have HQ4 := Lib.hid hq4; clear hq2 hq3 hq4 HRun)
              go_roundw
              case rel =>
                obtain ⟨f1, f2, f3⟩ := fin_app (w := w) (wr := W0) (xs := xs0 ++ [(⟨xr, xg, xc⟩ : Rn)]) (y := y) (A' := some ⟨G, 0, none⟩) (C := c') (v' := v1) (W2 := w2) (by simp only [List.length_append, List.length_cons, List.length_nil, Nat.zero_add, List.map_append, List.map_cons, List.map_nil]; exact HOW.out) (fun x hx => (HX.out x hx).kept K0 (fun h => by cases h)) (HK.out.trans K0) (by simp only [List.length_append, List.length_cons, List.length_nil, Nat.zero_add, List.map_append, List.map_cons, List.map_nil]; exact HQ2.out) (by simp only [List.length_append, List.length_cons, List.length_nil, Nat.zero_add]; exact HQ3.out) (by simp only [List.length_append, List.length_cons, List.length_nil, Nat.zero_add]; exact HQ4.out)
                refine ⟨k + 1, _, by omega, by go_num, ?_, f1, f2, f3⟩
                rw [List.map_append]
                exact HE4.out
              case measure => simp [intOf]; omega
          · have HE3 := HE2.out
            rw [if_neg (fun h => hgo h.1.symm), ← HX0.out] at HE3
            have HE4 : Hid ((xs0 ++ [(⟨xr, xg, xc⟩ : Rn)]).map (·.r) ++ [[y]] = runsR most (l.take (k + 1))) := by
              rw [Hid, HE3, List.map_append]
              rfl
            clear HE3
            go_wp2_with fail
            go_quiet (fail)
            obtain ⟨W0, hW0⟩ : ∃ W0, W0 = wr.drewN nq := ⟨_, rfl⟩
            have K0 : Kept [] wr W0 := hW0 ▸ (Kept.refl [] wr).drewN nq
            rw [← hW0]
            clear hW0
            have d0 := K0.cell c0 (fun h => by cases h)
            have d1 := K0.cell c1 (fun h => by cases h)
            have HOW := Lib.hid (K0.owns HO1.out (fun _ _ h => by cases h))
            have HBn := Lib.hid (blk_new' (w := W0.alloc (.cells #[.int .i64 y.org, .int .i64 y.idx] 36)) (t := 22) (cs := #[.slice (some ⟨W0.heap.size, 0, none⟩) 1 1]) (g := W0.heap.size + 1) (by simp))
            have HRun := Lib.hid (fun ty => run_app (P := Try.prog) ((W0.alloc (.cells #[.int .i64 y.org, .int .i64 y.idx] 36)).alloc (.cells #[.slice (some ⟨W0.heap.size, 0, none⟩) 1 1] 22)) 24 ty 22 j0 _ 1 24 Try.underlying24 q0.out q1.out q2.out q3.out rfl (by decide) _ _ _ ((own_down (HOW.out.alloc _) (Nat.zero_le _)).alloc _) (some ⟨W0.heap.size + 1, 0, none⟩) 1 1 [.slice (some ⟨W0.heap.size, 0, none⟩) 1 1] (by simp) (fun h => by cases h)
              (fun _ => ⟨_, 0, rfl, fun j u hu => by
                have := World.news_of_block HBn.out j u hu
                rwa [Addr.add_lit] at this⟩) (by intro u hu; simp at hu; subst hu; rfl) (by simp only [maxLen]; omega) (by omega))
            clear c0 c1 c8 f8 cp
            go_wp2_with (at_builtin; refine wpList_app rfl (.tmp 68) (.tmp 74) _ rfl _ _ rfl rfl (HRun.out _) ?_; rintro v1 w2 ⟨hq2, hq3, hq4⟩; have HQ2 := Lib.hid hq2; have HQ3 := Lib.hid hq3; have HQ4 := Lib.hid hq4; clear hq2 hq3 hq4 HRun)
            go_roundw
            case rel =>
              obtain ⟨f1, f2, f3⟩ := fin_app (w := w) (wr := W0) (xs := xs0 ++ [(⟨xr, xg, xc⟩ : Rn)]) (y := y) (A' := some ⟨G, 0, none⟩) (C := c') (v' := v1) (W2 := w2) (by simp only [List.length_append, List.length_cons, List.length_nil, Nat.zero_add, List.map_append, List.map_cons, List.map_nil]; exact HOW.out) (fun x hx => (HX.out x hx).kept K0 (fun h => by cases h)) (HK.out.trans K0) (by simp only [List.length_append, List.length_cons, List.length_nil, Nat.zero_add, List.map_append, List.map_cons, List.map_nil]; exact HQ2.out) (by simp only [List.length_append, List.length_cons, List.length_nil, Nat.zero_add]; exact HQ3.out) (by simp only [List.length_append, List.length_cons, List.length_nil, Nat.zero_add]; exact HQ4.out)
              refine ⟨k + 1, _, by omega, by go_num, ?_, f1, f2, f3⟩
              rw [List.map_append]
              exact HE4.out
            case measure => simp [intOf]; omega
      · obtain rfl : k = l.length := by omega
        go_wp2_with fail
        refine bodyPost_ret (results_tmp2 rfl _ _ _) rfl ?_
        exact .inr ⟨hr'.out, _, xs, rfl, by rw [HE.out, List.take_length], HO.out, HX.out, HK.out⟩
  · have hr : rightR most l = false := by simpa using hr
    go_enter Try.func8, Try.ntmps8
    go_wp2_with (go_at_call 16; refine HR.mono ?_; rintro e w1 ⟨rfl, k1⟩; rw [hr])
    refine bodyPost_ret (results_tmp2 rfl _ _ _) rfl ?_
    exact .inl ⟨hr, rfl, k1⟩
end Go.Proofs.Ytgbicbeofgpinaa
