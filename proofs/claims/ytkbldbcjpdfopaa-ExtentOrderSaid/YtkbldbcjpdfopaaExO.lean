/- Extents: the document's Gaps. -/
import Derived.Test.YtkbldbcjpdfopaaExN
namespace Go.Proofs.Ytkbldbcjpdfopaa
open Go.RowKit

theorem own_putE {w : World} {base e size n g c k : Nat} {xs : List Value} (h : w.ownsRow base e size (.slice (some ⟨g, 0, none⟩) n c) n xs) (u : Value) : (w.setCell ⟨g, k, none⟩ u).ownsRow base e size (.slice (some ⟨g, 0, none⟩) n c) n (xs.set k u) := by
  refine ⟨by simpa using h.1, ?_⟩
  rcases h.2 with ⟨h2, _⟩ | ⟨g', cap, cur, e', hb, hh, h1, h2, h3, h4⟩
  · cases h2
  · injection e' with e1 _ e3
    injection e1 with e1
    injection e1 with e1
    subst e1
    subst e3
    refine .inr ⟨g, c, cur.setIfInBounds k u, rfl, hb, Blk.set_ (show Blk w g e cur from hh) k u, h1, h2, by simpa using h3, ?_⟩
    rw [← h4, Array.toList_setIfInBounds, List.take_set]
theorem EAt.put_len {n₀ g c : Nat} {w : World} {a : List Ex} {x : Ex} (h : EAt n₀ w (some ⟨g, 0, none⟩) c (a ++ [x])) (y : Int) : EAt n₀ (w.setCell ⟨g, a.length * 2 + 1, none⟩ (.int .i64 y)) (some ⟨g, 0, none⟩) c (a ++ [⟨x.st, y⟩]) := by
  have h1 := own_putE (k := a.length * 2 + 1) h (.int .i64 y)
  have e : ((a ++ [x]).flatMap exE).set (a.length * 2 + 1) (.int .i64 y) = (a ++ [(⟨x.st, y⟩ : Ex)]).flatMap exE := by
    rw [List.flatMap_append, List.flatMap_append, List.set_append_right _ _ (by rw [flatMap_len 2 exE exE_len]; omega), flatMap_len 2 exE exE_len, show a.length * 2 + 1 - a.length * 2 = 1 by omega]
    rfl
  rw [e] at h1
  unfold EAt
  rw [List.length_append, List.length_singleton] at h1 ⊢
  exact h1
theorem cutG_len : ∀ (g : List Ex) (a : Int), (cutG a g).length ≤ g.length
  | [], _ => Nat.le_refl _
  | x :: t, a => by
    rw [cutG]
    split
    · have := cutG_len t a
      rw [List.length_cons, List.length_cons]
      omega
    · exact Nat.zero_le _
theorem has_bound {r : Ex} {l : List Ex} (h : rightX r l) : ∀ x ∈ l, 0 ≤ x.st ∧ x.st ≤ 4000000 ∧ 0 ≤ x.len ∧ x.len ≤ 4000000 := fun x hx => by
  have h1 := h.2.1 x hx
  have h2 := inB_iff.1 h.1.1
  have h3 := inB_iff.1 h.1.2
  unfold withinP at h1
  omega
set_option maxRecDepth 4000 in
set_option maxHeartbeats 4000000 in
theorem ref_Gaps (W : World) (n₀ : Nat) (r : Ex) (A : Option Addr) (c : Nat) (l : List Ex) (hn0 : n₀ ≤ W.heap.size) (hln : l.length ≤ 8796093022208) (hA : RdX n₀ W A l) (hl : ∀ x ∈ l, wfX x) :
    Calls Try.prog 8 #[exV r, .slice A l.length c] W (GapsPost r l W) := by
  have K0 := (Kept.refl [] W).alloc (.cells #[.int .i64 r.st, .int .i64 r.len] 23)
  have HR := Lib.hid (ref_Right (W.alloc (.cells #[.int .i64 r.st, .int .i64 r.len] 23)) n₀ r A c l hln (hA.kept K0 hn0) hl)
  have HB := Lib.hid (Blk.new W 23 #[.int .i64 r.st, .int .i64 r.len])
  have HA := Lib.hid hA
  have hn0W := Lib.hid hn0
  replace K0 := Lib.hid K0
  clear hA hl
  by_cases hr : rightX r l
  · have hb : Hid (rightB r l = true) := rightB_iff.2 hr
    have HG : Hid (GapsOk r l (gapsX r l)) := gaps_ok hr
    have HLb := Lib.hid (has_bound hr)
    have g1 := inB_iff.1 hr.1.1
    have g2 := inB_iff.1 hr.1.2
    have hgl := gapsX_len r l
    have hsum := right_sum hr
    have hgl2 : (gapsX r l).length ≤ 1048577 := by omega
    clear hr hgl hsum
    generalize hgx : gapsX r l = G at *
    have HF : Hid (∀ e w', Kept [] W w' → (∃ A c, e = .returned (.tuple #[.slice A G.length c, .int .i64 0]) ∧ EAt W.heap.size w' A c G) → GapsPost r l W e w') := by
      rintro e w' k ⟨A, c, rfl, h⟩
      refine ⟨k, .inr ⟨hb.out, A, c, ?_, ?_⟩⟩
      · rw [hgx]
      · rw [hgx]
        exact h
    clear hgx
    obtain ⟨rs, rl⟩ := r
    unfold exV at HR ⊢
    dsimp only at HR HB K0 HG g1 g2 ⊢
    have we : IntKind.i64.wrap (rs + rl) = rs + rl := IntWalk.i64_in _ (by omega)
    generalize GapsPost ⟨rs, rl⟩ l W = Q at *
    go_enter Try.func8, Try.ntmps8
    go_wp2_with fail
    refine HR.out.mono ?_
    rintro e w1 ⟨rfl, k1⟩
    rw [hb.out]
    have HB1 := Lib.hid (HB.out.kept k1 (fun h => by cases h))
    have b0 := HB1.out.cell 0
    have K1 := Lib.hid (K0.out.trans k1)
    have hz1 : W.heap.size < w1.heap.size := HB1.out.lt
    clear k1 HR
    go_wp2_with fail
    clear b0
    go_loopw [7, 8, 9] (fun o f i V => ∃ (a : Int) (A' : Option Addr) (c' : Nat), i = .int .i64 a ∧ (rs ≤ a ∧ a ≤ rs + rl) ∧ o = .slice A' (cutG a G).length c' ∧ f = .bool (goesG a G) ∧ Hid (EAt w1.heap.size V A' c' (cutG a G)) ∧ Hid (Kept [] w1 V)) (fun _ _ i _ => (rs + rl - intOf i).toNat)
    case atStart =>
      have e1 : cutG rs G = [] := cutG_none fun x hx => (HG.out.inn x hx).2.1
      have e2 : goesG rs G = false := by
        unfold goesG
        rw [List.any_eq_false]
        intro x hx h
        have := (HG.out.inn x hx).2.1
        dsimp only at this
        simp only [Bool.and_eq_true, decide_eq_true_eq] at h
        omega
      refine ⟨rs, none, 0, rfl, by omega, by rw [e1]; rfl, by rw [e2], ?_, Kept.refl _ _⟩
      rw [e1]
      exact World.ownsRow_nil _ _ _ _
    case round =>
      obtain ⟨a, A', c', rfl, ha, rfl, rfl, HO, HK⟩ := hrel
      have KK := Lib.hid (K1.out.trans HK.out)
      have r0 : wr.cell? ⟨W.heap.size, 0, none⟩ = some (.int .i64 rs) := (HB1.out.kept HK.out (fun h => by cases h)).cell 0
      have r1 : wr.cell? ⟨W.heap.size, 1, none⟩ = some (.int .i64 rl) := (HB1.out.kept HK.out (fun h => by cases h)).cell 1
      by_cases hlt : a < rs + rl
      · have hna : IntKind.i64.wrap (a + 1) = a + 1 := IntWalk.i64_in _ (by omega)
        have HH := Lib.hid (ref_has wr n₀ A c l a (HA.out.kept KK.out hn0W.out) hln HLb.out)
        go_wp2_with fail
        refine HH.out.mono ?_
        rintro e w2 ⟨rfl, ⟨nd, rfl⟩⟩
        have HK2 : Hid (Kept [] w1 (wr.drewN nd)) := HK.out.drewN nd
        have HO2 : Hid (EAt w1.heap.size (wr.drewN nd) A' c' (cutG a G)) := own_row HO.out (fun g _ cs t fr hh => ((Kept.refl [] wr).drewN nd).heap hh (fun h => by cases h))
        clear HH r0 r1
        by_cases hu : hasX l a = true
        · obtain ⟨e1, e2⟩ := cut_used HG.out ha.1 hlt hu
          have HO3 : Hid (EAt w1.heap.size (wr.drewN nd) A' c' (cutG (a + 1) G)) := e1 ▸ HO2.out
          have h1 : (cutG a G).length = (cutG (a + 1) G).length := by rw [e1]
          rw [hu]
          rw [h1]
          clear h1 e1
          replace e2 := Lib.hid e2
          go_wp2_with fail
          go_roundw
          case rel => exact ⟨a + 1, A', c', by go_num, by omega, rfl, by rw [e2.out], HO3, HK2⟩
          case measure => simp only [intOf]; omega
        · have hu : hasX l a = false := by simpa using hu
          rw [hu]
          by_cases hg : goesG a G = true
          · obtain ⟨cc, x, e1, e2, e3, h1, h2⟩ := cut_goes HG.out ha.1 hlt hu hg
            rw [hg, e1]
            rw [e1] at HO2
            have HE2 := Lib.hid e2
            have HE3 := Lib.hid e3
            have hcl : (cc ++ [x]).length ≤ 1048577 := by
              have := cutG_len G a
              rw [e1] at this
              omega
            have hcl2 : (cc ++ [x]).length = cc.length + 1 := by simp
            clear e1 e2 e3 hg hu
            obtain ⟨b, rfl, d0, d1⟩ := EAt.at_ HO2.out (k := cc.length) (by omega)
            have hbz := (World.ownsRow.lt HO2.out b rfl).1
            have f1 := own_frozen HO2.out (cc.length * 2 + 1)
            have hx : (cc ++ [x])[cc.length]'(by omega) = x := by simp
            rw [hx] at d0 d1
            rw [hcl2] at hcl ⊢
            replace hcl2 := Lib.hid hcl2
            replace hx := Lib.hid hx
            have hnl : IntKind.i64.wrap (((cc.length : Nat) : Int) + 1 - 1) = (cc.length : Int) := by
              rw [show ((cc.length : Nat) : Int) + 1 - 1 = (cc.length : Int) by omega]
              exact IntWalk.i64_in _ (by omega)
            have hnx : IntKind.i64.wrap (x.len + 1) = x.len + 1 := IntWalk.i64_in _ (by dsimp only at h2; omega)
            clear d0
            go_wp2_with fail
            go_roundw
            case rel =>
              have hl2 : (cc ++ [(⟨x.st, x.len + 1⟩ : Ex)]).length = cc.length + 1 := by simp
              refine ⟨a + 1, _, c', by go_num, by omega, by rw [HE2.out, hl2], by rw [HE3.out], ?_, HK2.out.setCell (.inr hbz) _⟩
              rw [HE2.out]
              exact EAt.put_len HO2.out (x.len + 1)
            case measure => simp only [intOf]; omega
          · have hg : goesG a G = false := by simpa using hg
            obtain ⟨e1, e2⟩ := cut_new HG.out ha.1 hlt hu hg
            rw [hg]
            have hcl : (cutG a G).length ≤ 1048577 := by
              have := cutG_len G a
              omega
            have HRun := Lib.hid (ext_app ⟨a, 1⟩ HO2.out (by omega))
            have HE1 := Lib.hid e1
            have HE2 := Lib.hid e2
            clear e1 e2 hg hu
            generalize cutG a G = cc at *
            dsimp only at HRun
            go_wp2_with (at_builtin; refine wpList_app rfl (.tmp 30) (.tmp 33) _ rfl _ _ rfl rfl (HRun.out _) ?_; rintro v3 w4 ⟨hr2, hr3, hr4⟩; obtain ⟨A3, c3, rfl, _⟩ := own_slice hr2; have HR2 := Lib.hid hr2; have HR3 := Lib.hid hr3; have HR4 := Lib.hid hr4; clear hr2 hr3 hr4 HRun)
            obtain ⟨h5, h6⟩ := ext_app_fin (x := ⟨a, 1⟩) HO2.out HK2.out HR2.out HR3.out HR4.out
            go_roundw
            case rel =>
              have hl2 : (cc ++ [(⟨a, 1⟩ : Ex)]).length = cc.length + 1 := by simp
              refine ⟨a + 1, A3, c3, by go_num, by omega, by rw [HE1.out, hl2], by rw [HE2.out], ?_, h6⟩
              rw [HE1.out]
              unfold EAt
              rw [hl2] at h5 ⊢
              exact h5
            case measure => simp only [intOf]; omega
      · obtain rfl : a = rs + rl := by omega
        have e1 : cutG (rs + rl) G = G := cutG_all fun x hx => by
          have := HG.out.inn x hx
          unfold withinP at this
          dsimp only at this
          omega
        have HO3 : Hid (EAt w1.heap.size wr A' c' G) := e1 ▸ HO.out
        rw [e1]
        clear e1
        go_wp2_with fail
        exact HF.out _ _ KK.out ⟨A', c', rfl, own_down HO3.out (by omega)⟩
  · have hb : Hid (rightB r l = false) := rightB_no hr
    have HF : Hid (∀ e w', Kept [] W w' → e = .returned (.tuple #[.slice none 0 0, .int .i64 1]) → GapsPost r l W e w') := by
      rintro e w' k rfl
      exact ⟨k, .inl ⟨hb.out, rfl⟩⟩
    clear hr
    obtain ⟨rs, rl⟩ := r
    unfold exV at HR ⊢
    dsimp only at HR HB K0 ⊢
    generalize GapsPost ⟨rs, rl⟩ l W = Q at *
    go_enter Try.func8, Try.ntmps8
    go_wp2_with fail
    refine HR.out.mono ?_
    rintro e w1 ⟨rfl, k1⟩
    rw [hb.out]
    have K1 := Lib.hid (K0.out.trans k1)
    clear k1 HR
    go_wp2_with fail
    exact HF.out _ _ K1.out rfl
end Go.Proofs.Ytkbldbcjpdfopaa
