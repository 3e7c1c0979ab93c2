/- Exceptions in runs: the law: its own. -/
import Derived.Test.YtgbicbeofgpinaaRnQ
namespace Go.Proofs.Ytgbicbeofgpinaa
open Go.RowKit

/-- a row that is there, whatever it holds -/
def RowE (n₀ : Nat) (x : Rn) (W : World) : Prop := ∃ cs, W.ownsRow n₀ 36 2 (rnV x) x.r.length cs
theorem set2_own {w : World} {base e n g c b o : Nat} {xs : List Value} (h : w.ownsRow base e 2 (.slice (some ⟨g, 0, none⟩) n c) n xs) (u : Value) : ∃ ys, (w.setCell ⟨b, o, none⟩ u).ownsRow base e 2 (.slice (some ⟨g, 0, none⟩) n c) n ys := by
  rcases h.2 with ⟨h2, _⟩ | ⟨g', cap, cur, e', hb, hh, h1, h2, h3, h4⟩
  · cases h2
  · injection e' with e1 _ e3
    injection e1 with e1
    injection e1 with e1
    subst e1
    subst e3
    by_cases hg : g = b
    · subst hg
      refine ⟨(cur.setIfInBounds o u).toList.take (n * 2), by simp [h3]; omega, .inr ⟨g, c, cur.setIfInBounds o u, rfl, hb, Blk.set_ (show Blk w g e cur from hh) o u, h1, h2, by simpa using h3, rfl⟩⟩
    · exact ⟨xs, h.1, .inr ⟨g, c, cur, rfl, hb, Blk.far (show Blk w g e cur from hh) hg u, h1, h2, h3, h4⟩⟩
theorem RowE.set {n₀ : Nat} {x : Rn} {W : World} (h : RowE n₀ x W) (b o : Nat) (u : Value) : RowE n₀ x (W.setCell ⟨b, o, none⟩ u) := by
  obtain ⟨cs, hc⟩ := h
  exact set2_own hc u
theorem RowE.cell {n₀ : Nat} {x : Rn} {W : World} (h : RowE n₀ x W) (j : Nat) (hj : j < x.r.length * 2) : ∃ u, W.cell? ⟨x.g, j, none⟩ = some u ∧ W.frozen? ⟨x.g, j, none⟩ = false := by
  obtain ⟨cs, hc⟩ := h
  have hl := hc.1
  have := own_cellS hc j cs[j] (List.getElem?_eq_getElem (by omega))
  rw [Nat.zero_add] at this
  exact ⟨_, this, own_frozen hc j⟩
set_option maxRecDepth 8000 in
set_option maxHeartbeats 8000000 in
theorem runs_own (most : Int) (w : World) (A : Option Addr) (c : Nat) (l : List En) (hA : RdE w A l) (hA2 : A = none → c = 0) (hc : l.length ≤ c) (hm : l.length ≤ maxLen) (hmb : most ≤ 9223372036854775807) (ho : ∀ x ∈ l, x.org ≤ 9223372036854775807) :
    Calls Try.prog 5 #[.int .i64 most, .slice A l.length c] w (TrueK w) := by
  unfold maxLen at hm
  have hA0 := Lib.hid hA
  clear hA
  have hO := Lib.hid ho
  clear ho
  by_cases hn : l.length ≤ 100
  · have hn0 : l.length ≤ 8796093022208 := by omega
    obtain ⟨i0, p0, p1, p2, p3⟩ := info_parts infoE
    have HRun := Lib.hid (fun ty => run_app (P := Try.prog) (w.alloc (.cells #[] 36)) 22 ty 36 i0 _ 2 16 Try.underlying22 p0 p1 p2 p3 rfl (by decide) _ 0 [] (emptyRow w _ 2) A l.length c (l.flatMap enE) (by rw [flatMap_len 2 enE enE_len]) hA2
      (fun h => by
        obtain ⟨b, o, e, _, hcl⟩ := hA0.out.2 h
        exact ⟨b, o, e, fun j u hu => ((Kept.refl [] w).alloc _).cell (hcl j u hu) (fun h => by cases h)⟩) (enE_one _) (by simp only [maxLen]; omega) (by omega))
    clear p0 p1 p2 p3
    go_enter Try.func5, Try.ntmps5
    go_wp2_with (at_builtin; refine wpList_app rfl (.tmp 19) (.tmp 20) _ rfl _ _ rfl rfl (HRun.out _) ?_; rintro v0 w1 ⟨hq2, hq3, hq4⟩; rw [Nat.zero_add, List.nil_append] at hq2; obtain ⟨AB, cB, rfl, _⟩ := own_slice hq2; have HQ2 := Lib.hid hq2; have K1 := Lib.hid (((Kept.refl [] w).alloc (.cells #[] 36)).grown hq3 (fun k e => .inr (by simp [Value.ownBlock] at e; omega))); clear hq2 hq3 hq4 HRun)
    have RB := Lib.hid (show RdE w1 AB l from Rd.of_own HQ2.out)
    clear HQ2
    refine (runs_Of most w1 A c l (hA0.out.kept K1.out) hc hn0 hmb hO.out).mono ?_
    intro e w2 h
    obtain ⟨A1, c1, xs, rfl, HO1, HS1, HX1, K2, hl1, hb1⟩ := ofU h
    clear h
    have HRow : Hid (∀ x ∈ xs, RowE w1.heap.size x w2) := fun x hx => ⟨_, (HX1.out x hx).1⟩
    go_wp2_with fail
    go_loopw [8] (fun i W => ∃ k : Nat, k ≤ xs.length ∧ i = .int .i64 k ∧ Hid (W.ownsRow w1.heap.size 22 1 (.slice A1 xs.length c1) xs.length (xs.map rnV)) ∧ Hid (∀ x ∈ xs, RowE w1.heap.size x W) ∧ Hid (Kept [] w1 W)) (fun i _ => xs.length - (intOf i).toNat)
    case atStart => exact ⟨0, Nat.zero_le _, rfl, HO1, HRow, K2⟩
    case round =>
      obtain ⟨k, hk, rfl, HO, HW, HK⟩ := hrel
      by_cases hlt : k < xs.length
      · obtain ⟨x, hxx⟩ : ∃ x, Hid (xs[k] = x) := ⟨_, Lib.hid rfl⟩
        have hxm : Hid (x ∈ xs) := by rw [Hid, ← hxx.out]; exact List.getElem_mem _
        have hxb := hb1.out x hxm.out
        obtain ⟨G, C, e1, _⟩ := own_some HO.out (by omega)
        injection e1 with e1 _ e3
        subst e1
        subst e3
        have hki : (k : Int) < (xs.length : Int) := by omega
        obtain ⟨W0, rfl⟩ : ∃ W0, W0 = wr := ⟨wr, rfl⟩
        go_wp2_with fail
        go_loopw [9] (fun j W => ∃ m : Nat, m ≤ x.r.length ∧ j = .int .i64 m ∧ Hid (W.ownsRow w1.heap.size 22 1 (.slice (some ⟨G, 0, none⟩) xs.length c1) xs.length (xs.map rnV)) ∧ Hid (∀ x ∈ xs, RowE w1.heap.size x W) ∧ Hid (Kept [] w1 W)) (fun j _ => x.r.length - (intOf j).toNat)
        case atStart => exact ⟨0, Nat.zero_le _, rfl, HO, HW, HK⟩
        case round =>
          obtain ⟨m, hm0, rfl, HO2, HW2, HK2⟩ := hrel
          have c8 := own_cell1 HO2.out k (rnV xs[k]) (by simp [hlt])
          rw [hxx.out] at c8
          dsimp only [rnV] at c8
          by_cases hml : m < x.r.length
          · have HR := Lib.hid (HW2.out x hxm.out)
            obtain ⟨u0, a0, f0⟩ := HR.out.cell (m * 2) (by omega)
            obtain ⟨u1, a1, f1⟩ := HR.out.cell (m * 2 + 1) (by omega)
            have hmi : (m : Int) < (x.r.length : Int) := by omega
            go_wp2_with fail
            go_roundw
            case rel =>
              obtain ⟨cs, hcs⟩ := HR.out
              have hne : ∀ j, (Value.slice (some ⟨G, 0, none⟩) xs.length c1).ownBlock = some j → j ≠ x.g := fun j hj e => own_own_ne HO2.out hcs (by decide) j hj (by rw [e]; rfl)
              have hlo := (hcs.lt x.g rfl).1
              exact ⟨m + 1, by omega, by go_num, own_set (own_set HO2.out hne _) hne _, fun z hz => ((HW2.out z hz).set _ _ _).set _ _ _, (HK2.out.setCell (.inr hlo) _).setCell (.inr hlo) _⟩
            case measure => simp [intOf]; omega
          · obtain rfl : m = x.r.length := by omega
            go_wp2_with fail
            go_roundw
            case rel => exact ⟨k + 1, by omega, by go_num, HO2, HW2, HK2⟩
            case measure => simp [intOf]; omega
      · obtain rfl : k = xs.length := by omega
        have KA := Lib.hid (K1.out.trans HK.out)
        have RB2 := Lib.hid (RB.out.kept HK.out)
        clear HO HW
        go_wp2_with fail
        refine (runs_Of most wr A c l (hA0.out.kept KA.out) hc hn0 hmb hO.out).mono ?_
        intro e w3 h
        obtain ⟨A3, c3, ys, rfl, HO3, HS3, HX3, K3, hl3, hb3⟩ := ofU h
        clear h
        go_wp2_with fail
        refine (ref_Of most w3 AB cB l (RB2.out.kept K3.out) (by omega) hO.out).mono ?_
        intro e w4 h
        obtain ⟨A4, c4, zs, rfl, HO4, HS4, HX4, K4, hl4, hb4⟩ := ofU h
        clear h
        have HE : Hid (ys.map (·.r) = zs.map (·.r)) := HS3.out.trans HS4.out.symm
        have hys : ys.length ≤ 1000000 := by omega
        have K34 := Lib.hid (K3.out.trans K4.out)
        go_wp2_with fail
        refine (same_R_yes w4 A3 A4 c3 c4 _ _ ys zs HE (K4.out.owns HO3.out (fun _ _ h => by cases h)) HO4.out (fun x hx => (HX3.out x hx).kept K4.out (fun h => by cases h)) HX4.out hys (fun x hx => by have := hb3.out x hx; omega)).mono ?_
        rintro e w5 ⟨rfl, k5⟩
        have K35 := Lib.hid (K34.out.trans k5)
        clear k5
        go_wp2_with fail
        refine (runs_alive w5).mono ?_
        rintro e w6 ⟨rfl, k6⟩
        have K36 := Lib.hid (K35.out.trans k6)
        clear k6
        go_wp2_with fail
        refine (same_E_yes w6 AB A cB c l l rfl (RB2.out.kept K36.out) (hA0.out.kept (KA.out.trans K36.out)) (by omega)).mono ?_
        rintro e w7 ⟨rfl, k7⟩
        go_wp2_with fail
        go_ret
        exact ⟨rfl, (KA.out.trans K36.out).trans k7⟩
  · go_enter Try.func5, Try.ntmps5
    go_wp2_with (go_at_call 6; refine (runs_alive _).mono ?_; rintro e w1 ⟨rfl, k1⟩)
    go_ret
    exact ⟨rfl, k1⟩
end Go.Proofs.Ytgbicbeofgpinaa
