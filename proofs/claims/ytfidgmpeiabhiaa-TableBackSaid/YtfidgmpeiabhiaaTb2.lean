/- Tables: Load. -/
import Derived.Test.YtfidgmpeiabhiaaTb1
namespace Go.Proofs.Ytfidgmpeiabhiaa
open Go.RowKit Go.Maps Go.ChangeMaps

theorem RdI.at_ {w : World} {A : Option Addr} {l : List Int} (h : RdI w A l) : Hid (∀ k, (hk : k < l.length) → ∃ b o, A = some ⟨b, o, none⟩ ∧ w.cell? ⟨b, o + k, none⟩ = some (.int .i64 l[k])) := fun k hk => by
  obtain ⟨b, o, e, hb, hc⟩ := h.2 (by omega)
  exact ⟨b, o, e, hc k (iv l[k]) (by rw [List.getElem?_map, List.getElem?_eq_getElem hk]; rfl)⟩
def LoadPost (n : Int) (l : List Int) (W : World) (e : Ending) (w' : World) : Prop := Kept [] W w' ∧
  ((¬ sizeL n l ∧ e = .returned (.tuple #[.pointer none, .int .i64 1])) ∨ (sizeL n l ∧ ¬ goodL n.toNat l ∧ e = .returned (.tuple #[.pointer none, .int .i64 165])) ∨ (sizeL n l ∧ goodL n.toNat l ∧ ∃ t, e = .returned (.tuple #[tbV t, .int .i64 0]) ∧ TbAt W.heap.size w' t (l.take n.toNat)))
set_option maxRecDepth 4000 in
set_option maxHeartbeats 4000000 in
theorem tb_Load_ok (W : World) (n : Nat) (hn : n ≤ 1048576) (A : Option Addr) (c : Nat) (l : List Int) (hA : RdI W A l) (ho : ∀ x ∈ l, wf64 x) (hl : l.length = 13 * ((n + 12) / 13)) :
    Calls Try.prog 11 #[.int .i64 n, .slice A l.length c] W (LoadPost n l W) := by
  have HA := hA.at_
  have HO := Lib.hid ho
  have hnl : n ≤ l.length := by omega
  have HZ : Hid (sizeL n l) := ⟨by omega, by omega, by rw [Int.toNat_natCast]; exact hl⟩
  have hll : l.length ≤ 1048600 := by omega
  have HN := Lib.hid (tb_New W n (by omega))
  have hnw : newN (n : Int) = n := by
    unfold newN
    rw [if_neg (by omega), Int.toNat_natCast]
  rw [hnw] at HN
  have hr1 : (l.length : Int) % 13 = 0 := by omega
  have hr2 : (l.length : Int) / 13 = ((n : Int) + 12) / 13 := by omega
  have HPg : Hid ((((n + 12) / 13 : Nat) : Int) = ((n : Int) + 12) / 13) := by rw [Hid]; omega
  have HTN : Hid ((n : Int).toNat = n) := Int.toNat_natCast n
  clear hA ho hl hnw
  go_enter Try.func11, Try.ntmps11
  go_wp2_with fail
  refine (tb_pages n _ hn).mono ?_
  rintro e w1 ⟨rfl, rfl⟩
  rw [HPg.out]
  go_wp2_with fail
  refine HN.out.mono ?_
  rintro e w1 ⟨t, rfl, hT1, k1⟩
  unfold tbV
  have HT1 := Lib.hid hT1
  have K1 := Lib.hid k1
  clear hT1 k1 HN
  go_wp2_with fail
  go_loopw [35] (fun i V => ∃ (k : Nat) (p : List Int), k ≤ l.length ∧ i = .int .i64 k ∧ Hid (Ld n l k p) ∧ Hid (TbAt W.heap.size V t p) ∧ Hid (Kept [] W V)) (fun i _ => l.length - (intOf i).toNat)
  case atStart => exact ⟨0, freshP n, Nat.zero_le _, rfl, Ld.start n l, HT1, K1⟩
  case round =>
    obtain ⟨k, p, hk, rfl, HL, HT, HK⟩ := hrel
    by_cases hlt : k < l.length
    · obtain ⟨b, o, rfl, d0⟩ := HA.out k hlt
      have c0 := HK.out.cell d0 (fun h => by cases h)
      have hxb := HO.out l[k] (List.getElem_mem _)
      obtain ⟨x, hx⟩ : ∃ x, Hid (l[k] = x) := ⟨_, Lib.hid rfl⟩
      rw [hx.out] at c0 hxb
      have hxb2 : -9223372036854775808 ≤ x ∧ x ≤ 9223372036854775807 := hxb
      obtain ⟨nn, D, hown, hnn, hs, h1, h2⟩ := HT.out.mp
      have c1 := HT.out.tb.cell 1
      have HOw := Lib.hid hown
      have HLk : Hid (∀ c, D.atKey (.int .i64 x) (.lit (.int .i64 0)) = .lit (.int .i64 c) → Maps.has D (.int .i64 x) = fndB x p ∧ c = fndI x p) := fun c hat => look_is (wfI hxb2) h1 h2 hat
      have HW := Lib.hid (wfI hxb2)
      have hki : (k : Int) < (l.length : Int) := by omega
      have HR := Lib.hid (tb_right x)
      clear hown h1 h2 hs hnn d0 hxb hxb2
      by_cases hm1 : x = -1
      · subst hm1
        go_wp2_with (at_lookup; refine wpList_lookup_own_ok_int _ rfl _ _ 57 rfl 3 3 .i64 lawI Try.underlying57 Try.underlying3 (zeroI _) t.bm nn D rfl HOw.out _ (.int .i64 (-1)) rfl (keyOf_int_mk Try.underlying3 HW.out) ?_; intro c hat hwc; obtain ⟨hbb, rfl⟩ := HLk.out c hat; rw [hbb]; clear hbb hat hwc)
        go_roundw
        case rel => exact ⟨k + 1, p, by omega, by go_num, HL.out.skip hlt hx.out, HT, HK⟩
        case measure => simp [intOf]; omega
      · by_cases hr : rightB x = true
        · have hr2 := rightB_iff.1 hr
          have hfn : fnd x p = findP x p := if_pos hr2.1
          replace hr := Lib.hid hr
          cases hq : findP x p with
          | some i =>
            have hb : Hid (fndB x p = true) := by rw [Hid, fndB, hfn, hq]; rfl
            have HBad : Hid (¬ goodL n l) := HL.out.dup hlt (by rw [hx.out]; exact hr.out) (by rw [hx.out]; exact hq)
            clear hq hfn
            go_wp2_with (first | (go_at_call 31; refine (HR.out _).mono ?_; rintro e w1 ⟨rfl, rfl⟩; rw [hr.out]) | (at_lookup; refine wpList_lookup_own_ok_int _ rfl _ _ 57 rfl 3 3 .i64 lawI Try.underlying57 Try.underlying3 (zeroI _) t.bm nn D rfl HOw.out _ (.int .i64 x) rfl (keyOf_int_mk Try.underlying3 HW.out) ?_; intro c hat hwc; obtain ⟨hbb, rfl⟩ := HLk.out c hat; rw [hbb, hb.out]; clear hbb hat hwc))
            refine bodyPost_ret (results_tmp2 rfl _ _ _) rfl ?_
            exact ⟨HK.out, .inr (.inl ⟨HZ.out, by rw [HTN.out]; exact HBad.out, rfl⟩)⟩
          | none =>
            have hb : Hid (fndB x p = false) := by rw [Hid, fndB, hfn, hq]; rfl
            by_cases hkn : k < n
            · have hlen : p.length = n := HL.out.len
              obtain ⟨g, c2, hv, _⟩ := own_some HT.out.pl (by omega)
              have c3 := HT.out.tb.cell 0
              simp only [List.getElem?_toArray, List.getElem?_cons_zero, hv] at c3
              have hkp : k < p.length := by omega
              have hif : p[k] = -1 := HL.out.ge k hkp (Nat.le_refl _)
              have hpl := HT.out.pl
              rw [hv] at hpl
              have d0 := own_cellS hpl k (iv p[k]) (by simp [hkp])
              have f0 := own_frozen hpl k
              rw [Nat.zero_add] at d0
              obtain ⟨st, W2, W3, hE1, hE2, hT3, k3⟩ := put_run wr _ t p x k g c2 HT.out hv hr.out hq hkp hif
              have HT3 := Lib.hid hT3
              have K3 := Lib.hid (fresh_kept HT.out (Nat.le_refl _) HK.out k3)
              have HL3 : Hid (Ld n l (k + 1) (p.set k x)) := by
                have := HL.out.put hlt (by rw [hx.out]; exact hr.out) (by rw [hx.out]; exact hq) hkn
                rwa [hx.out] at this
              have hkni : (k : Int) < (n : Int) := by omega
              have hkni2 : ¬ (n : Int) ≤ (k : Int) := by omega
              rw [hif] at d0
              rw [hlen] at c3
              clear hv hif hpl hT3 k3 hq hfn
              go_wp2_with (first | (go_at_call 31; refine (HR.out _).mono ?_; rintro e w1 ⟨rfl, rfl⟩; rw [hr.out]) | (at_lookup; refine wpList_lookup_own_ok_int _ rfl _ _ 57 rfl 3 3 .i64 lawI Try.underlying57 Try.underlying3 (zeroI _) t.bm nn D rfl HOw.out _ (.int .i64 x) rfl (keyOf_int_mk Try.underlying3 HW.out) ?_; intro c hat hwc; obtain ⟨hbb, rfl⟩ := HLk.out c hat; rw [hbb, hb.out]; clear hbb hat hwc))
              go_region
              go_wp2_with fail
              go_roundw
              case rel => exact ⟨k + 1, p.set k x, by omega, by go_num, HL3, HT3, K3⟩
              case measure => simp [intOf]; omega
            · have HBad : Hid (¬ goodL n l) := fun hg => by
                have := hg.1 k hlt
                rw [hx.out] at this
                omega
              have hkni : (n : Int) ≤ (k : Int) := by omega
              clear hq hfn
              go_wp2_with (first | (go_at_call 31; refine (HR.out _).mono ?_; rintro e w1 ⟨rfl, rfl⟩; rw [hr.out]) | (at_lookup; refine wpList_lookup_own_ok_int _ rfl _ _ 57 rfl 3 3 .i64 lawI Try.underlying57 Try.underlying3 (zeroI _) t.bm nn D rfl HOw.out _ (.int .i64 x) rfl (keyOf_int_mk Try.underlying3 HW.out) ?_; intro c hat hwc; obtain ⟨hbb, rfl⟩ := HLk.out c hat; rw [hbb, hb.out]; clear hbb hat hwc))
              refine bodyPost_ret (results_tmp2 rfl _ _ _) rfl ?_
              exact ⟨HK.out, .inr (.inl ⟨HZ.out, by rw [HTN.out]; exact HBad.out, rfl⟩)⟩
        · have hr2 : rightB x = false := by simpa using hr
          have HBad : Hid (¬ goodL n l) := fun hg => by
            have := hg.1 k hlt
            rw [hx.out, hr2] at this
            rcases this with h | ⟨h, _⟩
            · exact hm1 h
            · cases h
          replace hr2 := Lib.hid hr2
          clear hr
          go_wp2_with (first | (go_at_call 31; refine (HR.out _).mono ?_; rintro e w1 ⟨rfl, rfl⟩; rw [hr2.out]) | (at_lookup; refine wpList_lookup_own_ok_int _ rfl _ _ 57 rfl 3 3 .i64 lawI Try.underlying57 Try.underlying3 (zeroI _) t.bm nn D rfl HOw.out _ (.int .i64 x) rfl (keyOf_int_mk Try.underlying3 HW.out) ?_; intro c hat hwc; obtain ⟨hbb, rfl⟩ := HLk.out c hat; rw [hbb]; clear hbb hat hwc))
          refine bodyPost_ret (results_tmp2 rfl _ _ _) rfl ?_
          exact ⟨HK.out, .inr (.inl ⟨HZ.out, by rw [HTN.out]; exact HBad.out, rfl⟩)⟩
    · obtain rfl : k = l.length := by omega
      obtain ⟨he, hg⟩ := HL.out.end_ hnl
      have HG := Lib.hid hg
      have HE := Lib.hid he
      clear he hg
      go_wp2_with fail
      refine bodyPost_ret (results_tmp2 rfl _ _ _) rfl ?_
      exact ⟨HK.out, .inr (.inr ⟨HZ.out, by rw [HTN.out]; exact HG.out, t, rfl, by rw [HTN.out, ← HE.out]; exact HT.out⟩)⟩
theorem tb_Load (W : World) (n : Int) (A : Option Addr) (c : Nat) (l : List Int) (hA : RdI W A l) (hc : l.length ≤ maxLen) (ho : ∀ x ∈ l, wf64 x) :
    Calls Try.prog 11 #[.int .i64 n, .slice A l.length c] W (LoadPost n l W) := by
  unfold maxLen at hc
  by_cases h0 : n < 0
  · have HZ : Hid (¬ sizeL n l) := fun h => by have := h.1; omega
    clear hA ho
    go_enter Try.func11, Try.ntmps11
    go_wp2_with fail
    refine bodyPost_ret (results_tmp2 rfl _ _ _) rfl ?_
    exact ⟨Kept.refl _ _, .inl ⟨HZ.out, rfl⟩⟩
  · obtain ⟨n, rfl⟩ : ∃ m : Nat, n = (m : Int) := ⟨n.toNat, by omega⟩
    by_cases h1 : 1048576 < (n : Int)
    · have HZ : Hid (¬ sizeL n l) := fun h => by have := h.2.1; omega
      clear hA ho
      go_enter Try.func11, Try.ntmps11
      go_wp2_with fail
      refine bodyPost_ret (results_tmp2 rfl _ _ _) rfl ?_
      exact ⟨Kept.refl _ _, .inl ⟨HZ.out, rfl⟩⟩
    · by_cases h2 : (l.length : Int) % 13 = 0
      · have HPg : Hid ((((n + 12) / 13 : Nat) : Int) = ((n : Int) + 12) / 13) := by rw [Hid]; omega
        by_cases h3 : (l.length : Int) / 13 = ((n : Int) + 12) / 13
        · exact tb_Load_ok W n (by omega) A c l hA ho (by omega)
        · have HZ : Hid (¬ sizeL n l) := fun h => by have := h.2.2; rw [Int.toNat_natCast] at this; omega
          have hn : n ≤ 1048576 := by omega
          clear hA ho
          go_enter Try.func11, Try.ntmps11
          go_wp2_with fail
          refine (tb_pages n _ hn).mono ?_
          rintro e w1 ⟨rfl, rfl⟩
          rw [HPg.out]
          go_wp2_with fail
          refine bodyPost_ret (results_tmp2 rfl _ _ _) rfl ?_
          exact ⟨Kept.refl _ _, .inl ⟨HZ.out, rfl⟩⟩
      · have HZ : Hid (¬ sizeL n l) := fun h => by have := h.2.2; omega
        clear hA ho
        go_enter Try.func11, Try.ntmps11
        go_wp2_with fail
        refine bodyPost_ret (results_tmp2 rfl _ _ _) rfl ?_
        exact ⟨Kept.refl _ _, .inl ⟨HZ.out, rfl⟩⟩
end Go.Proofs.Ytfidgmpeiabhiaa
