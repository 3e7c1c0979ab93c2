/- Tables: the law's pages: all pages of both tables are one, and make up the table. -/
import Derived.Test.YtfidgmpeiabhiaaTbV
namespace Go.Proofs.Ytfidgmpeiabhiaa
open Go.RowKit Go.Maps

/-- how many pages -/
def nPg (p : List Int) : Nat := (p.length + 12) / 13
/-- all pages -/
def padP (p : List Int) : List Int := p ++ List.replicate (13 * nPg p - p.length) (-1)
theorem padP_len (p : List Int) : (padP p).length = 13 * nPg p := by
  rw [padP, List.length_append, List.length_replicate, nPg]
  omega
theorem padP_at (p : List Int) (j : Nat) (h : j < 13 * nPg p) : (padP p)[j]? = some (p[j]?.getD (-1)) := by
  unfold padP
  by_cases hj : j < p.length
  · rw [List.getElem?_append_left hj, List.getElem?_eq_getElem hj]
    rfl
  · rw [List.getElem?_append_right (by omega), List.getElem?_replicate_of_lt (by omega), List.getElem?_eq_none (by omega)]
    rfl
def padT (p : List Int) (i : Nat) : List Int := (padP p).take (13 * i)
theorem padT_len (p : List Int) (i : Nat) : (padT p i).length ≤ p.length + 12 := by
  rw [padT, List.length_take, padP_len, nPg]
  omega
theorem padT_end (p : List Int) : padT p (nPg p + 1) = padP p := by
  rw [padT, List.take_of_length_le (by rw [padP_len]; omega)]
theorem padT_snoc (p : List Int) (i : Nat) : padT p (i + 1) = padT p i ++ pgL p (i : Int) := by
  rw [padT, padT, show 13 * (i + 1) = 13 * i + 13 by omega, List.take_add]
  congr 1
  by_cases hi : i < nPg p
  · have hb : pgB p (i : Int) = true := by
      simp only [pgB, Bool.and_eq_true, decide_eq_true_eq]
      unfold nPg at hi
      omega
    rw [pgL, hb, if_pos rfl, Int.toNat_natCast]
    refine List.ext_getElem? fun k => ?_
    by_cases hk : k < 13
    · rw [List.getElem?_take_of_lt hk, List.getElem?_drop, padP_at p _ (by omega), pageP_at p i k hk]
    · rw [List.getElem?_eq_none (by rw [List.length_take]; omega), List.getElem?_eq_none (by rw [pageP_len]; omega)]
  · have hb : pgB p (i : Int) = false := by
      simp only [pgB, Bool.and_eq_false_iff, decide_eq_false_iff_not]
      unfold nPg at hi
      omega
    rw [pgL, hb, if_neg (by simp), List.drop_of_length_le (by rw [padP_len]; omega)]
    rfl
theorem app_runL {wr : World} {n₁ n₂ : Nat} {A' B : Option Addr} {c' c2 : Nat} {l l2 : List Int} (HO : DtAt n₁ wr (.slice A' l.length c') l) (H2 : DtAt n₂ wr (.slice B l2.length c2) l2) (hn : l.length + l2.length ≤ 2000000) (t : TypeId) (ht : Try.prog.underlying t = some (.slice 3)) (ty : TypeId) :
    ∃ v' w', (Builtin.append_ #[t, t] ty #[.slice A' l.length c', .slice B l2.length c2]).run Try.prog wr = .ok v' w' ∧ w'.ownsRow 0 3 1 v' (l.length + l2.length) (l.map iv ++ l2.map iv) ∧ wr.grownBy w' (Value.slice A' l.length c').ownBlock ∧
      (v'.ownBlock = (Value.slice A' l.length c').ownBlock ∨ v'.ownBlock = some wr.heap.size) := by
  obtain ⟨i0, p0, p1, p2, p3⟩ := info_parts infoI
  exact run_app (P := Try.prog) wr t ty 3 i0 _ 1 8 ht p0 p1 p2 p3 rfl (by decide) _ _ _ (own_down HO (Nat.zero_le _)) B l2.length c2 (l2.map iv) (by simp) (fun hA => by
      rcases H2.2 with ⟨h2, _⟩ | ⟨g, cap, cur, e', _⟩
      · injection h2
      · injection e' with e1
        rw [e1] at hA
        cases hA) (fun hm => by
      obtain ⟨b, c3, e, _⟩ := own_some H2 hm
      injection e with e _ e2
      subst e
      subst e2
      exact ⟨b, 0, rfl, fun j u hu => own_cellS H2 j u hu⟩) (iv_one l2) (by simp only [maxLen]; omega) (by omega)
theorem app_finL {W wr w4 : World} {A' : Option Addr} {c' : Nat} {l l2 : List Int} {v : Value} (HO : DtAt W.heap.size wr (.slice A' l.length c') l) (HK : Kept [] W wr)
    (h2 : w4.ownsRow 0 3 1 v (l.length + l2.length) (l.map iv ++ l2.map iv)) (h3 : wr.grownBy w4 (Value.slice A' l.length c').ownBlock)
    (h4 : v.ownBlock = (Value.slice A' l.length c').ownBlock ∨ v.ownBlock = some wr.heap.size) :
    DtAt W.heap.size w4 v (l ++ l2) ∧ Kept [] W w4 := by
  have hlo : ∀ j, (Value.slice A' l.length c').ownBlock = some j → W.heap.size ≤ j := fun j hj => (HO.lt j hj).1
  refine ⟨?_, HK.grown h3 (fun j e => .inr (hlo j e))⟩
  rw [DtAt, List.length_append, List.map_append]
  refine own_up h2 (fun j hj => ?_)
  rcases h4 with h | h
  · exact hlo j (h ▸ hj)
  · rw [h] at hj
    injection hj with hj
    subst hj
    exact HK.size
theorem DtAt.kept {n₀ : Nat} {W W' : World} {A : Option Addr} {c : Nat} {p : List Int} (h : DtAt n₀ W (.slice A p.length c) p) (k : Kept [] W W') : DtAt n₀ W' (.slice A p.length c) p := k.owns h (fun _ _ h => by cases h)
def PagesPost (p : List Int) (W : World) (e : Ending) (w' : World) : Prop := ∃ (A : Option Addr) (c : Nat), e = .returned (.tuple #[.slice A (padP p).length c, .bool true]) ∧ DtAt W.heap.size w' (.slice A (padP p).length c) (padP p) ∧ Kept [] W w'
set_option maxRecDepth 4000 in
set_option maxHeartbeats 2000000 in
theorem law_pages (W : World) (n₀ n₁ : Nat) (t : Tb) (A : Option Addr) (c : Nat) (p : List Int) (h : TbAt n₀ W t p) (hd : DtAt n₁ W (.slice A p.length c) p) :
    Calls Try.prog 13 #[tbV t, .slice A p.length c] W (PagesPost p W) := by
  have hlen := h.len
  have HT := Lib.hid h
  have HD := Lib.hid hd
  have HP := Lib.hid (show (((p.length + 12) / 13 : Nat) : Int) = (nPg p : Int) from rfl)
  have hnp : nPg p ≤ 80660 := by unfold nPg; omega
  clear h hd
  obtain ⟨q, hq⟩ : ∃ q, q = tbV t := ⟨_, rfl⟩
  rw [← hq]
  have HQ : Hid (∀ V, TbAt n₀ V t p → ∀ i : Int, Calls Try.prog 19 #[q, .int .i64 i] V (PagePost p i V)) := fun V hV i => hq ▸ tb_Page V n₀ t p i hV
  clear hq
  go_enter Try.func13, Try.ntmps13
  go_wp2_with fail
  go_loopw [6, 7] (fun v i V => ∃ (k c' : Nat) (A' : Option Addr), k ≤ nPg p + 1 ∧ i = .int .i64 k ∧ v = .slice A' (padT p k).length c' ∧ Hid (DtAt W.heap.size V (.slice A' (padT p k).length c') (padT p k)) ∧ Hid (Kept [] W V)) (fun _ i _ => nPg p + 1 - (intOf i).toNat)
  case atStart => exact ⟨0, 0, none, Nat.zero_le _, rfl, by simp [padT], (by simpa [padT, DtAt, Hid] using World.ownsRow_nil _ _ _ _), Kept.refl _ _⟩
  case round =>
    obtain ⟨k, c', A', hk, rfl, rfl, HO, HK⟩ := hrel
    go_wp2_with fail
    refine (rf_Pages wr A c p.length hlen).mono ?_
    rintro e w1 ⟨rfl, rfl⟩
    rw [HP.out]
    have hpl : Hid ((padT p k).length ≤ p.length + 12) := padT_len p k
    by_cases hlt : k ≤ nPg p
    · have hlti : (k : Int) ≤ (nPg p : Int) := by omega
      go_wp2_with fail
      refine (HQ.out wr (HT.out.kept0 HK.out) k).mono ?_
      rintro e w1 ⟨v1, rfl, ho1, k1⟩
      obtain ⟨A1, c1, rfl, _⟩ := own_slice ho1
      have HO1 := Lib.hid ho1
      have HK1 := Lib.hid (HK.out.trans k1)
      have HA1 := Lib.hid (DtAt.kept HO.out k1)
      clear ho1 k1
      go_wp2_with fail
      refine (rf_Page w1 n₁ A c p k (HD.out.kept HK1.out) hlen).mono ?_
      rintro e w2 ⟨v2, rfl, ho2, k2⟩
      obtain ⟨A2, c2, rfl, _⟩ := own_slice ho2
      have HO2 := Lib.hid ho2
      have HK2 := Lib.hid (HK1.out.trans k2)
      have HA2 := Lib.hid (DtAt.kept HA1.out k2)
      have HO12 := Lib.hid (DtAt.kept (n₀ := wr.heap.size) HO1.out k2)
      have hlg : (pgL p (k : Int)).length ≤ 13 := by
        unfold pgL
        split
        · rw [pageP_len]; omega
        · simp
      clear ho2 k2
      go_wp2_with fail
      refine (same_I w2 A1 A2 c1 c2 wr.heap.size w1.heap.size (pgL p (k : Int)) (pgL p (k : Int)) HO12.out HO2.out (by omega)).mono ?_
      rintro e w3 ⟨rfl, d3⟩
      rw [decide_eq_true rfl]
      have HK3 := Lib.hid (HK2.out.trans d3.kept)
      have HA3 := Lib.hid (DtAt.kept HA2.out d3.kept)
      have HRun := Lib.hid (app_runL HA3.out (HO12.out.kept d3.kept) (by have := hpl.out; omega) 26 Try.underlying26)
      clear d3
      have HSn := Lib.hid (padT_snoc p k)
      go_wp2_with (at_builtin; refine wpList_app rfl (.tmp 41) (.tmp 42) _ rfl _ _ rfl rfl (HRun.out _) ?_; rintro v3 w4 ⟨hr2, hr3, hr4⟩; obtain ⟨A3, c3, rfl, _⟩ := own_slice hr2; have HR2 := Lib.hid hr2; have HR3 := Lib.hid hr3; have HR4 := Lib.hid hr4; clear hr2 hr3 hr4 HRun)
      go_roundw
      case rel =>
        obtain ⟨h5, h6⟩ := app_finL HA3.out HK3.out HR2.out HR3.out HR4.out
        have hl5 : (padT p (k + 1)).length = (padT p k).length + (pgL p (k : Int)).length := by rw [HSn.out, List.length_append]
        rw [← HSn.out, ← hl5] at h5
        exact ⟨k + 1, c3, A3, by omega, by go_num, by rw [hl5], h5, h6⟩
      case measure => simp [intOf]; omega
    · obtain rfl : k = nPg p + 1 := by omega
      have hE := Lib.hid (padT_end p)
      have HO5 := HO.out
      rw [hE.out] at HO5 ⊢
      replace HO5 := Lib.hid HO5
      clear HO
      have hlti : ¬ ((nPg p + 1 : Nat) : Int) ≤ (nPg p : Int) := by omega
      go_wp2_with fail
      refine bodyPost_ret (results_tmp2 rfl _ _ _) rfl ?_
      exact ⟨A', c', rfl, HO5.out, HK.out⟩
end Go.Proofs.Ytfidgmpeiabhiaa
