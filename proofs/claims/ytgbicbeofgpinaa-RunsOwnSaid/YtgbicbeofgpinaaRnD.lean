/- Exceptions in runs: what the program's closure hands out. -/
import Derived.Test.YtgbicbeofgpinaaRnC
import Derived.Test.YtgbicbeofgpinaaRangeO
import Derived.Deep.Cut
import Derived.Deep.RegionHeld3
import Derived.WalkMore
namespace Go.Proofs.Ytgbicbeofgpinaa
open Go.RowKit

/-- one run that is handed out: what it has, and where it lies -/
structure Rn where
  r : List En
  g : Nat
  c : Nat
def rnV (x : Rn) : Value := .slice (some ⟨x.g, 0, none⟩) x.r.length x.c
def RnOk (n₀ : Nat) (x : Rn) (W : World) : Prop := W.ownsRow n₀ 36 2 (rnV x) x.r.length (x.r.flatMap enE) ∧ x.r ≠ []
/-- what a round keeps: what lay there at first, and the boxes -/
def KpB (n₀ : Nat) (Cs : List Nat) (W W' : World) : Prop := W.heap.size ≤ W'.heap.size ∧ ∀ b o, W.heap[b]? = some o → (b < n₀ ∨ b ∈ Cs) → W'.heap[b]? = some o
theorem KpB.trans {n₀ : Nat} {Cs : List Nat} {A B C : World} (h : KpB n₀ Cs A B) (k : KpB n₀ Cs B C) : KpB n₀ Cs A C := ⟨Nat.le_trans h.1 k.1, fun b o hb ho => k.2 b o (h.2 b o hb ho) ho⟩
theorem go_step (most : Int) (L : List En) (n : Nat) (h1 : 1 ≤ n) (h2 : n < L.length) (h3 : cutR most L = goOn most L[n - 1] (L.drop n) n) :
    cutR most L = if (n : Int) < most ∧ L[n].org = L[n - 1].org + 1 then goOn most L[n] (L.drop (n + 1)) (n + 1) else n := by
  rw [h3, List.drop_eq_getElem_cons h2]
  rfl
theorem cut_start (most : Int) (L : List En) (h : 0 < L.length) : cutR most L = goOn most L[0] (L.drop 1) 1 := by
  match L, h with
  | x :: t, _ => rfl
theorem rd_drop {W : World} {B b o : Nat} {L : List En} (h : Rd W B 2 (some ⟨b, o, none⟩) L.length (L.flatMap enE)) (n : Nat) (_hn : n ≤ L.length) : Rd W B 2 (some ⟨b, o + n * 2, none⟩) (L.drop n).length ((L.drop n).flatMap enE) := by
  refine ⟨by rw [flatMap_len 2 enE enE_len], fun h0 => ?_⟩
  have hl : 0 < L.length := by simp at h0; omega
  obtain ⟨b', o', e, hb, hc⟩ := h.2 hl
  injection e with e
  injection e with e1 e2 _
  subst e1
  subst e2
  refine ⟨_, _, rfl, hb, fun j u hu => ?_⟩
  have := hc (n * 2 + j) u (by
    rw [← hu, ← List.getElem?_drop]
    congr 1
    clear hu h0 hl hc h
    induction n generalizing L with
    | zero => simp
    | succ n ih =>
      cases L with
      | nil => simp
      | cons x t =>
        rw [show (n + 1) * 2 = n * 2 + 2 by omega, List.flatMap_cons, List.drop_succ_cons]
        have hx : enE x ++ t.flatMap enE = .int .i64 x.org :: .int .i64 x.idx :: t.flatMap enE := rfl
        rw [hx]
        show List.drop (n * 2) (t.flatMap enE) = _
        exact ih (by simpa using _hn))
  rw [show o + n * 2 + j = o + (n * 2 + j) by omega]
  exact this
def upR (L : List En) : Prop := (∀ k, (h : k + 1 < L.length) → L[k].org < L[k + 1].org) ∧ ∀ x ∈ L, -1 ≤ x.org ∧ x.org ≤ 9223372036854775807
theorem upR.drop {L : List En} (h : upR L) (n : Nat) : upR (L.drop n) := by
  refine ⟨fun k hk => ?_, fun x hx => h.2 x (List.mem_of_mem_drop hx)⟩
  have := h.1 (n + k) (by simp at hk; omega)
  simp only [List.getElem_drop]
  exact this
theorem kpb_rd {n₀ : Nat} {Cs : List Nat} {W W' : World} {A : Option Addr} {n : Nat} {xs : List Value} (k : KpB n₀ Cs W W') (h : Rd W n₀ 2 A n xs) : Rd W' n₀ 2 A n xs := by
  refine ⟨h.1, fun hn => ?_⟩
  obtain ⟨b, o, e, hb, hc⟩ := h.2 hn
  refine ⟨b, o, e, hb, fun j u hu => ?_⟩
  have h2 := hc j u hu
  obtain ⟨ob, hob⟩ : ∃ ob, W.heap[b]? = some ob := by
    have := block_lt_of_cell h2
    exact ⟨_, Array.getElem?_eq_getElem this⟩
  have h3 := k.2 b ob hob (.inl hb)
  unfold World.cell? at h2 ⊢
  simp only at h2 ⊢
  rw [h3]
  rw [hob] at h2
  exact h2
theorem kpb_blk {n₀ : Nat} {Cs : List Nat} {W W' : World} {b t : Nat} {cs : Array Value} (k : KpB n₀ Cs W W') (h : Blk W b t cs) (hb : b ∈ Cs) : Blk W' b t cs := k.2 b _ h (.inr hb)
theorem rn_of {n₀ : Nat} {w w' : World} {v : Value} {r : List En} (h : w'.ownsRow 0 36 2 v r.length (r.flatMap enE)) (hk : ∀ k, v.ownBlock = some k → w.heap.size ≤ k) (hn : n₀ ≤ w.heap.size) (hr : r ≠ []) : ∃ x : Rn, v = rnV x ∧ x.r = r ∧ RnOk n₀ x w' := by
  obtain ⟨g, c, rfl, _⟩ := own_some h (List.length_pos_iff.2 hr)
  have hg := hk g rfl
  refine ⟨⟨r, g, c⟩, rfl, rfl, ⟨h.1, ?_⟩, hr⟩
  rcases h.2 with ⟨h2, _⟩ | ⟨g', cap, cur, e, _, h3⟩
  · cases h2
  · refine .inr ⟨g', cap, cur, e, ?_, h3⟩
    injection e with e _ _
    injection e with e
    injection e with e _ _
    omega
/-- the first ones of those that lie there are copied -/
theorem cloneL {n₀ n₁ : Nat} (W : World) (b o n c : Nat) (L : List En) (hR : Rd W n₀ 2 (some ⟨b, o, none⟩) L.length (L.flatMap enE)) (h1 : 1 ≤ n) (hn : n ≤ L.length) (hL : L.length ≤ 8796093022208) (hn0 : n₀ ≤ W.heap.size) (hn1 : n₁ ≤ W.heap.size) :
    Calls Try.prog 19 #[.slice (some ⟨b, o, none⟩) n c] W fun e W' => ∃ x : Rn, e = .returned (rnV x) ∧ x.r = L.take n ∧ RnOk n₁ x W' ∧ Kept [] W W' := by
  have hlen : (L.take n).length = n := by rw [List.length_take]; omega
  obtain ⟨b', o', e, hb, hc⟩ := hR.2 (by omega)
  injection e with e
  injection e with e1 e2 _
  subst e1
  subst e2
  have hpre : ∀ (j : Nat) (u : Value), ((L.take n).flatMap enE)[j]? = some u → (L.flatMap enE)[j]? = some u := by
    intro j u hu
    have hsp : L.flatMap enE = (L.take n).flatMap enE ++ (L.drop n).flatMap enE := by
      rw [← List.flatMap_append, List.take_append_drop]
    rw [hsp]
    exact (List.getElem?_append_left (List.getElem?_eq_some_iff.1 hu).1).trans hu
  refine (cloneE W b o n c ((L.take n).flatMap enE) (by rw [flatMap_len 2 enE enE_len, hlen]) (enE_one _) (fun j u hu => hc j u (hpre j u hu)) (by omega) (by omega)).mono ?_
  rintro e W' ⟨v, rfl, ho, hk, hv⟩
  obtain ⟨x, rfl, hx, hok⟩ := rn_of (n₀ := n₁) (r := L.take n) (by rw [hlen]; exact ho) hv hn1 (by intro h; rw [h] at hlen; simp at hlen; omega)
  exact ⟨x, rfl, hx, hok, hk⟩
def lenAt : Option Value → Nat
  | some (.slice _ n _) => n
  | _ => 0
theorem aft {n₀ n₁ bl bm : Nat} {most : Int} {J : List Rn → World → Prop} (hJ : AbidesB [bl, bm] J) {W1 W' : World} {b o cL : Nat} {L : List En} {pre : List Rn} (hn1 : n₁ ≤ W1.heap.size) (hlm : bl ≠ bm) (hlb : n₀ ≤ bl) (hmb2 : n₀ ≤ bm)
    (HB : Blk W1 bl 22 #[.slice (some ⟨b, o, none⟩) L.length cL]) (HM : Blk W1 bm 3 #[.int .i64 most]) (HR : Rd W1 n₀ 2 (some ⟨b, o, none⟩) L.length (L.flatMap enE))
    (hk : KpB n₀ [bl, bm] W1 W') (hj : J pre W') (m : Nat) (hm : m ≤ L.length) (A' : Option Addr) (hA : m < L.length → A' = some ⟨b, o + m * 2, none⟩) (v : Value) (hv : v = .slice A' (L.length - m) (cL - m)) :
    (W'.cell? ⟨bl, 0, none⟩ = some (.slice (some ⟨b, o, none⟩) L.length cL) ∧ W'.frozen? ⟨bl, 0, none⟩ = false ∧ W'.cell? ⟨bm, 0, none⟩ = some (.int .i64 most)) ∧
    (n₀ ≤ (W'.setCell ⟨bl, 0, none⟩ v).heap.size ∧ n₁ ≤ (W'.setCell ⟨bl, 0, none⟩ v).heap.size) ∧ Blk (W'.setCell ⟨bl, 0, none⟩ v) bl 22 #[.slice A' (L.drop m).length (cL - m)] ∧ Blk (W'.setCell ⟨bl, 0, none⟩ v) bm 3 #[.int .i64 most] ∧
    Rd (W'.setCell ⟨bl, 0, none⟩ v) n₀ 2 A' (L.drop m).length ((L.drop m).flatMap enE) ∧ J pre (W'.setCell ⟨bl, 0, none⟩ v) := by
  rw [← List.length_drop] at hv
  subst hv
  have HB2 := kpb_blk hk HB (by simp)
  have HM2 := kpb_blk hk HM (by simp)
  have HR2 := kpb_rd hk HR
  have hn : n₀ ≤ W'.heap.size := by have := HB2.lt; omega
  have hK : Kept [bl, bm] W' (W'.setCell ⟨bl, 0, none⟩ (.slice A' (L.drop m).length (cL - m))) := (Kept.refl _ _).setCell (.inl (by simp)) _
  refine ⟨⟨HB2.cell 0, HB2.frozen 0, HM2.cell 0⟩, ⟨Nat.le_trans hn hK.size, Nat.le_trans hn1 (Nat.le_trans hk.1 hK.size)⟩, HB2.set_ 0 _, HM2.far (fun h => hlm h.symm) _, ?_, hJ _ _ _ hj hK⟩
  by_cases h : m < L.length
  · rw [hA h]
    rw [hA h] at hK
    exact rd_drop (HR2.kept hK hn (fun x hx => by simp at hx; omega)) m hm
  · have : L.drop m = [] := List.drop_eq_nil_of_le (by omega)
    rw [this]
    exact ⟨rfl, fun h => by simp at h⟩
set_option maxRecDepth 4000 in
set_option maxHeartbeats 4000000 in
theorem all_seq (most : Int) (l : List En) (A0 : Option Addr) (c0 n bl bm n₀ n₁ : Nat) (w : World) (hm : 1 ≤ most) (hmb : most ≤ 9223372036854775807) (hln : l.length ≤ 8796093022208) (hup : upR l) (hlm : bl ≠ bm) (hn0 : n₀ ≤ w.heap.size) (hn1 : n₁ ≤ w.heap.size) (hlb : n₀ ≤ bl) (hmb2 : n₀ ≤ bm)
    (hL : Blk w bl 22 #[.slice A0 l.length c0]) (hM : Blk w bm 3 #[.int .i64 most]) (hA : Rd w n₀ 2 A0 l.length (l.flatMap enE)) (hc0 : l.length ≤ c0) (hn : 1 ≤ n) :
    SeqO Fence.wide n Try.prog 18 #[.pointer (some ⟨bl, 0, none⟩), .pointer (some ⟨bm, 0, none⟩)] (fun x : Rn => #[rnV x]) (RnOk n₁) [bl, bm] (KpB n₀ [bl, bm]) (fun xs => xs.map (·.r) = runsR most l) (fun pre => pre.map (·.r) <+: runsR most l) l.length w := by
  intro ll J Jx W hW hJ hJx hY hJ0
  have HN := hL.kept hW (fun h => by cases h)
  have HM := hM.kept hW (fun h => by cases h)
  have HA := hA.kept hW hn0 (fun _ h => by cases h)
  have hnW : n₀ ≤ W.heap.size ∧ n₁ ≤ W.heap.size := ⟨Nat.le_trans hn0 hW.size, Nat.le_trans hn1 hW.size⟩
  clear hL hM hA hn0 hn1 hW
  refine callsIn_wide.2 ?_
  go_enter Try.func18, Try.ntmps18
  go_wp2_with fail
  go_step3
  go_wp2_with fail
  go_step3
  go_wp2_with fail
  go_loopw [] (fun V => ∃ (L : List En) (AL : Option Addr) (cL : Nat) (pre : List Rn), L.length ≤ cL ∧ (n₀ ≤ V.heap.size ∧ n₁ ≤ V.heap.size) ∧ Hid (pre.length + L.length ≤ l.length) ∧ Hid (upR L) ∧ Hid (Blk V bl 22 #[.slice AL L.length cL]) ∧ Hid (Blk V bm 3 #[.int .i64 most]) ∧ Hid (Rd V n₀ 2 AL L.length (L.flatMap enE)) ∧ Hid (J pre V) ∧ Hid (pre.map (·.r) ++ runsR most L = runsR most l))
    (fun V => lenAt (V.cell? ⟨bl, 0, none⟩))
  case atStart => exact ⟨l, A0, c0, [], hc0, hnW, by rw [Hid]; simp, hup, HN, HM, HA, hJ0, rfl⟩
  case round =>
    obtain ⟨L, AL, cL, pre, hcL, hnV, HP, HU, HB, HM, HR, HJ, HE⟩ := hrel
    have cO := HB.out.cell 0
    by_cases hl0 : L.length = 0
    · obtain rfl : L = [] := List.eq_nil_of_length_eq_zero hl0
      go_wp2_with fail
      rw [Exit.noGoto_normal]
      show bodyPost _ _ _ _ _ _
      refine bodyPost_end (results_none rfl _ _ _) rfl ?_
      exact ⟨⟨_, rfl⟩, .inl ⟨_, by have := HE.out; simpa [runsR, runsF] using this, HJ.out⟩⟩
    · have hl1 : 0 < L.length := by omega
      have hLm : L.length ≤ 8796093022208 := by have := HP.out; omega
      have hlt' : pre.length < l.length := by have := HP.out; omega
      obtain ⟨b, o, rfl, hb, hcl⟩ := HR.out.2 (by omega)
      have HC := Lib.hid hcl
      clear hcl
      go_wp2_with fail
      go_loopw [4] (fun v V => ∃ (m : Nat) (h1 : 1 ≤ m) (h2 : m ≤ L.length), v = .int .i64 m ∧ (m : Int) ≤ most ∧ (n₀ ≤ V.heap.size ∧ n₁ ≤ V.heap.size) ∧ Hid (Blk V bl 22 #[.slice (some ⟨b, o, none⟩) L.length cL]) ∧ Hid (Blk V bm 3 #[.int .i64 most]) ∧ Hid (Rd V n₀ 2 (some ⟨b, o, none⟩) L.length (L.flatMap enE)) ∧ Hid (J pre V) ∧ Hid (cutR most L = goOn most (L[m - 1]'(by omega)) (L.drop m) m))
        (fun v _ => L.length - (intOf v).toNat)
      case atStart => exact ⟨1, Nat.le_refl _, by omega, rfl, hm, hnV, HB, HM, HR, HJ, cut_start most L (by omega)⟩
      case round =>
        obtain ⟨m, h1, h2, rfl, hmm, hnV2, HB2, HM2, HR2, HJ2, HC2⟩ := hrel
        have c0 := HB2.out.cell 0
        have m0 := HM2.out.cell 0
        by_cases hlt : m < L.length
        · by_cases hmost : (m : Int) < most
          · have HS := Lib.hid (go_step most L m h1 hlt HC2.out)
            obtain ⟨b', o', e, hb', hcl⟩ := HR2.out.2 (by omega)
            injection e with e
            injection e with e1 e2 _
            subst e1
            subst e2
            have a0 := hcl (m * 2 + 0) (.int .i64 L[m].org) (by rw [flatMap_at 2 enE enE_len L m 0 hlt (by omega)]; rfl)
            have a1 := hcl ((m - 1) * 2 + 0) (.int .i64 L[m - 1].org) (by rw [flatMap_at 2 enE enE_len L (m - 1) 0 (by omega) (by omega)]; rfl)
            clear hcl
            have hmi : ((m : Int) - 1).toNat = m - 1 := by omega
            have hwm : IntKind.i64.wrap ((m : Int) - 1) = (m : Int) - 1 := IntWalk.i64_in _ (by omega)
            have hx := HU.out.2 L[m - 1] (List.getElem_mem _)
            have hy := HU.out.2 L[m] (List.getElem_mem _)
            have hxy := HU.out.1 (m - 1) (by omega)
            simp only [show m - 1 + 1 = m by omega] at hxy
            obtain ⟨y, hyy⟩ : ∃ y, Hid (L[m] = y) := ⟨_, Lib.hid rfl⟩
            obtain ⟨x, hxx⟩ : ∃ x, Hid (L[m - 1] = x) := ⟨_, Lib.hid rfl⟩
            rw [hyy.out, hxx.out] at HS hxy
            rw [hyy.out] at a0 hy
            rw [hxx.out] at a1 hx
            have hi0 : (0 : Int) ≤ (m : Int) - 1 := by omega
            have hi1 : (m : Int) - 1 < (L.length : Int) := by omega
            have hi2 : (1 : Int) ≤ (m : Int) := by omega
            have hi3 : (m : Int) < (L.length : Int) := by omega
            have hi4 : (0 : Int) ≤ (m : Int) := by omega
            have hwx : IntKind.i64.wrap (x.org + 1) = x.org + 1 := IntWalk.i64_in _ (by omega)
            simp only [Nat.add_zero] at a0 a1
            by_cases hgo : y.org = x.org + 1
            · go_wp2_with fail
              go_region_held3 (fun W => W.cell? ⟨bl, 0, none⟩ = some (.slice (some ⟨b, o, none⟩) L.length cL) ∧ W.cell? ⟨b, o + m * 2, none⟩ = some (.int .i64 y.org) ∧ W.cell? ⟨b, o + (m - 1) * 2, none⟩ = some (.int .i64 x.org)) (first | exact ⟨c0, a0, a1⟩ | go_keep) (fail)
              go_wp2_with fail
              go_roundw
              case rel => exact ⟨m + 1, by omega, by omega, by go_num, by omega, hnV2, HB2.out, HM2.out, HR2.out, hJ _ _ _ HJ2.out ((Kept.refl [bl, bm] _).drew), by
                rw [Hid, HS.out, if_pos ⟨hmost, hgo⟩]
                simp only [Nat.add_sub_cancel]
                rw [hyy.out]⟩
              case measure => simp [intOf]; omega
            · go_wp2_with fail
              go_region_held3 (fun W => W.cell? ⟨bl, 0, none⟩ = some (.slice (some ⟨b, o, none⟩) L.length cL) ∧ W.cell? ⟨b, o + m * 2, none⟩ = some (.int .i64 y.org) ∧ W.cell? ⟨b, o + (m - 1) * 2, none⟩ = some (.int .i64 x.org)) (first | exact ⟨c0, a0, a1⟩ | go_keep) (fail)
              go_upto_region 5 with (fail)
              refine (wpIn_wide (n := n)).1 ?_
              have HJ3 := Lib.hid (hJ _ _ _ HJ2.out ((Kept.refl [bl, bm] wr).drew))
              gi_wp2_with (fail)
              refine ⟨trivial, callsIn_wide.2 ((cloneL (n₀ := n₀) (n₁ := n₁) wr.drew b o m cL L HR2.out h1 h2 hLm hnV2.1 hnV2.2).mono ?_)⟩
              rintro e W1 ⟨xr, rfl, hxr, hok, kk⟩
              have HJ4 := Lib.hid (hJ _ _ _ HJ3.out (kk.mono fun _ h => by cases h))
              obtain ⟨fn, tmps, assign, body, hy, hR⟩ := hY pre xr W1 HJ4.out hok hlt'
              have hn1W : n₁ ≤ W1.heap.size := Nat.le_trans hnV2.2 kk.size
              have HB4 := Lib.hid (Blk.kept (w := wr.drew) HB2.out kk (fun h => by cases h))
              have HM4 := Lib.hid (Blk.kept (w := wr.drew) HM2.out kk (fun h => by cases h))
              have HR4 := Lib.hid (Rd.kept (w := wr.drew) HR2.out kk hnV2.1 (fun _ h => by cases h))
              gi_wp2_with (fail)
              refine hR.mono ?_
              clear hR hy a0 a1 c0 m0
              rintro e W' (⟨rfl, hJ', hk⟩ | ⟨rfl, hJx'⟩)
              · obtain ⟨⟨c4, f4, m4⟩, hA⟩ := aft hJ hn1W hlm hlb hmb2 HB4.out HM4.out HR4.out hk hJ' m (by omega) _ (fun _ => rfl) _ rfl
                have HA := Lib.hid hA
                clear hA
                gi_wp2
                go_wp2_with fail
                obtain ⟨h3, h4, h5, h6, h7⟩ := HA.out
                have hcut : cutR most L = m := by rw [HS.out, if_neg (fun h => hgo h.2)]
                refine ⟨⟨L.drop m, _, cL - m, pre ++ [xr], ?_, h3, ?_, HU.out.drop m, h4, h5, h6, h7, ?_⟩, ?_⟩
                · rw [List.length_drop]; omega
                · have := HP.out
                  rw [Hid, List.length_append, List.length_drop]
                  simp
                  omega
                · rw [Hid, ← HE.out, runsR_cons most L (by intro h; rw [h] at hlt; simp at hlt), hcut, List.map_append, List.append_assoc]
                  simp [hxr]
                · rw [h4.cell 0, cO]
                  simp [lenAt]
                  omega
              · gi_wp2
                go_wp2_with fail
                rw [Exit.noGoto_ret]
                show bodyPost _ _ _ _ _ _
                refine bodyPost_ret (results_none rfl _ _ _) rfl ?_
                have hcut : cutR most L = m := by rw [HS.out, if_neg (fun h => hgo h.2)]
                refine ⟨⟨_, rfl⟩, .inr ⟨_, ?_, hJx'⟩⟩
                rw [← HE.out, runsR_cons most L (by intro h; rw [h] at hlt; simp at hlt), hcut, List.map_append]
                refine ⟨runsR most (L.drop m), ?_⟩
                simp [hxr]
          · have hcut : Hid (cutR most L = m) := by rw [Hid, go_step most L m h1 hlt HC2.out, if_neg (fun h => hmost h.1)]
            have hle : (m : Int) ≤ (L.length : Int) := by omega
            obtain rfl : most = (m : Int) := by omega
            have hlt2 : (m : Int) < (L.length : Int) := by omega
            go_upto_region 8 with (fail)
            refine (wpIn_wide (n := n)).1 ?_
            gi_wp2_with (fail)
            refine ⟨trivial, callsIn_wide.2 ((cloneL (n₀ := n₀) (n₁ := n₁) wr b o m cL L HR2.out h1 h2 hLm hnV2.1 hnV2.2).mono ?_)⟩
            rintro e W1 ⟨xr, rfl, hxr, hok, kk⟩
            have HJ4 := Lib.hid (hJ _ _ _ HJ2.out (kk.mono fun _ h => by cases h))
            obtain ⟨fn, tmps, assign, body, hy, hR⟩ := hY pre xr W1 HJ4.out hok hlt'
            have hn1W : n₁ ≤ W1.heap.size := Nat.le_trans hnV2.2 kk.size
            have HB4 := Lib.hid (Blk.kept (w := wr) HB2.out kk (fun h => by cases h))
            have HM4 := Lib.hid (Blk.kept (w := wr) HM2.out kk (fun h => by cases h))
            have HR4 := Lib.hid (Rd.kept (w := wr) HR2.out kk hnV2.1 (fun _ h => by cases h))
            gi_wp2_with (fail)
            refine hR.mono ?_
            clear hR hy c0 m0
            rintro e W' (⟨rfl, hJ', hk⟩ | ⟨rfl, hJx'⟩)
            · obtain ⟨⟨c4, f4, m4⟩, hA⟩ := aft hJ hn1W hlm hlb hmb2 HB4.out HM4.out HR4.out hk hJ' m (by omega) _ (fun _ => rfl) _ rfl
              have HA := Lib.hid hA
              clear hA
              gi_wp2
              go_wp2_with fail
              obtain ⟨h3, h4, h5, h6, h7⟩ := HA.out
              refine ⟨⟨L.drop m, _, cL - m, pre ++ [xr], ?_, h3, ?_, HU.out.drop _, h4, h5, h6, h7, ?_⟩, ?_⟩
              · rw [List.length_drop]; omega
              · have := HP.out
                rw [Hid, List.length_append, List.length_drop]
                simp
                omega
              · rw [Hid, ← HE.out, runsR_cons _ L (by intro h; rw [h] at hl1; simp at hl1), hcut.out, List.map_append, List.append_assoc]
                simp [hxr]
              · rw [h4.cell 0, cO]
                simp [lenAt]
                try omega
            · gi_wp2
              go_wp2_with fail
              rw [Exit.noGoto_ret]
              show bodyPost _ _ _ _ _ _
              refine bodyPost_ret (results_none rfl _ _ _) rfl ?_
              refine ⟨⟨_, rfl⟩, .inr ⟨_, ?_, hJx'⟩⟩
              rw [← HE.out, runsR_cons _ L (by intro h; rw [h] at hl1; simp at hl1), hcut.out, List.map_append]
              refine ⟨runsR (m : Int) (L.drop m), ?_⟩
              simp [hxr]
        · obtain rfl : m = L.length := by omega
          have hcut : Hid (cutR most L = L.length) := by
            rw [Hid, HC2.out, List.drop_eq_nil_of_le (by omega)]
            rfl
          by_cases heq : most = (L.length : Int)
          · subst heq
            go_upto_region 8 with (fail)
            refine (wpIn_wide (n := n)).1 ?_
            gi_wp2_with (fail)
            refine ⟨trivial, callsIn_wide.2 ((cloneL (n₀ := n₀) (n₁ := n₁) wr b o L.length cL L HR2.out h1 h2 hLm hnV2.1 hnV2.2).mono ?_)⟩
            rintro e W1 ⟨xr, rfl, hxr, hok, kk⟩
            have HJ4 := Lib.hid (hJ _ _ _ HJ2.out (kk.mono fun _ h => by cases h))
            obtain ⟨fn, tmps, assign, body, hy, hR⟩ := hY pre xr W1 HJ4.out hok hlt'
            have hn1W : n₁ ≤ W1.heap.size := Nat.le_trans hnV2.2 kk.size
            have HB4 := Lib.hid (Blk.kept (w := wr) HB2.out kk (fun h => by cases h))
            have HM4 := Lib.hid (Blk.kept (w := wr) HM2.out kk (fun h => by cases h))
            have HR4 := Lib.hid (Rd.kept (w := wr) HR2.out kk hnV2.1 (fun _ h => by cases h))
            gi_wp2_with (fail)
            refine hR.mono ?_
            clear hR hy c0 m0
            rintro e W' (⟨rfl, hJ', hk⟩ | ⟨rfl, hJx'⟩)
            · obtain ⟨⟨c4, f4, m4⟩, hA⟩ := aft hJ hn1W hlm hlb hmb2 HB4.out HM4.out HR4.out hk hJ' L.length (by omega) (if cL = L.length then some ⟨b, o, none⟩ else some ⟨b, o + L.length * 2, none⟩) (fun h => by omega) (.slice (if cL = L.length then some ⟨b, o, none⟩ else some ⟨b, o + L.length * 2, none⟩) 0 (cL - L.length)) (by simp)
              have HA := Lib.hid hA
              clear hA
              gi_wp2
              go_wp2_with fail
              obtain ⟨h3, h4, h5, h6, h7⟩ := HA.out
              refine ⟨⟨L.drop L.length, _, cL - L.length, pre ++ [xr], ?_, h3, ?_, HU.out.drop _, h4, h5, h6, h7, ?_⟩, ?_⟩
              · rw [List.length_drop]; omega
              · have := HP.out
                rw [Hid, List.length_append, List.length_drop]
                simp
                omega
              · rw [Hid, ← HE.out, runsR_cons _ L (by intro h; rw [h] at hl1; simp at hl1), hcut.out, List.map_append, List.append_assoc]
                simp [hxr]
              · rw [h4.cell 0, cO]
                simp [lenAt]
                try omega
            · gi_wp2
              go_wp2_with fail
              rw [Exit.noGoto_ret]
              show bodyPost _ _ _ _ _ _
              refine bodyPost_ret (results_none rfl _ _ _) rfl ?_
              refine ⟨⟨_, rfl⟩, .inr ⟨_, ?_, hJx'⟩⟩
              rw [← HE.out, runsR_cons _ L (by intro h; rw [h] at hl1; simp at hl1), hcut.out, List.map_append]
              refine ⟨runsR (L.length : Int) (L.drop L.length), ?_⟩
              simp [hxr]
          · have hnl : ¬ most ≤ (L.length : Int) := by omega
            go_upto_region 8 with (fail)
            refine (wpIn_wide (n := n)).1 ?_
            gi_wp2_with (fail)
            refine ⟨trivial, callsIn_wide.2 ((cloneL (n₀ := n₀) (n₁ := n₁) wr b o L.length cL L HR2.out h1 h2 hLm hnV2.1 hnV2.2).mono ?_)⟩
            rintro e W1 ⟨xr, rfl, hxr, hok, kk⟩
            have HJ4 := Lib.hid (hJ _ _ _ HJ2.out (kk.mono fun _ h => by cases h))
            obtain ⟨fn, tmps, assign, body, hy, hR⟩ := hY pre xr W1 HJ4.out hok hlt'
            have hn1W : n₁ ≤ W1.heap.size := Nat.le_trans hnV2.2 kk.size
            have HB4 := Lib.hid (Blk.kept (w := wr) HB2.out kk (fun h => by cases h))
            have HM4 := Lib.hid (Blk.kept (w := wr) HM2.out kk (fun h => by cases h))
            have HR4 := Lib.hid (Rd.kept (w := wr) HR2.out kk hnV2.1 (fun _ h => by cases h))
            gi_wp2_with (fail)
            refine hR.mono ?_
            clear hR hy c0 m0
            rintro e W' (⟨rfl, hJ', hk⟩ | ⟨rfl, hJx'⟩)
            · obtain ⟨⟨c4, f4, m4⟩, hA⟩ := aft hJ hn1W hlm hlb hmb2 HB4.out HM4.out HR4.out hk hJ' L.length (by omega) (if cL = L.length then some ⟨b, o, none⟩ else some ⟨b, o + L.length * 2, none⟩) (fun h => by omega) (.slice (if cL = L.length then some ⟨b, o, none⟩ else some ⟨b, o + L.length * 2, none⟩) 0 (cL - L.length)) (by simp)
              have HA := Lib.hid hA
              clear hA
              gi_wp2
              go_wp2_with fail
              obtain ⟨h3, h4, h5, h6, h7⟩ := HA.out
              refine ⟨⟨L.drop L.length, _, cL - L.length, pre ++ [xr], ?_, h3, ?_, HU.out.drop _, h4, h5, h6, h7, ?_⟩, ?_⟩
              · rw [List.length_drop]; omega
              · have := HP.out
                rw [Hid, List.length_append, List.length_drop]
                simp
                omega
              · rw [Hid, ← HE.out, runsR_cons _ L (by intro h; rw [h] at hl1; simp at hl1), hcut.out, List.map_append, List.append_assoc]
                simp [hxr]
              · rw [h4.cell 0, cO]
                simp [lenAt]
                try omega
            · gi_wp2
              go_wp2_with fail
              rw [Exit.noGoto_ret]
              show bodyPost _ _ _ _ _ _
              refine bodyPost_ret (results_none rfl _ _ _) rfl ?_
              refine ⟨⟨_, rfl⟩, .inr ⟨_, ?_, hJx'⟩⟩
              rw [← HE.out, runsR_cons _ L (by intro h; rw [h] at hl1; simp at hl1), hcut.out, List.map_append]
              refine ⟨runsR most (L.drop L.length), ?_⟩
              simp [hxr]
end Go.Proofs.Ytgbicbeofgpinaa
