/- Extents: the law: in any order. -/
import Derived.Test.YtkbldbcjpdfopaaExV
namespace Go.Proofs.Ytkbldbcjpdfopaa
open Go.RowKit

theorem back_next {l L : List Ex} {k : Nat} (hk : k < l.length) (hq : k + 1 + L.length = l.length) (h : L = l.reverse.take L.length) : L ++ [l[k]] = l.reverse.take (L ++ [l[k]]).length := by
  rw [List.length_append, List.length_singleton, List.take_succ_eq_append_getElem (by rw [List.length_reverse]; omega), ← h, List.getElem_reverse]
  congr 2
  congr 1
  omega
set_option maxRecDepth 4000 in
set_option maxHeartbeats 4000000 in
theorem ext_Order (W : World) (r : Ex) (n : Int) (A : Option Addr) (c : Nat) (l : List Ex) (hln : l.length ≤ 8796093022208) (hA : RdX W.heap.size W A l) (hA0 : A = none → c = 0) (hl : ∀ x ∈ l, wfX x) :
    Calls Try.prog 5 #[exV r, .slice A l.length c, .int .i64 n] W (TrueK W) := by
  have HAl := Lib.hid ext_alive
  have K0 := Lib.hid ((Kept.refl [] W).alloc (.cells #[.int .i64 r.st, .int .i64 r.len] 23))
  obtain ⟨W1, hW1⟩ : ∃ W1, W1 = W.alloc (.cells #[.int .i64 r.st, .int .i64 r.len] 23) := ⟨_, rfl⟩
  have B0 := Lib.hid (Blk.new W 23 #[.int .i64 r.st, .int .i64 r.len])
  rw [← hW1] at K0 B0
  by_cases hsh : l.length ≤ 20
  · have HR1 := Lib.hid (fun V (k : Kept [] W1 V) => ext_Right V W.heap.size r A c l (K0.out.trans k).size hln (hA.kept (K0.out.trans k) (Nat.le_refl _)) hl)
    have HG1 := Lib.hid (fun V (k : Kept [] W1 V) => ext_Gaps V W.heap.size r A c l (K0.out.trans k).size hln (hA.kept (K0.out.trans k) (Nat.le_refl _)) hl)
    have HF1 := Lib.hid (fun V (k : Kept [] W1 V) => ext_Fit V W.heap.size r n A c l (K0.out.trans k).size hln (hA.kept (K0.out.trans k) (Nat.le_refl _)) hl)
    have hlb : ∀ x ∈ l.reverse, wfX x := fun x hx => hl x (List.mem_reverse.1 hx)
    have hp : l.reverse.Perm l := List.reverse_perm l
    have HRb0 := Lib.hid (fun V m (D : Option Addr) d (ho : EAt m V D d l.reverse) => ext_Right V V.heap.size r D d l.reverse (Nat.le_refl _) (by rw [List.length_reverse]; exact hln) ho.rd hlb)
    have HGb0 := Lib.hid (fun V m (D : Option Addr) d (ho : EAt m V D d l.reverse) => ext_Gaps V V.heap.size r D d l.reverse (Nat.le_refl _) (by rw [List.length_reverse]; exact hln) ho.rd hlb)
    have HFb0 := Lib.hid (fun V m (D : Option Addr) d (ho : EAt m V D d l.reverse) => ext_Fit V V.heap.size r n D d l.reverse (Nat.le_refl _) (by rw [List.length_reverse]; exact hln) ho.rd hlb)
    have HRm := Lib.hid (fun V m (D : Option Addr) d (x : Ex) (hx : x ∈ l) (ho : EAt m V D d (l ++ [x])) => ext_Right V V.heap.size r D d (l ++ [x]) (Nat.le_refl _) (by rw [List.length_append, List.length_singleton]; omega) ho.rd (fun y hy => by
      rcases List.mem_append.1 hy with hy | hy
      · exact hl y hy
      · obtain rfl := List.mem_singleton.1 hy
        exact hl y hx))
    have HRt := Lib.hid (fun (x : Ex) (hx : x ∈ l) => right_twice (r := r) hx)
    have hgl := gL_len r l
    have HGP := Lib.hid (fun V e w' => gaps_any (r := r) (l := l) (V := V) (e := e) (w' := w'))
    have HGPb := Lib.hid (fun V e w' => gaps_any (r := r) (l := l.reverse) (V := V) (e := e) (w' := w'))
    rw [gL_perm hp, gE_perm hp] at HGPb
    unfold FitPost at HF1 HFb0
    rw [fitX_perm hp] at HFb0
    rw [rightB_perm hp] at HRb0
    rw [List.length_reverse] at HRb0 HGb0 HFb0
    have hsm : (gL r l).length ≤ 1048576 := by omega
    have HA : Hid (RdX W.heap.size W1 A l) := hA.kept K0.out (Nat.le_refl _)
    have HA0 := Lib.hid hA0
    have hzW := B0.out.lt
    have HL := Lib.hid hl
    clear hA hA0 hgl hp hlb hl
    obtain ⟨rs, rl⟩ := r
    unfold exV at HR1 HG1 HF1 HRb0 HGb0 HFb0 HRm ⊢
    dsimp only at HR1 HG1 HF1 HRb0 HGb0 HFb0 HRm B0 hW1 ⊢
    generalize rightB ⟨rs, rl⟩ l = rb at *
    generalize fitX ⟨rs, rl⟩ n l = fx at *
    generalize gL ⟨rs, rl⟩ l = G at *
    generalize gE ⟨rs, rl⟩ l = ge at *
    generalize GapsPost ⟨rs, rl⟩ = GP at *
    obtain ⟨⟨fs, fl⟩, fe⟩ := fx
    dsimp only at HF1 HFb0
    have hli : (l.length : Int) ≤ 20 := by omega
    have hl1 : IntKind.i64.wrap ((l.length : Int) - 1) = (l.length : Int) - 1 := IntWalk.i64_in _ (by omega)
    go_enter Try.func5, Try.ntmps5
    go_wp2_with fail
    rw [← hW1]
    clear hW1
    go_loopw [7, 8] (fun o i V => ∃ (q : Nat) (L : List Ex) (A' : Option Addr) (c' : Nat), q + L.length = l.length ∧ i = .int .i64 ((q : Int) - 1) ∧ o = .slice A' L.length c' ∧ Hid (L = l.reverse.take L.length) ∧ Hid (EAt W1.heap.size V A' c' L) ∧ Hid (Kept [] W1 V)) (fun _ i _ => (intOf i + 1).toNat)
    case atStart => exact ⟨l.length, [], none, 0, by simp, rfl, rfl, rfl, World.ownsRow_nil _ _ _ _, Kept.refl _ _⟩
    case round =>
      obtain ⟨q, L, A', c', hq, rfl, rfl, HE, HO, HK⟩ := hrel
      by_cases hq0 : 0 < q
      · obtain ⟨k, rfl⟩ : ∃ k, q = k + 1 := ⟨q - 1, by omega⟩
        have hlt : k < l.length := by omega
        rw [show (((k + 1 : Nat) : Int) - 1) = (k : Int) by omega]
        obtain ⟨b, o, rfl, d0, d1⟩ := HA.out.at_ hlt
        have c0 := HK.out.cell d0 (fun h => by cases h)
        have c1 := HK.out.cell d1 (fun h => by cases h)
        have HN := Lib.hid (back_next hlt hq HE.out)
        have hki : (k : Int) < (l.length : Int) := by omega
        have hk0 : (0 : Int) ≤ (k : Int) := by omega
        have hwk : IntKind.i64.wrap ((k : Int) - 1) = (k : Int) - 1 := IntWalk.i64_in _ (by omega)
        clear d0 d1
        generalize l[k] = x at *
        obtain ⟨xs, xl⟩ := x
        dsimp only at c0 c1
        have HRun := Lib.hid (app_X (W := W1) (w := wr.alloc (.cells #[.int .i64 xs, .int .i64 xl] 23)) (own_keptE HO.out ((Kept.refl [] wr).alloc _)) (HK.out.alloc _) (oneX wr ⟨xs, xl⟩) (c := 1) (fun h => by cases h) (by simp; omega))
        go_wp2_with (at_builtin; refine wpList_app rfl (.tmp 30) (.tmp 35) _ rfl _ _ rfl rfl (HRun.out _) ?_; rintro v5 w5 ⟨A5, c5, rfl, o5, k5⟩; clear HRun)
        go_roundw
        case rel => exact ⟨k, L ++ [(⟨xs, xl⟩ : Ex)], A5, c5, by rw [List.length_append, List.length_singleton]; omega, by go_num, by simp, HN, Lib.hid o5, Lib.hid k5⟩
        case measure => simp only [intOf]; omega
      · obtain rfl : q = 0 := by omega
        have hL : L = l.reverse := by
          have h := HE.out
          rwa [show L.length = l.length by omega, List.take_of_length_le (by simp)] at h
        subst hL
        clear HE hq
        have hlr : l.reverse.length = l.length := List.length_reverse
        rw [hlr]
        clear hlr
        rw [show (((0 : Nat) : Int) - 1) = -1 by omega]
        have KR := HK
        have OR := HO
        have BR := Lib.hid (B0.out.kept HK.out (fun h => by cases h))
        clear HK HO
        have HRb := Lib.hid (fun V (k : Kept [] wr V) => HRb0.out V _ A' c' (own_keptE OR.out k))
        have HGb := Lib.hid (fun V (k : Kept [] wr V) => HGb0.out V _ A' c' (own_keptE OR.out k))
        have HFb := Lib.hid (fun V (k : Kept [] wr V) => HFb0.out V _ A' c' (own_keptE OR.out k))
        clear HRb0 HGb0 HFb0
        have b0 := BR.out.cell 0
        have b1 := BR.out.cell 1
        go_wp2_with fail
        refine (HG1.out _ KR.out).mono ?_
        intro e w1 hp
        obtain ⟨A1, c1, rfl, o1, k1⟩ := HGP.out _ _ _ hp
        clear hp b0 b1
        have B1 := Lib.hid (BR.out.kept k1 (fun h => by cases h))
        have O1 := Lib.hid o1
        have K1 := Lib.hid k1
        have b0 := B1.out.cell 0
        have b1 := B1.out.cell 1
        clear k1 o1
        go_wp2_with fail
        refine (HGb.out _ K1.out).mono ?_
        intro e w2 hp
        obtain ⟨A2, c2, rfl, o2, k2⟩ := HGPb.out _ _ _ hp
        clear hp b0 b1
        have K2 := Lib.hid (K1.out.trans k2)
        have B2 := Lib.hid (B1.out.kept k2 (fun h => by cases h))
        have O2 := Lib.hid (own_keptE O1.out k2)
        have P2 := Lib.hid o2
        have b0 := B2.out.cell 0
        have b1 := B2.out.cell 1
        clear k2 o2
        go_wp2_with fail
        refine (HF1.out _ (KR.out.trans K2.out)).mono ?_
        rintro e w3 ⟨rfl, k3⟩
        clear b0 b1
        have k3' : Kept [] w2 (w3.alloc (.cells #[.int .i64 fs, .int .i64 fl] 23)) := k3.alloc _
        have K3 := Lib.hid (K2.out.trans k3')
        have B3 := Lib.hid (B2.out.kept k3' (fun h => by cases h))
        have O3 := Lib.hid (own_keptE O2.out k3')
        have P3 := Lib.hid (own_keptE P2.out k3')
        have X3 := Lib.hid (Blk.new w3 23 #[.int .i64 fs, .int .i64 fl])
        have b0 := B3.out.cell 0
        have b1 := B3.out.cell 1
        clear k3 k3'
        go_wp2_with fail
        generalize w3.heap.size = x3 at *
        generalize w3.alloc (.cells #[.int .i64 fs, .int .i64 fl] 23) = w3a at *
        refine (HFb.out _ K3.out).mono ?_
        rintro e w4 ⟨rfl, k4⟩
        clear b0 b1
        have k4' : Kept [] w3a (w4.alloc (.cells #[.int .i64 fs, .int .i64 fl] 23)) := k4.alloc _
        have K4 := Lib.hid (K3.out.trans k4')
        have B4 := Lib.hid (B3.out.kept k4' (fun h => by cases h))
        have O4 := Lib.hid (own_keptE O3.out k4')
        have P4 := Lib.hid (own_keptE P3.out k4')
        have X4 := Lib.hid (X3.out.kept k4' (fun h => by cases h))
        have Y4 := Lib.hid (Blk.new w4 23 #[.int .i64 fs, .int .i64 fl])
        clear k4 k4'
        go_wp2_with fail
        generalize w4.heap.size = x4 at *
        generalize w4.alloc (.cells #[.int .i64 fs, .int .i64 fl] 23) = w4a at *
        refine (same_X w4a A1 A2 c1 c2 _ _ G G O4.out P4.out hsm rfl).mono ?_
        rintro e w6 ⟨rfl, kD⟩
        have k6 := kD.kept
        have K6 := Lib.hid (K4.out.trans k6)
        have B6 := Lib.hid (B4.out.kept k6 (fun h => by cases h))
        have X6 := Lib.hid (X4.out.kept k6 (fun h => by cases h))
        have Y6 := Lib.hid (Y4.out.kept k6 (fun h => by cases h))
        clear k6 kD O1 O2 O3 O4 P2 P3 P4 X3 X4 Y4 K1 K2 K3 K4 B0 B1 B2 B3 B4 HGP HGPb HG1 HF1 HGb HFb
        by_cases h0 : 0 < l.length
        · have h0i : (0 : Int) < (l.length : Int) := by omega
          have HRd : Hid (RdX W.heap.size w6 A l) := HA.out.kept (KR.out.trans K6.out) (Nat.le_of_lt hzW)
          obtain ⟨b, o, rfl, d0, d1⟩ := HRd.out.at_ h0
          simp only [Nat.zero_mul, Nat.add_zero] at d0 d1
          have hm : l[0] ∈ l := List.getElem_mem _
          have HM := Lib.hid hm
          obtain ⟨x, hx⟩ : ∃ x, Hid (l[0] = x) := ⟨_, Lib.hid rfl⟩
          rw [hx.out] at d0 d1 HM
          clear hm hx
          obtain ⟨xs, xl⟩ := x
          dsimp only at d0 d1
          have D0 := Lib.hid d0
          have D1 := Lib.hid d1
          have HRun1 := Lib.hid (app_X (emptyX w6) ((Kept.refl [] w6).alloc _) (HRd.out.kept ((Kept.refl [] w6).alloc _) (Nat.le_trans (Nat.le_of_lt hzW) (KR.out.trans K6.out).size)) (c := c) (fun h => by cases h) (by simp only [List.length_nil]; omega))
          clear d0 d1
          go_wp2_with (at_builtin; first
            | (refine wpList_app rfl (.tmp 69) (.tmp 70) _ rfl _ _ rfl rfl (HRun1.out _) ?_; rintro v7 w7 ⟨A7, c7, rfl, o7, k7⟩; clear HRun1; rw [List.nil_append] at o7; have O7 := Lib.hid o7; have K7 := Lib.hid k7; have d0 := k7.cell D0.out (fun h => by cases h); have d1 := k7.cell D1.out (fun h => by cases h); clear o7 k7
               have HRun2 := Lib.hid (app_X (W := w6) (w := w7.alloc (.cells #[.int .i64 xs, .int .i64 xl] 23)) (own_keptE O7.out ((Kept.refl [] w7).alloc _)) (K7.out.alloc _) (oneX w7 ⟨xs, xl⟩) (c := 1) (fun h => by cases h) (by simp; omega)))
            | (refine wpList_app rfl (.tmp 72) (.tmp 76) _ rfl _ _ rfl rfl (HRun2.out _) ?_; rintro v8 w8 ⟨A8, c8, rfl, o8, k8⟩; clear HRun2 d0 d1; have O8 := Lib.hid o8; have K8 := Lib.hid k8; have b0 := (B6.out.kept k8 (fun h => by cases h)).cell 0; have b1 := (B6.out.kept k8 (fun h => by cases h)).cell 1; clear o8 k8))
          have HRn := HRm.out _ _ A8 c8 ⟨xs, xl⟩ HM.out O8.out
          rw [HRt.out _ HM.out, List.length_append, List.length_singleton] at HRn
          refine HRn.mono ?_
          rintro e w7 ⟨rfl, k7⟩
          clear b0 b1 HRn HRm
          have B7 := Lib.hid (B6.out.kept (K8.out.trans k7) (fun h => by cases h))
          have X7 := Lib.hid (X6.out.kept (K8.out.trans k7) (fun h => by cases h))
          have Y7 := Lib.hid (Y6.out.kept (K8.out.trans k7) (fun h => by cases h))
          have K7 := Lib.hid ((KR.out.trans K6.out).trans (K8.out.trans k7))
          replace HRb := Lib.hid (fun V (k : Kept [] w7 V) => HRb.out V ((K6.out.trans (K8.out.trans k7)).trans k))
          replace HR1 := Lib.hid (fun V (k : Kept [] w7 V) => HR1.out V (K7.out.trans k))
          clear k7 O7 O8 B6 X6 Y6 HRd
          go_wp2_with fail
          have H0 : Hid (Kept [] w7 w7) ∧ w7.cell? ⟨W.heap.size, 0, none⟩ = some (.int .i64 rs) ∧ w7.cell? ⟨W.heap.size, 1, none⟩ = some (.int .i64 rl) ∧ w7.cell? ⟨x3, 0, none⟩ = some (.int .i64 fs) ∧ w7.cell? ⟨x3, 1, none⟩ = some (.int .i64 fl) ∧ w7.cell? ⟨x4, 0, none⟩ = some (.int .i64 fs) ∧ w7.cell? ⟨x4, 1, none⟩ = some (.int .i64 fl) := ⟨Kept.refl _ _, B7.out.cell 0, B7.out.cell 1, X7.out.cell 0, X7.out.cell 1, Y7.out.cell 0, Y7.out.cell 1⟩
          clear B7 X7 Y7
          go_wp2_with fail
          go_region_held3 (fun V => Hid (Kept [] w7 V) ∧ V.cell? ⟨W.heap.size, 0, none⟩ = some (.int .i64 rs) ∧ V.cell? ⟨W.heap.size, 1, none⟩ = some (.int .i64 rl) ∧ V.cell? ⟨x3, 0, none⟩ = some (.int .i64 fs) ∧ V.cell? ⟨x3, 1, none⟩ = some (.int .i64 fl) ∧ V.cell? ⟨x4, 0, none⟩ = some (.int .i64 fs) ∧ V.cell? ⟨x4, 1, none⟩ = some (.int .i64 fl)) (first | exact hold6 H0 (Kept.refl [] _).drew | exact hold6 (by assumption) ka | exact hold6 (by assumption) kb | exact hold6 (by assumption) kc | assumption) (first
            | (go_at_call 6; refine (HAl.out _).mono ?_; rintro e wa ⟨rfl, ka⟩)
            | (go_at_call 12; with_reducible refine (HR1.out _ (Hid.out (And.left (by assumption)))).mono ?_; rintro e wb ⟨rfl, kb⟩)
            | (go_at_call 12; with_reducible refine (HRb.out _ (Hid.out (And.left (by assumption)))).mono ?_; rintro e wc ⟨rfl, kc⟩))
          go_wp2_with fail
          go_ret
          exact ⟨rfl, (K0.out.trans K7.out).trans (Hid.out (And.left (by assumption)))⟩
        · have h0i : ¬ (0 : Int) < (l.length : Int) := by omega
          have B7 := B6
          have X7 := X6
          have Y7 := Y6
          have K7 := Lib.hid (KR.out.trans K6.out)
          replace HRb := Lib.hid (fun V (k : Kept [] w6 V) => HRb.out V (K6.out.trans k))
          replace HR1 := Lib.hid (fun V (k : Kept [] w6 V) => HR1.out V (K7.out.trans k))
          clear B6 X6 Y6
          go_wp2_with fail
          have H0 : Hid (Kept [] w6 w6) ∧ w6.cell? ⟨W.heap.size, 0, none⟩ = some (.int .i64 rs) ∧ w6.cell? ⟨W.heap.size, 1, none⟩ = some (.int .i64 rl) ∧ w6.cell? ⟨x3, 0, none⟩ = some (.int .i64 fs) ∧ w6.cell? ⟨x3, 1, none⟩ = some (.int .i64 fl) ∧ w6.cell? ⟨x4, 0, none⟩ = some (.int .i64 fs) ∧ w6.cell? ⟨x4, 1, none⟩ = some (.int .i64 fl) := ⟨Kept.refl _ _, B7.out.cell 0, B7.out.cell 1, X7.out.cell 0, X7.out.cell 1, Y7.out.cell 0, Y7.out.cell 1⟩
          clear B7 X7 Y7
          go_wp2_with fail
          go_region_held3 (fun V => Hid (Kept [] w6 V) ∧ V.cell? ⟨W.heap.size, 0, none⟩ = some (.int .i64 rs) ∧ V.cell? ⟨W.heap.size, 1, none⟩ = some (.int .i64 rl) ∧ V.cell? ⟨x3, 0, none⟩ = some (.int .i64 fs) ∧ V.cell? ⟨x3, 1, none⟩ = some (.int .i64 fl) ∧ V.cell? ⟨x4, 0, none⟩ = some (.int .i64 fs) ∧ V.cell? ⟨x4, 1, none⟩ = some (.int .i64 fl)) (first | exact hold6 H0 (Kept.refl [] _).drew | exact hold6 (by assumption) ka | exact hold6 (by assumption) kb | exact hold6 (by assumption) kc | assumption) (first
            | (go_at_call 6; refine (HAl.out _).mono ?_; rintro e wa ⟨rfl, ka⟩)
            | (go_at_call 12; with_reducible refine (HR1.out _ (Hid.out (And.left (by assumption)))).mono ?_; rintro e wb ⟨rfl, kb⟩)
            | (go_at_call 12; with_reducible refine (HRb.out _ (Hid.out (And.left (by assumption)))).mono ?_; rintro e wc ⟨rfl, kc⟩))
          go_wp2_with fail
          go_ret
          exact ⟨rfl, (K0.out.trans K7.out).trans (Hid.out (And.left (by assumption)))⟩
  · have h2i : (20 : Int) < (l.length : Int) := by omega
    obtain ⟨rs, rl⟩ := r
    unfold exV
    dsimp only at hW1 ⊢
    go_enter Try.func5, Try.ntmps5
    go_wp2_with fail
    rw [← hW1]
    clear hW1
    refine (HAl.out _).mono ?_
    rintro e w2 ⟨rfl, k2⟩
    go_wp2_with fail
    go_ret
    exact ⟨rfl, K0.out.trans k2⟩
end Go.Proofs.Ytkbldbcjpdfopaa
