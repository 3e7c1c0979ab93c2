/- Extents: the law: the whole. -/
import Derived.Test.YtkbldbcjpdfopaaExU
namespace Go.Proofs.Ytkbldbcjpdfopaa
open Go.RowKit

set_option maxRecDepth 4000 in
set_option maxHeartbeats 4000000 in
theorem ext_Whole (W : World) (r : Ex) (n : Int) (A : Option Addr) (c : Nat) (l : List Ex) (hln : l.length ≤ 8796093022208) (hA : RdX W.heap.size W A l) (hA0 : A = none → c = 0) (hl : ∀ x ∈ l, wfX x) (hn : -9223372036854775808 ≤ n ∧ n ≤ 9223372036854775807) :
    Calls Try.prog 4 #[exV r, .slice A l.length c, .int .i64 n] W (TrueK W) := by
  have HAl := Lib.hid ext_alive
  have HG1 := Lib.hid (fun V (k : Kept [] W V) => ext_Gaps V W.heap.size r A c l k.size hln (hA.kept k (Nat.le_refl _)) hl)
  have K0 := Lib.hid ((Kept.refl [] W).alloc (.cells #[.int .i64 r.st, .int .i64 r.len] 23))
  have B0 := Lib.hid (Blk.new W 23 #[.int .i64 r.st, .int .i64 r.len])
  by_cases hsh : l.length ≤ 20 ∧ rightX r l
  · obtain ⟨hs1, hr⟩ := hsh
    have hb := rightB_iff.2 hr
    have HGP : Hid (∀ V e w', GapsPost r l V e w' → ∃ (A' : Option Addr) (c' : Nat), e = .returned (.tuple #[.slice A' (gapsX r l).length c', .int .i64 0]) ∧ EAt V.heap.size w' A' c' (gapsX r l) ∧ Kept [] V w') := by
      rintro V e w' ⟨k, ⟨hb2, rfl⟩ | ⟨hb2, A', c', rfl, h⟩⟩
      · rw [hb] at hb2
        cases hb2
      · exact ⟨A', c', rfl, h, k⟩
    have HF1 := Lib.hid (fun V (k : Kept [] W V) => ext_Fit V W.heap.size r n A c l k.size hln (hA.kept k (Nat.le_refl _)) hl)
    have HE1 := Lib.hid (fun V (k : Kept [] W V) => ext_Free V W.heap.size r A c l k.size hln (hA.kept k (Nat.le_refl _)) hl)
    have hgl := gapsX_len r l
    have HRoom := Lib.hid (fit_room (n := n) hr)
    have HAll := Lib.hid (all_right hr)
    have HAllF := Lib.hid (all_free hr)
    have HUse := Lib.hid (fun h => fit_use (n := n) hr h)
    have HUseF := Lib.hid (fun h => free_use (n := n) hr h)
    have hfr : 0 ≤ freeX r l ∧ freeX r l ≤ 1048576 := by
      have h1 := right_sum hr
      have h2 := inB_iff.1 hr.1.2
      unfold freeX
      rw [if_pos hb]
      omega
    have HR2 := Lib.hid (fun V m (D : Option Addr) d (q : List Ex) (hq : rightX r q) (hql : q.length ≤ 100) (ho : EAt m V D d q) => ext_Right V V.heap.size r D d q (Nat.le_refl _) (by omega) ho.rd (right_wf hq))
    have HE2 := Lib.hid (fun V m (D : Option Addr) d (q : List Ex) (hq : rightX r q) (hql : q.length ≤ 100) (ho : EAt m V D d q) => ext_Free V V.heap.size r D d q (Nat.le_refl _) (by omega) ho.rd (right_wf hq))
    have HA := Lib.hid hA
    have HA0 := Lib.hid hA0
    clear hA hl hr hb hA0
    unfold FitPost at HF1
    obtain ⟨rs, rl⟩ := r
    unfold exV at HG1 HF1 HE1 HR2 HE2 ⊢
    dsimp only at HG1 HF1 HE1 HR2 HE2 K0 B0 ⊢
    generalize freeX ⟨rs, rl⟩ l = fr at *
    generalize fitX ⟨rs, rl⟩ n l = fx at *
    generalize gapsX ⟨rs, rl⟩ l = G at *
    generalize GapsPost ⟨rs, rl⟩ l = GP at *
    obtain ⟨⟨fs, fl⟩, fe⟩ := fx
    dsimp only at HF1 HRoom HUse HUseF
    have hli : (l.length : Int) ≤ 20 := by omega
    have hlg : G.length ≤ 21 := by omega
    clear hgl hs1
    go_enter Try.func4, Try.ntmps4
    go_wp2_with fail
    refine (HG1.out _ K0.out).mono ?_
    intro e w1 hp
    obtain ⟨A1, c1, rfl, o1, k1⟩ := HGP.out _ _ _ hp
    clear hp HGP HG1
    have K1 := Lib.hid (K0.out.trans k1)
    have B1 := Lib.hid (B0.out.kept k1 (fun h => by cases h))
    have O1 := Lib.hid o1
    have b0 := B1.out.cell 0
    have b1 := B1.out.cell 1
    clear k1 o1
    go_wp2_with fail
    refine (HF1.out _ K1.out).mono ?_
    rintro e w3 ⟨rfl, k3⟩
    clear b0 b1
    have k3' : Kept [] w1 (w3.alloc (.cells #[.int .i64 fs, .int .i64 fl] 23)) := k3.alloc _
    have K3 := Lib.hid (K1.out.trans k3')
    have B3 := Lib.hid (B1.out.kept k3' (fun h => by cases h))
    have O3 := Lib.hid (own_keptE O1.out k3')
    have X3 := Lib.hid (Blk.new w3 23 #[.int .i64 fs, .int .i64 fl])
    clear k3 k3'
    go_wp2_with fail
    generalize w3.heap.size = x3 at *
    generalize w3.alloc (.cells #[.int .i64 fs, .int .i64 fl] 23) = w3a at *
    go_loopw [11, 12] (fun q i V => ∃ k : Nat, k ≤ G.length ∧ i = .int .i64 k ∧ q = .bool ((G.take k).any (roomP n)) ∧ Hid (Dr w3a V)) (fun _ i _ => G.length - (intOf i).toNat)
    case atStart => exact ⟨0, Nat.zero_le _, rfl, by simp, Dr.refl _⟩
    case round =>
      obtain ⟨k, hk, rfl, rfl, HK⟩ := hrel
      by_cases hlt : k < G.length
      · obtain ⟨b, rfl, d0, d1⟩ := EAt.at_ O3.out hlt
        have c1' := HK.out.kept.cell d1 (fun h => by cases h)
        have HT : Hid ((G.take (k + 1)).any (roomP n) = ((G.take k).any (roomP n) || roomP n G[k])) := by
          rw [Hid, List.take_succ_eq_append_getElem hlt, List.any_append]
          simp
        have hki : (k : Int) < (G.length : Int) := by omega
        clear d0 d1
        generalize G[k] = x at *
        obtain ⟨xs, xl⟩ := x
        dsimp only at c1'
        cases hq : (G.take k).any (roomP n) with
        | true =>
          rw [hq] at HT
          clear hq
          go_wp2_with fail
          go_roundw
          case rel => exact ⟨k + 1, by omega, by go_num, by rw [HT.out]; rfl, HK⟩
          case measure => simp [intOf]; omega
        | false =>
          rw [hq] at HT
          clear hq
          by_cases h1 : 1 ≤ n
          · by_cases h2 : n ≤ xl
            · have HP : Hid (roomP n ⟨xs, xl⟩ = true) := by simp [Hid, roomP, h1, h2]
              go_wp2_with fail
              go_roundw
              case rel => exact ⟨k + 1, by omega, by go_num, by rw [HT.out, HP.out]; rfl, HK⟩
              case measure => simp [intOf]; omega
            · have HP : Hid (roomP n ⟨xs, xl⟩ = false) := by simp [Hid, roomP, h2]
              go_wp2_with fail
              go_roundw
              case rel => exact ⟨k + 1, by omega, by go_num, by rw [HT.out, HP.out]; rfl, HK⟩
              case measure => simp [intOf]; omega
          · have HP : Hid (roomP n ⟨xs, xl⟩ = false) := by simp [Hid, roomP, h1]
            go_wp2_with fail
            go_roundw
            case rel => exact ⟨k + 1, by omega, by go_num, by rw [HT.out, HP.out]; rfl, HK⟩
            case measure => simp [intOf]; omega
      · obtain rfl : k = G.length := by omega
        rw [List.take_length, ← HRoom.out]
        have KR := Lib.hid (K3.out.trans HK.out.kept)
        have BR := Lib.hid (B3.out.kept HK.out.kept (fun h => by cases h))
        have OR := Lib.hid (own_keptE O3.out HK.out.kept)
        have XR := Lib.hid (X3.out.kept HK.out.kept (fun h => by cases h))
        clear HK K3 B3 O3 X3 O1 B1 K1 B0 K0 HRoom
        have HRun1 := Lib.hid (app_X (emptyX wr) ((Kept.refl [] wr).alloc _) (HA.out.kept (KR.out.alloc _) (Nat.le_refl _)) HA0.out (by simp only [List.length_nil]; omega))
        go_wp2_with (at_builtin; first
          | (refine wpList_app rfl (.tmp 57) (.tmp 58) _ rfl _ _ rfl rfl (HRun1.out _) ?_; rintro v5 w5 ⟨A5, c5, rfl, o5, k5⟩; clear HRun1; rw [List.nil_append] at o5; have O5 := Lib.hid o5; have K5 := Lib.hid k5; have x50 := (XR.out.kept k5 (fun h => by cases h)).cell 0; have x51 := (XR.out.kept k5 (fun h => by cases h)).cell 1; clear o5 k5
             have HRun2 := Lib.hid (app_X (W := wr) (w := w5.alloc (.cells #[.int .i64 fs, .int .i64 fl] 23)) (own_keptE O5.out ((Kept.refl [] w5).alloc _)) (K5.out.alloc _) (oneX w5 ⟨fs, fl⟩) (c := 1) (fun h => by cases h) (by simp; omega)))
          | (refine wpList_app rfl (.tmp 60) (.tmp 62) _ rfl _ _ rfl rfl (HRun2.out _) ?_; rintro v6 w6 ⟨A6, c6, rfl, o6, k6⟩; clear HRun2; have O6 := Lib.hid o6; have K6 := Lib.hid k6; clear o6 k6 x50 x51
             have HRun3 := Lib.hid (app_X (emptyX w6) ((Kept.refl [] w6).alloc _) (HA.out.kept ((KR.out.trans K6.out).alloc _) (Nat.le_refl _)) HA0.out (by simp only [List.length_nil]; omega)))
          | (refine wpList_app rfl (.tmp 64) (.tmp 65) _ rfl _ _ rfl rfl (HRun3.out _) ?_; rintro v7 w7 ⟨A7, c7, rfl, o7, k7⟩; clear HRun3; rw [List.nil_append] at o7; have O7 := Lib.hid o7; have K7 := Lib.hid k7; clear o7 k7
             have HRun4 := Lib.hid (app_X (W := w6) O7.out K7.out (own_keptE OR.out (K6.out.trans K7.out)).rd (fun e => EAt.none OR.out e) (by omega)))
          | (refine wpList_app rfl (.tmp 67) (.tmp 68) _ rfl _ _ rfl rfl (HRun4.out _) ?_; rintro v8 w8 ⟨A8, c8, rfl, o8, k8⟩; clear HRun4; have O8 := Lib.hid o8; have K8 := Lib.hid k8; clear o8 k8
             have b0 := (BR.out.kept (K6.out.trans K8.out) (fun h => by cases h)).cell 0
             have b1 := (BR.out.kept (K6.out.trans K8.out) (fun h => by cases h)).cell 1))
        have K8' := Lib.hid ((KR.out.trans K6.out).trans K8.out)
        refine (HE1.out _ K8'.out).mono ?_
        rintro e w9 ⟨rfl, k9⟩
        have K9 := Lib.hid (K8'.out.trans k9)
        have B9 := Lib.hid ((BR.out.kept (K6.out.trans K8.out) (fun h => by cases h)).kept k9 (fun h => by cases h))
        have O9 := Lib.hid (own_keptE O8.out k9)
        have P9 := Lib.hid (own_keptE O6.out (K8.out.trans k9))
        clear b0 b1 k9 O5 K5 K6 O6 K7 O7 K8 O8 BR OR XR KR HF1 HE1
        have b0 := B9.out.cell 0
        have b1 := B9.out.cell 1
        by_cases hfe : fe = 0
        · subst hfe
          obtain ⟨u1, u2, u3, u4⟩ := HUse.out rfl
          have HU5 := Lib.hid (HUseF.out rfl)
          have hwn : IntKind.i64.wrap (fr - n) = fr - n := IntWalk.i64_in _ (by omega)
          have HRa := HR2.out w9 _ A6 c6 (l ++ [⟨fs, fl⟩]) u1 (by rw [List.length_append, List.length_singleton]; omega) P9.out
          rw [List.length_append, List.length_singleton, rightB_iff.2 u1] at HRa
          have HEa := Lib.hid (fun V (k : Kept [] w9 V) => HE2.out V _ A6 c6 (l ++ [⟨fs, fl⟩]) u1 (by rw [List.length_append, List.length_singleton]; omega) (own_keptE P9.out k))
          rw [List.length_append, List.length_singleton, HU5.out] at HEa
          replace HRa := Lib.hid HRa
          clear u1 u2 HUse HUseF HU5
          go_wp2_with fail
          refine HRa.out.mono ?_
          rintro e wA ⟨rfl, kA⟩
          clear b0 b1
          have b0 := (B9.out.kept kA (fun h => by cases h)).cell 0
          have b1 := (B9.out.kept kA (fun h => by cases h)).cell 1
          go_wp2_with fail
          refine (HEa.out _ kA).mono ?_
          rintro e wB ⟨rfl, kB⟩
          clear b0 b1
          have KB := Lib.hid ((K9.out.trans kA).trans kB)
          have BB := Lib.hid (B9.out.kept (kA.trans kB) (fun h => by cases h))
          have OB := Lib.hid (own_keptE O9.out (kA.trans kB))
          have b0 := BB.out.cell 0
          have b1 := BB.out.cell 1
          clear kA kB HRa HEa
          go_wp2_with fail
          clear b0 b1
          refine (HAl.out _).mono ?_
          rintro e wC ⟨rfl, kC⟩
          have KC := Lib.hid (KB.out.trans kC)
          have b0 := (BB.out.kept kC (fun h => by cases h)).cell 0
          have b1 := (BB.out.kept kC (fun h => by cases h)).cell 1
          have HRc := HR2.out wC _ A8 c8 (l ++ G) HAll.out (by rw [List.length_append]; omega) (own_keptE OB.out kC)
          rw [List.length_append, rightB_iff.2 HAll.out] at HRc
          replace HRc := Lib.hid HRc
          have OC := Lib.hid (own_keptE OB.out kC)
          have BC := Lib.hid (BB.out.kept kC (fun h => by cases h))
          clear kC
          go_wp2_with fail
          refine HRc.out.mono ?_
          rintro e wD ⟨rfl, kD⟩
          have KD := Lib.hid (KC.out.trans kD)
          clear b0 b1 HRc
          have b0 := (BC.out.kept kD (fun h => by cases h)).cell 0
          have b1 := (BC.out.kept kD (fun h => by cases h)).cell 1
          have HEd := HE2.out wD _ A8 c8 (l ++ G) HAll.out (by rw [List.length_append]; omega) (own_keptE OC.out kD)
          rw [List.length_append, HAllF.out] at HEd
          replace HEd := Lib.hid HEd
          clear kD
          go_wp2_with fail
          refine HEd.out.mono ?_
          rintro e wE ⟨rfl, kE⟩
          have KE := Lib.hid (KD.out.trans kE)
          clear kE b0 b1
          go_wp2_with fail
          go_ret
          exact ⟨rfl, KE.out⟩
        · clear HUse HUseF
          rw [show decide (fe = 0) = false from decide_eq_false hfe]
          go_wp2_with fail
          clear b0 b1
          refine (HAl.out _).mono ?_
          rintro e wC ⟨rfl, kC⟩
          have KC := Lib.hid (K9.out.trans kC)
          have b0 := (B9.out.kept kC (fun h => by cases h)).cell 0
          have b1 := (B9.out.kept kC (fun h => by cases h)).cell 1
          have HRc := HR2.out wC _ A8 c8 (l ++ G) HAll.out (by rw [List.length_append]; omega) (own_keptE O9.out kC)
          rw [List.length_append, rightB_iff.2 HAll.out] at HRc
          replace HRc := Lib.hid HRc
          have OC := Lib.hid (own_keptE O9.out kC)
          have BC := Lib.hid (B9.out.kept kC (fun h => by cases h))
          clear kC
          go_wp2_with fail
          refine HRc.out.mono ?_
          rintro e wD ⟨rfl, kD⟩
          have KD := Lib.hid (KC.out.trans kD)
          clear b0 b1 HRc
          have b0 := (BC.out.kept kD (fun h => by cases h)).cell 0
          have b1 := (BC.out.kept kD (fun h => by cases h)).cell 1
          have HEd := HE2.out wD _ A8 c8 (l ++ G) HAll.out (by rw [List.length_append]; omega) (own_keptE OC.out kD)
          rw [List.length_append, HAllF.out] at HEd
          replace HEd := Lib.hid HEd
          clear kD
          go_wp2_with fail
          refine HEd.out.mono ?_
          rintro e wE ⟨rfl, kE⟩
          have KE := Lib.hid (KD.out.trans kE)
          clear kE b0 b1
          go_wp2_with fail
          go_ret
          have hq : (fe == 0) = false := by simpa using hfe
          refine ⟨?_, KE.out⟩
          show Ending.returned (Value.bool (!fe == 0)) = _
          rw [hq]
          rfl
  · have HX : Hid (l.length ≤ 20 → ∀ V e w', GapsPost r l V e w' → e = .returned (.tuple #[.slice none 0 0, .int .i64 1]) ∧ Kept [] V w') := by
      rintro h V e w' ⟨k, ⟨hb2, rfl⟩ | ⟨hb2, A', c', rfl, _⟩⟩
      · exact ⟨rfl, k⟩
      · exact absurd ⟨h, rightB_iff.1 hb2⟩ hsh
    have HGP := Lib.hid (fun V e w' => gaps_any (r := r) (l := l) (V := V) (e := e) (w' := w'))
    obtain ⟨rs, rl⟩ := r
    unfold exV at HG1 ⊢
    dsimp only at HG1 K0 B0 HGP ⊢
    clear hA hl hA0 hsh
    by_cases h2 : l.length ≤ 20
    · have h2i : (l.length : Int) ≤ 20 := by omega
      go_enter Try.func4, Try.ntmps4
      go_wp2_with fail
      refine (HG1.out _ K0.out).mono ?_
      intro e w1 hp
      obtain ⟨rfl, k1⟩ := HX.out h2 _ _ _ hp
      clear hp
      go_wp2_with fail
      refine (HAl.out _).mono ?_
      rintro e w2 ⟨rfl, k2⟩
      go_wp2_with fail
      go_ret
      exact ⟨rfl, (K0.out.trans k1).trans k2⟩
    · have h2i : (20 : Int) < (l.length : Int) := by omega
      clear HX
      go_enter Try.func4, Try.ntmps4
      go_wp2_with fail
      refine (HG1.out _ K0.out).mono ?_
      intro e w1 hp
      obtain ⟨A1, c1, rfl, o1, k1⟩ := HGP.out _ _ _ hp
      clear hp o1
      go_wp2_with fail
      refine (HAl.out _).mono ?_
      rintro e w2 ⟨rfl, k2⟩
      go_wp2_with fail
      go_ret
      exact ⟨rfl, (K0.out.trans k1).trans k2⟩
end Go.Proofs.Ytkbldbcjpdfopaa
