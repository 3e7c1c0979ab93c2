/- Extents: the law: what is told is as the document says. -/
import Derived.Test.YtkbldbcjpdfopaaExQ
import Derived.Deep.RegionHeld3
namespace Go.Proofs.Ytkbldbcjpdfopaa
open Go.RowKit

noncomputable def gL (r : Ex) (l : List Ex) : List Ex := if rightB r l = true then gapsX r l else []
noncomputable def gE (r : Ex) (l : List Ex) : Int := if rightB r l = true then 0 else 1
theorem gL_len (r : Ex) (l : List Ex) : (gL r l).length ≤ l.length + 1 := by
  unfold gL
  split
  · exact gapsX_len r l
  · simp
theorem gaps_any {r : Ex} {l : List Ex} {V : World} {e : Ending} {w' : World} (h : GapsPost r l V e w') : ∃ (A' : Option Addr) (c' : Nat), e = .returned (.tuple #[.slice A' (gL r l).length c', .int .i64 (gE r l)]) ∧ EAt V.heap.size w' A' c' (gL r l) ∧ Kept [] V w' := by
  obtain ⟨k, ⟨hb, rfl⟩ | ⟨hb, A', c', rfl, h⟩⟩ := h
  · have e1 : gL r l = [] := by unfold gL; rw [hb]; rfl
    have e2 : gE r l = 1 := by unfold gE; rw [hb]; rfl
    rw [e1, e2]
    exact ⟨none, 0, rfl, World.ownsRow_nil _ _ _ _, k⟩
  · have e1 : gL r l = gapsX r l := if_pos hb
    have e2 : gE r l = 0 := if_pos hb
    rw [e1, e2]
    exact ⟨A', c', rfl, h, k⟩
theorem own_keptE {n₀ c : Nat} {w w' : World} {A : Option Addr} {l : List Ex} (h : EAt n₀ w A c l) (k : Kept [] w w') : EAt n₀ w' A c l := own_row h (fun _ _ _ _ _ hh => k.heap hh (fun h => by cases h))
theorem hold6 {w W W' : World} {a b c d f g : Addr} {q u v x y z : Value} (h : Hid (Kept [] w W) ∧ W.cell? a = some q ∧ W.cell? b = some u ∧ W.cell? c = some v ∧ W.cell? d = some x ∧ W.cell? f = some y ∧ W.cell? g = some z) (k : Kept [] W W') : Hid (Kept [] w W') ∧ W'.cell? a = some q ∧ W'.cell? b = some u ∧ W'.cell? c = some v ∧ W'.cell? d = some x ∧ W'.cell? f = some y ∧ W'.cell? g = some z :=
  ⟨Lib.hid (h.1.out.trans k), k.cell h.2.1 (fun h => by cases h), k.cell h.2.2.1 (fun h => by cases h), k.cell h.2.2.2.1 (fun h => by cases h), k.cell h.2.2.2.2.1 (fun h => by cases h), k.cell h.2.2.2.2.2.1 (fun h => by cases h), k.cell h.2.2.2.2.2.2 (fun h => by cases h)⟩
set_option maxRecDepth 4000 in
set_option maxHeartbeats 4000000 in
theorem ext_Tells (W : World) (r : Ex) (n : Int) (A : Option Addr) (c : Nat) (l : List Ex) (hln : l.length ≤ 8796093022208) (hA : RdX W.heap.size W A l) (hl : ∀ x ∈ l, wfX x) :
    Calls Try.prog 3 #[exV r, .slice A l.length c, .int .i64 n] W (TrueK W) := by
  have HR1 := Lib.hid (fun V (k : Kept [] W V) => ext_Right V W.heap.size r A c l k.size hln (hA.kept k (Nat.le_refl _)) hl)
  have HR2 := Lib.hid (fun V (k : Kept [] W V) => ref_Right V W.heap.size r A c l hln (hA.kept k (Nat.le_refl _)) hl)
  have HG1 := Lib.hid (fun V (k : Kept [] W V) => ext_Gaps V W.heap.size r A c l k.size hln (hA.kept k (Nat.le_refl _)) hl)
  have HG2 := Lib.hid (fun V (k : Kept [] W V) => ref_Gaps V W.heap.size r A c l k.size hln (hA.kept k (Nat.le_refl _)) hl)
  have HF1 := Lib.hid (fun V (k : Kept [] W V) => ext_Fit V W.heap.size r n A c l k.size hln (hA.kept k (Nat.le_refl _)) hl)
  have HF2 := Lib.hid (fun V (k : Kept [] W V) => ref_Fit V W.heap.size r n A c l k.size hln (hA.kept k (Nat.le_refl _)) hl)
  have HE1 := Lib.hid (fun V (k : Kept [] W V) => ext_Free V W.heap.size r A c l k.size hln (hA.kept k (Nat.le_refl _)) hl)
  have HE2 := Lib.hid (fun V (k : Kept [] W V) => ref_Free V W.heap.size r A c l k.size hln (hA.kept k (Nat.le_refl _)) hl)
  have HAl := Lib.hid ext_alive
  clear hA hl
  by_cases hsh : l.length ≤ 20 ∧ ¬ (3000 < r.len ∧ r.len ≤ 1048576)
  · have hgl := gL_len r l
    have HGP := Lib.hid (fun V e w' => gaps_any (r := r) (l := l) (V := V) (e := e) (w' := w'))
    obtain ⟨hs1, hs2⟩ := hsh
    have hsm : (gL r l).length ≤ 1048576 := by omega
    clear hgl
    unfold FitPost at HF1 HF2
    obtain ⟨rs, rl⟩ := r
    unfold exV at HR1 HR2 HG1 HG2 HF1 HF2 HE1 HE2 ⊢
    dsimp only at HR1 HR2 HG1 HG2 HF1 HF2 HE1 HE2 hs2 ⊢
    generalize rightB ⟨rs, rl⟩ l = rb at *
    generalize freeX ⟨rs, rl⟩ l = fr at *
    generalize fitX ⟨rs, rl⟩ n l = fx at *
    generalize gL ⟨rs, rl⟩ l = G at *
    generalize gE ⟨rs, rl⟩ l = ge at *
    generalize GapsPost ⟨rs, rl⟩ l = GP at *
    obtain ⟨⟨fs, fl⟩, fe⟩ := fx
    dsimp only at HF1 HF2
    have K0 := Lib.hid ((Kept.refl [] W).alloc (.cells #[.int .i64 rs, .int .i64 rl] 23))
    have B0 := Lib.hid (Blk.new W 23 #[.int .i64 rs, .int .i64 rl])
    have hli : (l.length : Int) ≤ 20 := by omega
    by_cases h3 : 3000 < rl
    · have h4 : ¬ rl ≤ 1048576 := fun h => hs2 ⟨h3, h⟩
      clear hs1 hs2
      go_enter Try.func3, Try.ntmps3
      go_wp2_with fail
      refine (HG1.out _ K0.out).mono ?_
      intro e w1 hp
      obtain ⟨A1, c1, rfl, o1, k1⟩ := HGP.out _ _ _ hp
      clear hp
      have K1 := Lib.hid (K0.out.trans k1)
      have B1 := Lib.hid (B0.out.kept k1 (fun h => by cases h))
      have O1 := Lib.hid o1
      have b0 := B1.out.cell 0
      have b1 := B1.out.cell 1
      clear k1 o1
      go_wp2_with fail
      refine (HG2.out _ K1.out).mono ?_
      intro e w2 hp
      obtain ⟨A2, c2, rfl, o2, k2⟩ := HGP.out _ _ _ hp
      clear hp b0 b1
      have K2 := Lib.hid (K1.out.trans k2)
      have B2 := Lib.hid (B1.out.kept k2 (fun h => by cases h))
      have O2 := Lib.hid (own_keptE O1.out k2)
      have P2 := Lib.hid o2
      have b0 := B2.out.cell 0
      have b1 := B2.out.cell 1
      clear k2 o2
      go_wp2_with fail
      refine (HF1.out _ K2.out).mono ?_
      rintro e w3 ⟨rfl, k3⟩
      clear b0 b1
      have k3' : Kept [] w2 (w3.alloc (.cells #[.int .i64 fs, .int .i64 fl] 23)) := k3.alloc _
      have K3 := Lib.hid (K2.out.trans k3')
      have B3 := Lib.hid (B2.out.kept k3' (fun h => by cases h))
      have O3 := Lib.hid (own_keptE O2.out k3')
      have P3 := Lib.hid (own_keptE P2.out k3')
      have X3 := Lib.hid (Blk.new w3 23 #[.int .i64 fs, .int .i64 fl])
      have b0 := B3.out.cell 0
      have b1 := B3.out.cell 1
      clear k3 k3'
      go_wp2_with fail
      generalize w3.heap.size = x3 at *
      generalize w3.alloc (.cells #[.int .i64 fs, .int .i64 fl] 23) = w3a at *
      refine (HF2.out _ K3.out).mono ?_
      rintro e w4 ⟨rfl, k4⟩
      clear b0 b1
      have k4' : Kept [] w3a (w4.alloc (.cells #[.int .i64 fs, .int .i64 fl] 23)) := k4.alloc _
      have K4 := Lib.hid (K3.out.trans k4')
      have B4 := Lib.hid (B3.out.kept k4' (fun h => by cases h))
      have O4 := Lib.hid (own_keptE O3.out k4')
      have P4 := Lib.hid (own_keptE P3.out k4')
      have X4 := Lib.hid (X3.out.kept k4' (fun h => by cases h))
      have Y4 := Lib.hid (Blk.new w4 23 #[.int .i64 fs, .int .i64 fl])
      clear k4 k4'
      go_wp2_with fail
      generalize w4.heap.size = x4 at *
      generalize w4.alloc (.cells #[.int .i64 fs, .int .i64 fl] 23) = w4a at *
      refine (same_X w4a A1 A2 c1 c2 _ _ G G O4.out P4.out hsm rfl).mono ?_
      rintro e w7 ⟨rfl, kD⟩
      have k7 := kD.kept
      have K7 := Lib.hid (K4.out.trans k7)
      have B7 := Lib.hid (B4.out.kept k7 (fun h => by cases h))
      have X7 := Lib.hid (X4.out.kept k7 (fun h => by cases h))
      have Y7 := Lib.hid (Y4.out.kept k7 (fun h => by cases h))
      clear k7 kD O1 O2 O3 O4 P2 P3 P4 X3 X4 Y4 B0 B1 B2 B3 B4 HGP HG1 HG2 HF1 HF2
      have H0 : Hid (Kept [] w7 w7) ∧ w7.cell? ⟨W.heap.size, 0, none⟩ = some (.int .i64 rs) ∧ w7.cell? ⟨W.heap.size, 1, none⟩ = some (.int .i64 rl) ∧ w7.cell? ⟨x3, 0, none⟩ = some (.int .i64 fs) ∧ w7.cell? ⟨x3, 1, none⟩ = some (.int .i64 fl) ∧ w7.cell? ⟨x4, 0, none⟩ = some (.int .i64 fs) ∧ w7.cell? ⟨x4, 1, none⟩ = some (.int .i64 fl) := ⟨Kept.refl _ _, B7.out.cell 0, B7.out.cell 1, X7.out.cell 0, X7.out.cell 1, Y7.out.cell 0, Y7.out.cell 1⟩
      clear B7 X7 Y7
      go_wp2_with fail
      go_region_held3 (fun V => Hid (Kept [] w7 V) ∧ V.cell? ⟨W.heap.size, 0, none⟩ = some (.int .i64 rs) ∧ V.cell? ⟨W.heap.size, 1, none⟩ = some (.int .i64 rl) ∧ V.cell? ⟨x3, 0, none⟩ = some (.int .i64 fs) ∧ V.cell? ⟨x3, 1, none⟩ = some (.int .i64 fl) ∧ V.cell? ⟨x4, 0, none⟩ = some (.int .i64 fs) ∧ V.cell? ⟨x4, 1, none⟩ = some (.int .i64 fl)) (first | exact hold6 H0 (Kept.refl [] _).drew | exact hold6 (by assumption) ka | exact hold6 (by assumption) kb | exact hold6 (by assumption) kc | exact hold6 (by assumption) kd | exact hold6 (by assumption) ke | assumption) (first
        | (go_at_call 6; refine (HAl.out _).mono ?_; rintro e wa ⟨rfl, ka⟩)
        | (go_at_call 12; refine (HR1.out _ (K7.out.trans (Hid.out (And.left (by assumption))))).mono ?_; rintro e wb ⟨rfl, kb⟩)
        | (go_at_call 13; refine (HR2.out _ (K7.out.trans (Hid.out (And.left (by assumption))))).mono ?_; rintro e wc ⟨rfl, kc⟩)
        | (go_at_call 14; refine (HE1.out _ (K7.out.trans (Hid.out (And.left (by assumption))))).mono ?_; rintro e wd ⟨rfl, kd⟩)
        | (go_at_call 15; refine (HE2.out _ (K7.out.trans (Hid.out (And.left (by assumption))))).mono ?_; rintro e we ⟨rfl, ke⟩))
      go_wp2_with fail
      go_ret
      exact ⟨rfl, K7.out.trans (Hid.out (And.left (by assumption)))⟩
    · clear hs1 hs2
      go_enter Try.func3, Try.ntmps3
      go_wp2_with fail
      refine (HG1.out _ K0.out).mono ?_
      intro e w1 hp
      obtain ⟨A1, c1, rfl, o1, k1⟩ := HGP.out _ _ _ hp
      clear hp
      have K1 := Lib.hid (K0.out.trans k1)
      have B1 := Lib.hid (B0.out.kept k1 (fun h => by cases h))
      have O1 := Lib.hid o1
      have b0 := B1.out.cell 0
      have b1 := B1.out.cell 1
      clear k1 o1
      go_wp2_with fail
      refine (HG2.out _ K1.out).mono ?_
      intro e w2 hp
      obtain ⟨A2, c2, rfl, o2, k2⟩ := HGP.out _ _ _ hp
      clear hp b0 b1
      have K2 := Lib.hid (K1.out.trans k2)
      have B2 := Lib.hid (B1.out.kept k2 (fun h => by cases h))
      have O2 := Lib.hid (own_keptE O1.out k2)
      have P2 := Lib.hid o2
      have b0 := B2.out.cell 0
      have b1 := B2.out.cell 1
      clear k2 o2
      go_wp2_with fail
      refine (HF1.out _ K2.out).mono ?_
      rintro e w3 ⟨rfl, k3⟩
      clear b0 b1
      have k3' : Kept [] w2 (w3.alloc (.cells #[.int .i64 fs, .int .i64 fl] 23)) := k3.alloc _
      have K3 := Lib.hid (K2.out.trans k3')
      have B3 := Lib.hid (B2.out.kept k3' (fun h => by cases h))
      have O3 := Lib.hid (own_keptE O2.out k3')
      have P3 := Lib.hid (own_keptE P2.out k3')
      have X3 := Lib.hid (Blk.new w3 23 #[.int .i64 fs, .int .i64 fl])
      have b0 := B3.out.cell 0
      have b1 := B3.out.cell 1
      clear k3 k3'
      go_wp2_with fail
      generalize w3.heap.size = x3 at *
      generalize w3.alloc (.cells #[.int .i64 fs, .int .i64 fl] 23) = w3a at *
      refine (HF2.out _ K3.out).mono ?_
      rintro e w4 ⟨rfl, k4⟩
      clear b0 b1
      have k4' : Kept [] w3a (w4.alloc (.cells #[.int .i64 fs, .int .i64 fl] 23)) := k4.alloc _
      have K4 := Lib.hid (K3.out.trans k4')
      have B4 := Lib.hid (B3.out.kept k4' (fun h => by cases h))
      have O4 := Lib.hid (own_keptE O3.out k4')
      have P4 := Lib.hid (own_keptE P3.out k4')
      have X4 := Lib.hid (X3.out.kept k4' (fun h => by cases h))
      have Y4 := Lib.hid (Blk.new w4 23 #[.int .i64 fs, .int .i64 fl])
      clear k4 k4'
      go_wp2_with fail
      generalize w4.heap.size = x4 at *
      generalize w4.alloc (.cells #[.int .i64 fs, .int .i64 fl] 23) = w4a at *
      refine (same_X w4a A1 A2 c1 c2 _ _ G G O4.out P4.out hsm rfl).mono ?_
      rintro e w7 ⟨rfl, kD⟩
      have k7 := kD.kept
      have K7 := Lib.hid (K4.out.trans k7)
      have B7 := Lib.hid (B4.out.kept k7 (fun h => by cases h))
      have X7 := Lib.hid (X4.out.kept k7 (fun h => by cases h))
      have Y7 := Lib.hid (Y4.out.kept k7 (fun h => by cases h))
      clear k7 kD O1 O2 O3 O4 P2 P3 P4 X3 X4 Y4 B0 B1 B2 B3 B4 HGP HG1 HG2 HF1 HF2
      have H0 : Hid (Kept [] w7 w7) ∧ w7.cell? ⟨W.heap.size, 0, none⟩ = some (.int .i64 rs) ∧ w7.cell? ⟨W.heap.size, 1, none⟩ = some (.int .i64 rl) ∧ w7.cell? ⟨x3, 0, none⟩ = some (.int .i64 fs) ∧ w7.cell? ⟨x3, 1, none⟩ = some (.int .i64 fl) ∧ w7.cell? ⟨x4, 0, none⟩ = some (.int .i64 fs) ∧ w7.cell? ⟨x4, 1, none⟩ = some (.int .i64 fl) := ⟨Kept.refl _ _, B7.out.cell 0, B7.out.cell 1, X7.out.cell 0, X7.out.cell 1, Y7.out.cell 0, Y7.out.cell 1⟩
      clear B7 X7 Y7
      go_wp2_with fail
      go_region_held3 (fun V => Hid (Kept [] w7 V) ∧ V.cell? ⟨W.heap.size, 0, none⟩ = some (.int .i64 rs) ∧ V.cell? ⟨W.heap.size, 1, none⟩ = some (.int .i64 rl) ∧ V.cell? ⟨x3, 0, none⟩ = some (.int .i64 fs) ∧ V.cell? ⟨x3, 1, none⟩ = some (.int .i64 fl) ∧ V.cell? ⟨x4, 0, none⟩ = some (.int .i64 fs) ∧ V.cell? ⟨x4, 1, none⟩ = some (.int .i64 fl)) (first | exact hold6 H0 (Kept.refl [] _).drew | exact hold6 (by assumption) ka | exact hold6 (by assumption) kb | exact hold6 (by assumption) kc | exact hold6 (by assumption) kd | exact hold6 (by assumption) ke | assumption) (first
        | (go_at_call 6; refine (HAl.out _).mono ?_; rintro e wa ⟨rfl, ka⟩)
        | (go_at_call 12; refine (HR1.out _ (K7.out.trans (Hid.out (And.left (by assumption))))).mono ?_; rintro e wb ⟨rfl, kb⟩)
        | (go_at_call 13; refine (HR2.out _ (K7.out.trans (Hid.out (And.left (by assumption))))).mono ?_; rintro e wc ⟨rfl, kc⟩)
        | (go_at_call 14; refine (HE1.out _ (K7.out.trans (Hid.out (And.left (by assumption))))).mono ?_; rintro e wd ⟨rfl, kd⟩)
        | (go_at_call 15; refine (HE2.out _ (K7.out.trans (Hid.out (And.left (by assumption))))).mono ?_; rintro e we ⟨rfl, ke⟩))
      go_wp2_with fail
      go_ret
      exact ⟨rfl, K7.out.trans (Hid.out (And.left (by assumption)))⟩
  · have K0 := Lib.hid ((Kept.refl [] W).alloc (.cells #[.int .i64 r.st, .int .i64 r.len] 23))
    obtain ⟨rs, rl⟩ := r
    unfold exV
    dsimp only at hsh K0 ⊢
    clear HR1 HR2 HG1 HG2 HF1 HF2 HE1 HE2
    by_cases h2 : l.length ≤ 20
    · have h2i : (l.length : Int) ≤ 20 := by omega
      have h3 : 3000 < rl := by omega
      have h4 : rl ≤ 1048576 := by omega
      clear hsh
      go_enter Try.func3, Try.ntmps3
      go_wp2_with fail
      refine (HAl.out _).mono ?_
      rintro e w1 ⟨rfl, k1⟩
      go_wp2_with fail
      go_ret
      exact ⟨rfl, K0.out.trans k1⟩
    · have h2i : (20 : Int) < (l.length : Int) := by omega
      clear hsh
      go_enter Try.func3, Try.ntmps3
      go_wp2_with fail
      refine (HAl.out _).mono ?_
      rintro e w1 ⟨rfl, k1⟩
      go_wp2_with fail
      go_ret
      exact ⟨rfl, K0.out.trans k1⟩
end Go.Proofs.Ytkbldbcjpdfopaa
