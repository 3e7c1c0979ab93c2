/- Extents: Gaps. -/
import Derived.Test.YtkbldbcjpdfopaaExF
namespace Go.Proofs.Ytkbldbcjpdfopaa
open Go.RowKit

def gapV (br bu : Nat) : Value := .func (.func 24) #[] #[.pointer (some ⟨br, 0, none⟩), .pointer (some ⟨bu, 0, none⟩)]
theorem ext_gaps (r : Ex) (A : Option Addr) (n c : Nat) (w : World) : Calls Try.prog 17 #[exV r, .slice A n c] w fun e w' => e = .returned (gapV w.heap.size (w.heap.size + 1)) ∧ w' = (w.alloc (.cells #[.int .i64 r.st, .int .i64 r.len] 23)).alloc (.cells #[.slice A n c] 24) := by
  obtain ⟨rs, rl⟩ := r
  unfold exV
  go_enter Try.func17, Try.ntmps17
  go_wp2_with fail
  go_ret
  exact ⟨rfl, rfl⟩
/-- the closure that 'gaps' made, in any world behind it -/
theorem gaps_of (r : Ex) (A : Option Addr) (c n₀ : Nat) (l : List Ex) (w : World) (hr : rightX r l) (hn0 : n₀ ≤ w.heap.size) (hA : RdX n₀ w A l) :
    SeqX 24 #[.pointer (some ⟨w.heap.size, 0, none⟩), .pointer (some ⟨w.heap.size + 1, 0, none⟩)] n₀ (fun xs => xs = gapsX r l) (fun pre => pre <+: gapsX r l) (l.length + 1) ((w.alloc (.cells #[.int .i64 r.st, .int .i64 r.len] 23)).alloc (.cells #[.slice A l.length c] 24)) := by
  intro W own k ho
  have K2 : Kept [] w W := (((Kept.refl [] w).alloc _).alloc _).trans k
  have B1 : Blk W w.heap.size 23 #[.int .i64 r.st, .int .i64 r.len] := ((Blk.new w 23 #[.int .i64 r.st, .int .i64 r.len]).alloc _).kept k (fun h => by cases h)
  have B2 : Blk W (w.heap.size + 1) 24 #[.slice A l.length c] := (blk_new' (w := w.alloc (.cells #[.int .i64 r.st, .int .i64 r.len] 23)) (by simp)).kept k (fun h => by cases h)
  exact gaps_seq r A c 3 _ _ n₀ l W hr (Nat.le_trans hn0 K2.size) B1 B2 (hA.kept K2 hn0) (by decide) own ho
def GapsPost (r : Ex) (l : List Ex) (W : World) (e : Ending) (w' : World) : Prop := Kept [] W w' ∧
  ((rightB r l = false ∧ e = .returned (.tuple #[.slice none 0 0, .int .i64 1])) ∨ (rightB r l = true ∧ ∃ A c, e = .returned (.tuple #[.slice A (gapsX r l).length c, .int .i64 0]) ∧ EAt W.heap.size w' A c (gapsX r l)))
set_option maxRecDepth 4000 in
set_option maxHeartbeats 1000000 in
theorem ext_Gaps (W : World) (n₀ : Nat) (r : Ex) (A : Option Addr) (c : Nat) (l : List Ex) (hn0 : n₀ ≤ W.heap.size) (hln : l.length ≤ 8796093022208) (hA : RdX n₀ W A l) (hl : ∀ x ∈ l, wfX x) :
    Calls Try.prog 7 #[exV r, .slice A l.length c] W (GapsPost r l W) := by
  have K0 := (Kept.refl [] W).alloc (.cells #[.int .i64 r.st, .int .i64 r.len] 23)
  have HR := Lib.hid (ext_Right (W.alloc (.cells #[.int .i64 r.st, .int .i64 r.len] 23)) n₀ r A c l (Nat.le_trans hn0 K0.size) hln (hA.kept K0 hn0) hl)
  have HB := Lib.hid (Blk.new W 23 #[.int .i64 r.st, .int .i64 r.len])
  have HA := Lib.hid hA
  replace K0 := Lib.hid K0
  have HG := fun w => ext_gaps r A l.length c w
  clear hA hl
  by_cases hr : rightX r l
  · have hb : Hid (rightB r l = true) := rightB_iff.2 hr
    have HC : Hid (∀ w1, Kept [] W w1 → Calls Try.prog 16 #[gapV w1.heap.size (w1.heap.size + 1)] ((w1.alloc (.cells #[.int .i64 r.st, .int .i64 r.len] 23)).alloc (.cells #[.slice A l.length c] 24)) fun e w' => ∃ (v : Value), e = .returned v ∧ w'.ownsRow W.heap.size 23 2 v (gapsX r l).length ((gapsX r l).flatMap exE) ∧ Kept [] W w') := fun w1 k => by
      have KK : Kept [] W ((w1.alloc (.cells #[.int .i64 r.st, .int .i64 r.len] 23)).alloc (.cells #[.slice A l.length c] 24)) := (k.alloc _).alloc _
      have hs := right_sum hr
      have h02 := inB_iff.1 hr.1.2
      refine (collect_seq _ _ n₀ _ _ (l.length + 1) _ (Nat.le_trans hn0 KK.size) (by omega) (enters_of Try.func24 (by kernel_rfl) rfl) (gaps_of r A c n₀ l w1 hr (Nat.le_trans hn0 k.size) (HA.out.kept k hn0))).mono ?_
      rintro e w' ⟨v, xs, rfl, rfl, ho, k2⟩
      exact ⟨v, rfl, own_down ho KK.size, KK.trans k2⟩
    clear hr
    obtain ⟨rs, rl⟩ := r
    unfold exV at HR HG ⊢
    dsimp only at HR HB K0 HG HC ⊢
    replace HG := Lib.hid HG
    go_enter Try.func7, Try.ntmps7
    go_wp2_with fail
    refine HR.out.mono ?_
    rintro e w1 ⟨rfl, k1⟩
    rw [hb.out]
    have c0 := (HB.out.kept k1 (fun h => by cases h)).cell 0
    have c1 := (HB.out.kept k1 (fun h => by cases h)).cell 1
    have K1 := Lib.hid (K0.out.trans k1)
    clear k1 HR
    go_wp2_with fail
    refine (HG.out w1).mono ?_
    rintro e w2 ⟨rfl, rfl⟩
    clear c0 c1
    go_wp2_with fail
    refine (HC.out w1 K1.out).mono ?_
    rintro e w3 ⟨v, rfl, ho, k3⟩
    obtain ⟨A3, c3, rfl, _⟩ := own_slice ho
    have HO := Lib.hid ho
    have K3 := Lib.hid k3
    clear ho k3
    go_wp2_with fail
    refine bodyPost_ret (results_tmp2 rfl _ _ _) rfl ?_
    exact ⟨K3.out, .inr ⟨hb.out, A3, c3, rfl, HO.out⟩⟩
  · have hb : Hid (rightB r l = false) := rightB_no hr
    clear hr
    obtain ⟨rs, rl⟩ := r
    unfold exV at HR HG ⊢
    dsimp only at HR HB K0 HG ⊢
    replace HG := Lib.hid HG
    go_enter Try.func7, Try.ntmps7
    go_wp2_with fail
    refine HR.out.mono ?_
    rintro e w1 ⟨rfl, k1⟩
    rw [hb.out]
    have K1 := Lib.hid (K0.out.trans k1)
    clear k1 HR
    go_wp2_with fail
    refine bodyPost_ret (results_tmp2 rfl _ _ _) rfl ?_
    exact ⟨K1.out, .inl ⟨hb.out, rfl⟩⟩
end Go.Proofs.Ytkbldbcjpdfopaa
