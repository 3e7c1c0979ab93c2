/- Tables: what lies in memory; Len, Left, Find. -/
import Derived.Test.YtfidgmpeiabhiaaTbA
import Derived.Test.YtfidgmpeiabhiaaTbM
import Derived.Test.YtfidgmpeiabhiaaCopy
import Derived.IntWalk
import Derived.Deep.RegionHeld3
import Derived.Deep.RegionLaw
import Derived.WalkMore
namespace Go.Proofs.Ytfidgmpeiabhiaa
open Go.RowKit Go.Maps

/-- nothing but draws -/
def Dr (w W : World) : Prop := ∃ m, W = w.drewN m
theorem Dr.refl (w : World) : Dr w w := ⟨0, rfl⟩
theorem Dr.trans {a b c : World} (h : Dr a b) (k : Dr b c) : Dr a c := by
  obtain ⟨m, rfl⟩ := h
  obtain ⟨n, rfl⟩ := k
  exact ⟨m + n, World.drewN_drewN _ _ _⟩
theorem Dr.drewN {a b : World} (h : Dr a b) (n : Nat) : Dr a (b.drewN n) := h.trans ⟨n, rfl⟩
theorem Dr.kept {a b : World} (h : Dr a b) : Kept [] a b := by
  obtain ⟨m, rfl⟩ := h
  exact (Kept.refl [] a).drewN m
def iv (x : Int) : Value := .int .i64 x
/-- a map that has each chunk's place -/
def MapAt (W : World) (bm : Nat) (p : List Int) : Prop := ∃ (n : Nat) (D : DataW Unit), W.ownsMap Try.prog 3 (plainElem Try.prog 3) bm n D ∧ n = lenP p ∧ Maps.size D = lenP p ∧
  (∀ o : Int, (Lit.int .i64 o).wf = true → Maps.has D (.int .i64 o) = (decide (0 ≤ o) && (findP o p).isSome)) ∧ (∀ (o : Int) (i : Nat) (z : DataW Unit), 0 ≤ o → findP o p = some i → D.atKey (.int .i64 o) z = .lit (.int .i64 i))
/-- a table: its struct's block, its places, its map -/
structure Tb where
  tb : Nat
  v : Value
  bm : Nat
structure TbAt (n₀ : Nat) (W : World) (t : Tb) (p : List Int) : Prop where
  tb : Blk W t.tb 59 #[t.v, .map (some t.bm)]
  pl : W.ownsRow n₀ 3 1 t.v p.length (p.map iv)
  mp : MapAt W t.bm p
  lo : n₀ ≤ t.tb ∧ n₀ ≤ t.bm
  ok : Tok p
  len : p.length ≤ 1048576
theorem MapAt.kept {W W' : World} {bm : Nat} {p : List Int} {ls : List Nat} (h : MapAt W bm p) (k : Kept ls W W') (hl : bm ∉ ls) : MapAt W' bm p := by
  obtain ⟨n, D, ⟨es, cl, hb, rest⟩, h2⟩ := h
  exact ⟨n, D, ⟨es, cl, k.heap hb hl, rest⟩, h2⟩
theorem TbAt.kept {n₀ : Nat} {W W' : World} {t : Tb} {p : List Int} {ls : List Nat} (h : TbAt n₀ W t p) (k : Kept ls W W') (hl : ∀ x ∈ ls, x ≠ t.tb ∧ x ≠ t.bm ∧ t.v.ownBlock ≠ some x) : TbAt n₀ W' t p :=
  ⟨h.tb.kept k (fun hm => (hl _ hm).1 rfl), k.owns h.pl (fun _ hj hm => (hl _ hm).2.2 hj), h.mp.kept k (fun hm => (hl _ hm).2.1 rfl), h.lo, h.ok, h.len⟩
theorem TbAt.kept0 {n₀ : Nat} {W W' : World} {t : Tb} {p : List Int} (h : TbAt n₀ W t p) (k : Kept [] W W') : TbAt n₀ W' t p := h.kept k (fun _ h => by cases h)
theorem lawI : Keyed Try.prog 3 := int_keyed Try.underlying3
theorem zeroI (w : World) : (zeroValue 3).run Try.prog w = .ok (.int .i64 0) w := by kernel_rfl
/-- the table's pointer -/
def tbV (t : Tb) : Value := .pointer (some ⟨t.tb, 0, none⟩)
theorem tb_Len (W : World) (n₀ : Nat) (t : Tb) (p : List Int) (h : TbAt n₀ W t p) : Calls Try.prog 20 #[tbV t] W fun e w' => e = .returned (.int .i64 (lenP p)) ∧ W = w' := by
  obtain ⟨n, D, hown, hn, hs, _⟩ := h.mp
  have c0 := h.tb.cell 1
  have HO := Lib.hid hown
  replace hs := Lib.hid hs
  clear h hown hn
  unfold tbV
  go_enter Try.func20, Try.ntmps20
  go_wp2_with (at_len; refine wpList_len_own _ rfl _ _ rfl 3 3 Try.underlying57 _ t.bm n D rfl HO.out ?_)
  go_ret
  exact ⟨by rw [hs.out]; rfl, rfl⟩
theorem tb_right (o : Int) (w : World) : Calls Try.prog 31 #[.int .i64 o] w fun e w' => e = .returned (.bool (rightB o)) ∧ w = w' := by
  by_cases h0 : 0 ≤ o
  · by_cases h1 : o ≤ 2147483646
    · have hr : Hid (rightB o = true) := by simp [Hid, rightB, h0, h1]
      go_enter Try.func31, Try.ntmps31
      go_wp2_with fail
      go_ret
      exact ⟨by rw [hr.out]; rfl, rfl⟩
    · have hr : Hid (rightB o = false) := by simp [Hid, rightB, h1]
      go_enter Try.func31, Try.ntmps31
      go_wp2_with fail
      go_ret
      exact ⟨by rw [hr.out]; rfl, rfl⟩
  · have hr : Hid (rightB o = false) := by simp [Hid, rightB, h0]
    go_enter Try.func31, Try.ntmps31
    go_wp2_with fail
    go_ret
    exact ⟨by rw [hr.out]; rfl, rfl⟩
/-- a chunk's place -/
def fnd (o : Int) (p : List Int) : Option Nat := if 0 ≤ o then findP o p else none
def fndI (o : Int) (p : List Int) : Int := match fnd o p with | some i => (i : Int) | none => 0
def fndB (o : Int) (p : List Int) : Bool := (fnd o p).isSome
theorem look_is {o : Int} {p : List Int} {D : DataW Unit} (hw : (Lit.int .i64 o).wf = true) (h1 : ∀ o : Int, (Lit.int .i64 o).wf = true → Maps.has D (.int .i64 o) = (decide (0 ≤ o) && (findP o p).isSome)) (h2 : ∀ (o : Int) (i : Nat) (z : DataW Unit), 0 ≤ o → findP o p = some i → D.atKey (.int .i64 o) z = .lit (.int .i64 i))
    {c : Int} (hat : D.atKey (.int .i64 o) (.lit (.int .i64 0)) = .lit (.int .i64 c)) : Maps.has D (.int .i64 o) = fndB o p ∧ c = fndI o p := by
  have e1 := h1 o hw
  by_cases h0 : 0 ≤ o
  · have hf : fnd o p = findP o p := if_pos h0
    cases hq : findP o p with
    | none =>
      rw [hq] at e1
      have e2 : Maps.has D (.int .i64 o) = false := by rw [e1]; simp
      rw [atKey_of_not_has e2] at hat
      injection hat with hat
      injection hat with _ hat
      refine ⟨by rw [e2, fndB, hf, hq]; rfl, ?_⟩
      rw [fndI, hf, hq]
      exact hat.symm
    | some i =>
      rw [h2 o i _ h0 hq] at hat
      injection hat with hat
      injection hat with _ hat
      refine ⟨by rw [e1, fndB, hf, hq]; simp [h0], ?_⟩
      rw [fndI, hf, hq]
      exact hat.symm
  · have hf : fnd o p = none := if_neg h0
    have e2 : Maps.has D (.int .i64 o) = false := by rw [e1]; simp [h0]
    rw [atKey_of_not_has e2] at hat
    injection hat with hat
    injection hat with _ hat
    refine ⟨by rw [e2, fndB, hf]; rfl, ?_⟩
    rw [fndI, hf]
    exact hat.symm
theorem wfI {o : Int} (h : -9223372036854775808 ≤ o ∧ o ≤ 9223372036854775807) : (Lit.int .i64 o).wf = true := WalkArith.wf_i64 h
theorem tb_Find (W : World) (n₀ : Nat) (t : Tb) (p : List Int) (o : Int) (ho : -9223372036854775808 ≤ o ∧ o ≤ 9223372036854775807) (h : TbAt n₀ W t p) :
    Calls Try.prog 17 #[tbV t, .int .i64 o] W fun e w' => e = .returned (.tuple #[.int .i64 (fndI o p), .bool (fndB o p)]) ∧ W = w' := by
  obtain ⟨n, D, hown, hn, hs, h1, h2⟩ := h.mp
  have c0 := h.tb.cell 1
  have HO := Lib.hid hown
  have HL : Hid (∀ c, D.atKey (.int .i64 o) (.lit (.int .i64 0)) = .lit (.int .i64 c) → Maps.has D (.int .i64 o) = fndB o p ∧ c = fndI o p) := fun c hat => look_is (wfI ho) h1 h2 hat
  have HW := Lib.hid (wfI ho)
  clear h hown h1 h2 hs hn
  unfold tbV
  go_enter Try.func17, Try.ntmps17
  go_wp2_with (at_lookup; refine wpList_lookup_own_ok_int _ rfl _ _ 57 rfl 3 3 .i64 lawI Try.underlying57 Try.underlying3 (zeroI _) t.bm n D rfl HO.out _ (.int .i64 o) rfl (keyOf_int_mk Try.underlying3 HW.out) ?_; intro c hat hwc; obtain ⟨hb, rfl⟩ := HL.out c hat; rw [hb]; clear hb hat hwc)
  refine bodyPost_ret (results_tmp2 rfl _ _ _) rfl ?_
  exact ⟨rfl, rfl⟩
theorem tb_Left (W : World) (n₀ : Nat) (t : Tb) (p : List Int) (h : TbAt n₀ W t p) : Calls Try.prog 21 #[tbV t] W fun e w' => e = .returned (.int .i64 ((p.length : Int) - lenP p)) ∧ Dr W w' := by
  obtain ⟨n, D, hown, hn, hs, _⟩ := h.mp
  have c1 := h.tb.cell 1
  have c0 := h.tb.cell 0
  have hl := lenP_le p
  have hp := h.len
  obtain ⟨A, c, hv, _⟩ := own_slice h.pl
  simp only [List.getElem?_toArray, List.getElem?_cons_zero, hv] at c0
  have hlen : ∀ (q : Nat) (ty : TypeId), (Builtin.len_ #[57] ty #[.map (some t.bm)]).run Try.prog (W.drewN q) = .ok (.int .i64 (lenP p)) (W.drewN q) := fun q ty => by
    have := World.ownsMap.len (w := W.drewN q) hown Try.underlying57 ty
    rw [hs] at this
    exact this
  clear hn
  generalize lenP p = m at *
  clear h hown hs hv
  have hw : IntKind.i64.wrap ((p.length : Int) - (m : Int)) = (p.length : Int) - (m : Int) := IntWalk.i64_in _ (by omega)
  unfold tbV
  go_enter Try.func21, Try.ntmps21
  go_wp2_with fail
  go_quiet (fail)
  go_wp2_with fail
  go_ret
  exact ⟨rfl, ⟨nq, rfl⟩⟩
end Go.Proofs.Ytfidgmpeiabhiaa
