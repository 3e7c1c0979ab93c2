/- Tables: the law's act, and whether both tables tell the same. -/
import Derived.Test.YtfidgmpeiabhiaaTbW
namespace Go.Proofs.Ytfidgmpeiabhiaa
open Go.RowKit Go.Maps

theorem MapAt.lt {W : World} {bm : Nat} {p : List Int} (h : MapAt W bm p) : bm < W.heap.size := by
  obtain ⟨n, D, hown, _⟩ := h
  exact hown.lt
/-- the two tables lie apart -/
def Apart (t : Tb) (A : Option Addr) : Prop := ∀ b, (A.map (·.block)) = some b → b ≠ t.tb ∧ b ≠ t.bm ∧ t.v.ownBlock ≠ some b
theorem own_slice_block (A : Option Addr) (n c : Nat) : (Value.slice A n c).ownBlock = A.map (·.block) := by
  cases A <;> rfl
def actP (d : Bool) (o : Int) (p : List Int) : List Int := if d = true then dropP o p else putP o p
theorem actP_len (d : Bool) (o : Int) (p : List Int) : (actP d o p).length = p.length := by
  unfold actP
  split
  · exact dropP_len o p
  · exact putP_len o p
/-- what an act may change -/
def actB (t : Tb) (A : Option Addr) : List Nat := (t.bm :: t.v.ownBlock.toList) ++ (A.map (·.block)).toList
def ActPost (n₀ n₁ : Nat) (t : Tb) (A : Option Addr) (n c : Nat) (p' : List Int) (W : World) (e : Ending) (w' : World) : Prop :=
  e = .returned (.bool true) ∧ TbAt n₀ w' t p' ∧ DtAt n₁ w' (.slice A n c) p' ∧ Kept (actB t A) W w'
set_option maxRecDepth 4000 in
set_option maxHeartbeats 1000000 in
theorem law_act (W : World) (n₀ n₁ : Nat) (t : Tb) (A : Option Addr) (n c : Nat) (p : List Int) (d : Bool) (o : Int) (ho : -9223372036854775808 ≤ o ∧ o ≤ 9223372036854775807) (hn : p.length = n) (h : TbAt n₀ W t p) (hd : DtAt n₁ W (.slice A n c) p) (hx : Apart t A) :
    Calls Try.prog 9 #[tbV t, .slice A n c, .agg #[.bool d, .int .i64 o]] W (ActPost n₀ n₁ t A n c (actP d o p) W) := by
  subst hn
  have hlen := h.len
  have hbm := h.mp.lt
  have hvb : ∀ k, t.v.ownBlock = some k → k < W.heap.size := fun k hk => own_lt h.pl k hk
  have hAb : ∀ k, A.map (·.block) = some k → k < W.heap.size := fun k hk => own_lt hd k (by rw [own_slice_block]; exact hk)
  have hbox : W.heap.size ∉ (t.bm :: t.v.ownBlock.toList) := by
    intro hm
    rcases List.mem_cons.1 hm with e | hm
    · omega
    · have := hvb _ (Option.mem_toList.1 hm)
      omega
  have hk0 := (Kept.refl [] W).alloc (.cells #[.bool d, .int .i64 o] 31)
  have HT := Lib.hid (h.kept0 hk0)
  have HD := Lib.hid (hd.kept hk0)
  have b0 := Blk.cell (Blk.new W 31 #[.bool d, .int .i64 o]) 0
  have b1 := Blk.cell (Blk.new W 31 #[.bool d, .int .i64 o]) 1
  have HX := Lib.hid hx
  have HB := Lib.hid hbox
  have HDd : Hid (∀ w1, Kept (t.bm :: t.v.ownBlock.toList) (W.alloc (.cells #[.bool d, .int .i64 o] 31)) w1 → DtAt n₁ w1 (.slice A p.length c) p) := fun w1 k => k.owns HD.out (fun j hj hm => by
    rw [own_slice_block] at hj
    obtain ⟨x1, x2, x3⟩ := hx j hj
    rcases List.mem_cons.1 hm with e | hm
    · exact x2 e
    · exact x3 (Option.mem_toList.1 hm))
  have HF : Hid (∀ w1 w2 p', Kept (t.bm :: t.v.ownBlock.toList) (W.alloc (.cells #[.bool d, .int .i64 o] 31)) w1 → Kept (Value.slice A p.length c).ownBlock.toList w1 w2 → TbAt n₀ w1 t p' → TbAt n₀ w2 t p' ∧ Kept (actB t A) W w2) := fun w1 w2 p' k1 k2 hT => by
    refine ⟨hT.kept k2 (fun x hxm => ?_), ?_⟩
    · rw [own_slice_block] at hxm
      obtain ⟨x1, x2, x3⟩ := hx x (Option.mem_toList.1 hxm)
      exact ⟨x1, x2, x3⟩
    · rw [own_slice_block] at k2
      exact ((hk0.mono fun z hz => by cases hz).trans (k1.mono fun z hz => .inl (List.mem_append_left _ hz))).trans (k2.mono fun z hz => .inl (List.mem_append_right _ hz))
  clear h hd hx hbox hvb hAb hbm
  obtain ⟨q, hq⟩ : ∃ q, q = tbV t := ⟨_, rfl⟩
  rw [← hq]
  have HQd : Hid (∀ V p, TbAt n₀ V t p → Calls Try.prog 18 #[q, .int .i64 o] V (DropPost n₀ t p o V)) := fun V p hV => hq ▸ tb_Drop V n₀ t p o ho hV
  have HQp : Hid (∀ V p, TbAt n₀ V t p → Calls Try.prog 16 #[q, .int .i64 o] V (PutPost n₀ t p o V)) := fun V p hV => hq ▸ tb_Put V n₀ t p o ho hV
  clear hq hk0
  cases d with
  | true =>
    have HR : Hid (actP true o p = dropP o p) := if_pos rfl
    rw [HR.out]
    go_enter Try.func9, Try.ntmps9
    go_wp2_with fail
    refine (HQd.out _ p HT.out).mono ?_
    rintro e w1 ⟨rfl, hT1, k1⟩
    have c0 := k1.cell b0 HB.out
    have c1 := k1.cell b1 HB.out
    have HT1 := Lib.hid hT1
    have K1 := Lib.hid k1
    clear hT1 k1 b0 b1
    go_wp2_with fail
    refine (rf_Drop w1 n₁ A c p o (HDd.out w1 K1.out) hlen).mono ?_
    rintro e w2 ⟨rfl, hD2, k2⟩
    obtain ⟨f1, f2⟩ := HF.out w1 w2 _ K1.out k2 HT1.out
    replace hD2 := Lib.hid hD2
    replace f1 := Lib.hid f1
    replace f2 := Lib.hid f2
    clear k2 c0 c1
    generalize dropI o p = r at *
    obtain ⟨r1, r2⟩ := r
    go_wp2_with fail
    go_ret
    exact ⟨rfl, f1.out, hD2.out, f2.out⟩
  | false =>
    have HR : Hid (actP false o p = putP o p) := if_neg (by simp)
    rw [HR.out]
    have HK := Lib.hid HT.out.ok
    go_enter Try.func9, Try.ntmps9
    go_wp2_with fail
    refine (HQp.out _ p HT.out).mono ?_
    rintro e w1 ⟨rfl, hT1, k1⟩
    have c0 := k1.cell b0 HB.out
    have c1 := k1.cell b1 HB.out
    have HT1 := Lib.hid hT1
    have K1 := Lib.hid k1
    clear hT1 k1 b0 b1
    go_wp2_with fail
    refine (rf_Put w1 n₁ A c p o (HDd.out w1 K1.out) HK.out hlen).mono ?_
    rintro e w2 ⟨rfl, hD2, k2⟩
    obtain ⟨f1, f2⟩ := HF.out w1 w2 _ K1.out k2 HT1.out
    replace hD2 := Lib.hid hD2
    replace f1 := Lib.hid f1
    replace f2 := Lib.hid f2
    clear k2 c0 c1
    generalize putI o p = r at *
    obtain ⟨r1, r2⟩ := r
    go_wp2_with fail
    go_ret
    exact ⟨rfl, f1.out, hD2.out, f2.out⟩
def TrueK (W : World) (e : Ending) (w' : World) : Prop := e = .returned (.bool true) ∧ Kept [] W w'
set_option maxRecDepth 4000 in
set_option maxHeartbeats 2000000 in
theorem law_same (W : World) (n₀ n₁ : Nat) (t : Tb) (A : Option Addr) (n c : Nat) (p : List Int) (o : Int) (ho : -9223372036854775808 ≤ o ∧ o ≤ 9223372036854775807) (hn : p.length = n) (h : TbAt n₀ W t p) (hd : DtAt n₁ W (.slice A n c) p) :
    Calls Try.prog 10 #[tbV t, .slice A n c, .int .i64 o] W (TrueK W) := by
  subst hn
  have hlen := h.len
  have hle := lenP_le p
  have HT := Lib.hid h
  have HD := Lib.hid hd
  obtain ⟨fi, hfi⟩ : ∃ fi, Hid (fndI o p = fi) := ⟨_, Lib.hid rfl⟩
  obtain ⟨fb, hfb⟩ : ∃ fb, Hid (fndB o p = fb) := ⟨_, Lib.hid rfl⟩
  obtain ⟨fn, hfn⟩ : ∃ fn, Hid (fndN o p = fn) := ⟨_, Lib.hid rfl⟩
  obtain ⟨m, hm⟩ : ∃ m, Hid (lenP p = m) := ⟨_, Lib.hid rfl⟩
  have hcase : (fb = true ∧ ∃ i : Nat, fi = (i : Int) ∧ fn = (i : Int)) ∨ (fb = false ∧ fi = 0 ∧ fn = -1) := by
    rw [← hfi.out, ← hfb.out, ← hfn.out, fndB, fndI, fndN]
    cases fnd o p with
    | none => exact .inr ⟨rfl, rfl, rfl⟩
    | some i => exact .inl ⟨rfl, i, rfl, rfl⟩
  rw [hm.out] at hle
  obtain ⟨q, hq⟩ : ∃ q, q = tbV t := ⟨_, rfl⟩
  rw [← hq]
  have HQf : Hid (∀ V, TbAt n₀ V t p → Calls Try.prog 17 #[q, .int .i64 o] V fun e w' => e = .returned (.tuple #[.int .i64 fi, .bool fb]) ∧ V = w') := fun V hV => by
    rw [← hfi.out, ← hfb.out]
    exact hq ▸ tb_Find V n₀ t p o ho hV
  have HQg : Hid (∀ V, TbAt n₀ V t p → DtAt n₁ V (.slice A p.length c) p → Calls Try.prog 13 #[q, .slice A p.length c] V (PagesPost p V)) := fun V hV hD => hq ▸ law_pages V n₀ n₁ t A c p hV hD
  have HQn : Hid (∀ V, TbAt n₀ V t p → Calls Try.prog 20 #[q] V fun e w' => e = .returned (.int .i64 m) ∧ V = w') := fun V hV => by
    rw [← hm.out]
    exact hq ▸ tb_Len V n₀ t p hV
  have HQl : Hid (∀ V, TbAt n₀ V t p → Calls Try.prog 21 #[q] V fun e w' => e = .returned (.int .i64 ((p.length : Int) - m)) ∧ Dr V w') := fun V hV => by
    rw [← hm.out]
    exact hq ▸ tb_Left V n₀ t p hV
  have HQa : Hid (∀ V, TbAt n₀ V t p → Calls Try.prog 22 #[q] V (AllPost p V)) := fun V hV => hq ▸ tb_All V n₀ t p hV
  have HRf : Hid (∀ V, DtAt n₁ V (.slice A p.length c) p → Calls Try.prog 26 #[.slice A p.length c, .int .i64 o] V fun e w' => e = .returned (.int .i64 fn) ∧ V = w') := fun V hV => by
    rw [← hfn.out]
    exact rf_Find V n₁ A c p o hV hlen
  have HRn : Hid (∀ V, DtAt n₁ V (.slice A p.length c) p → Calls Try.prog 27 #[.slice A p.length c] V fun e w' => e = .returned (.int .i64 m) ∧ V = w') := fun V hV => by
    rw [← hm.out]
    exact rf_Len V n₁ A c p hV hlen
  clear hq hfi hfb hfn hm h hd
  have hOk := Lib.hid HT.out.ok
  have hsub : IntKind.i64.wrap ((p.length : Int) - (m : Int)) = (p.length : Int) - (m : Int) := IntWalk.i64_in _ (by omega)
  go_enter Try.func10, Try.ntmps10
  go_wp2_with fail
  refine (HQf.out _ HT.out).mono ?_
  rintro e w1 ⟨rfl, rfl⟩
  go_wp2_with fail
  refine (HRf.out _ HD.out).mono ?_
  rintro e w1 ⟨rfl, rfl⟩
  go_wp2_with fail
  refine (HQg.out _ HT.out HD.out).mono ?_
  rintro e w1 ⟨A5, c5, rfl, hp5, k1⟩
  have HT1 := Lib.hid (HT.out.kept0 k1)
  have HD1 := Lib.hid (HD.out.kept k1)
  have K1 := Lib.hid k1
  clear hp5 k1
  rcases hcase with ⟨rfl, i, rfl, rfl⟩ | ⟨rfl, rfl, rfl⟩
  · have hmx : max (i : Int) 0 = (i : Int) := by omega
    go_wp2_with fail
    refine (HQn.out _ HT1.out).mono ?_
    rintro e w2 ⟨rfl, rfl⟩
    go_wp2_with fail
    refine (HRn.out _ HD1.out).mono ?_
    rintro e w2 ⟨rfl, rfl⟩
    go_wp2_with fail
    refine (HQl.out _ HT1.out).mono ?_
    rintro e w2 ⟨rfl, d2⟩
    have HT2 := Lib.hid (HT1.out.kept0 d2.kept)
    have HD2 := Lib.hid (HD1.out.kept d2.kept)
    have K2 := Lib.hid (K1.out.trans d2.kept)
    clear d2
    go_wp2_with fail
    refine (HRn.out _ HD2.out).mono ?_
    rintro e w3 ⟨rfl, rfl⟩
    go_wp2_with fail
    refine (HQa.out _ HT2.out).mono ?_
    rintro e w3 ⟨v3, l3, rfl, ha3, hl3, ho3, k3⟩
    obtain ⟨A3, c3, rfl, _⟩ := own_slice ho3
    have HD3 := Lib.hid (HD2.out.kept k3)
    have K3 := Lib.hid (K2.out.trans k3)
    have HO3 := Lib.hid ho3
    have HA3 := Lib.hid ha3
    have hl3b : l3.length ≤ 1048576 := by have := lenP_le p; omega
    clear ha3 ho3 k3
    go_wp2_with fail
    refine (rf_All w3 n₁ A c p HD3.out hOk.out hlen).mono ?_
    rintro e w4 ⟨A4, c4, l4, rfl, ha4, ho4, k4⟩
    have HE : Hid (l3 = l4) := HA3.out.one ha4
    have HO34 : Hid (EAt w2.heap.size w4 A3 c3 l3) := k4.owns HO3.out (fun _ _ h => by cases h)
    have HO4 : Hid (EAt w3.heap.size w4 A4 c4 l4) := ho4
    have K4 := Lib.hid (K3.out.trans k4)
    clear ha4 ho4 k4
    go_wp2_with fail
    refine (same_E w4 A3 A4 c3 c4 _ _ l3 l4 HO34.out HO4.out hl3b HE).mono ?_
    rintro e w5 ⟨rfl, d5⟩
    go_wp2_with fail
    go_ret
    exact ⟨rfl, K4.out.trans d5.kept⟩
  · have hmx : max (-1 : Int) 0 = 0 := by decide
    go_wp2_with fail
    refine (HQn.out _ HT1.out).mono ?_
    rintro e w2 ⟨rfl, rfl⟩
    go_wp2_with fail
    refine (HRn.out _ HD1.out).mono ?_
    rintro e w2 ⟨rfl, rfl⟩
    go_wp2_with fail
    refine (HQl.out _ HT1.out).mono ?_
    rintro e w2 ⟨rfl, d2⟩
    have HT2 := Lib.hid (HT1.out.kept0 d2.kept)
    have HD2 := Lib.hid (HD1.out.kept d2.kept)
    have K2 := Lib.hid (K1.out.trans d2.kept)
    clear d2
    go_wp2_with fail
    refine (HRn.out _ HD2.out).mono ?_
    rintro e w3 ⟨rfl, rfl⟩
    go_wp2_with fail
    refine (HQa.out _ HT2.out).mono ?_
    rintro e w3 ⟨v3, l3, rfl, ha3, hl3, ho3, k3⟩
    obtain ⟨A3, c3, rfl, _⟩ := own_slice ho3
    have HD3 := Lib.hid (HD2.out.kept k3)
    have K3 := Lib.hid (K2.out.trans k3)
    have HO3 := Lib.hid ho3
    have HA3 := Lib.hid ha3
    have hl3b : l3.length ≤ 1048576 := by have := lenP_le p; omega
    clear ha3 ho3 k3
    go_wp2_with fail
    refine (rf_All w3 n₁ A c p HD3.out hOk.out hlen).mono ?_
    rintro e w4 ⟨A4, c4, l4, rfl, ha4, ho4, k4⟩
    have HE : Hid (l3 = l4) := HA3.out.one ha4
    have HO34 : Hid (EAt w2.heap.size w4 A3 c3 l3) := k4.owns HO3.out (fun _ _ h => by cases h)
    have HO4 : Hid (EAt w3.heap.size w4 A4 c4 l4) := ho4
    have K4 := Lib.hid (K3.out.trans k4)
    clear ha4 ho4 k4
    go_wp2_with fail
    refine (same_E w4 A3 A4 c3 c4 _ _ l3 l4 HO34.out HO4.out hl3b HE).mono ?_
    rintro e w5 ⟨rfl, d5⟩
    go_wp2_with fail
    go_ret
    exact ⟨rfl, K4.out.trans d5.kept⟩
end Go.Proofs.Ytfidgmpeiabhiaa
