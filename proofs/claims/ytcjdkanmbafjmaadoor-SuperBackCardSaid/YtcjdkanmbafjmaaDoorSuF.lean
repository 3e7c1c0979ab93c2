/- The law SuperBack: its walk. -/
import Derived.Test.YtcjdkanmbafjmaaDoorSuD
namespace Go.Proofs.YtcjdkanmbafjmaaDoor
open Go.RowKit

theorem conv_one (w : World) (y : UInt8) : (convert 33 9 (.slice (some ⟨w.heap.size, 0, none⟩) 1 1)).run Tryd.prog (w.alloc (.cells #[.int .u8 (y.toNat : Int)] 5)).drew = .ok (.string ⟨#[y]⟩) (w.alloc (.cells #[.int .u8 (y.toNat : Int)] 5)).drew := by
  have hrd : Rd (w.alloc (.cells #[bv y] 5)).drew (w.alloc (.cells #[bv y] 5)).heap.size 1 (some ⟨w.heap.size, 0, none⟩) 1 ([y].map bv) := by
    refine ⟨by simp, fun _ => ⟨_, 0, rfl, (Blk.new w _ #[bv y]).lt, fun j u hu => ?_⟩⟩
    show (w.alloc (.cells #[bv y] 5)).cell? _ = _
    rw [Nat.zero_add, (Blk.new w _ #[bv y]).cell]
    simpa using hu
  exact conv_bytes (P := Tryd.prog) (c := 1) 33 5 Tryd.underlying33 Tryd.underlying5 hrd (fun _ => .inr ⟨_, _, rfl⟩) 9 Tryd.underlying9
/-- the bit that is turned -/
def bitY (n : Nat) : UInt8 := UInt8.ofNat (2 ^ (n % 8))
theorem bitY_nat (n : Nat) : (bitY n).toNat = 2 ^ (n % 8) := by
  unfold bitY
  rw [UInt8.toNat_ofNat']
  refine Nat.mod_eq_of_lt ?_
  exact Nat.lt_of_le_of_lt (Nat.pow_le_pow_right (by omega) (show n % 8 ≤ 7 by omega)) (by decide)
theorem bit_is (n : Nat) (j : Nat) (h : n % 8 = j) (b : UInt8) (m : Int) (hm : m = ((2 ^ j : Nat) : Int)) : bits .xor .u8 (b.toNat : Int) (IntKind.u8.wrap m) = (((b ^^^ bitY n).toNat : Nat) : Int) := by
  have h2 := bitY_nat n
  have h3 := UInt8.toNat_lt (bitY n)
  rw [h] at h2
  have := u8_xor_nat b.toNat (bitY n).toNat (UInt8.toNat_lt _) (UInt8.toNat_lt _)
  rw [UInt8.toNat_xor, hm, ← h2, IntWalk.u8_in _ (by omega)]
  exact this
theorem bit_cases (n : Nat) (b : UInt8) :
    ((n : Int) % 8 = 0 ∧ bits .xor .u8 (b.toNat : Int) (IntKind.u8.wrap 1) = (((b ^^^ bitY n).toNat : Nat) : Int)) ∨
    ((n : Int) % 8 = 1 ∧ bits .xor .u8 (b.toNat : Int) (IntKind.u8.wrap 2) = (((b ^^^ bitY n).toNat : Nat) : Int)) ∨
    ((n : Int) % 8 = 2 ∧ bits .xor .u8 (b.toNat : Int) (IntKind.u8.wrap 4) = (((b ^^^ bitY n).toNat : Nat) : Int)) ∨
    ((n : Int) % 8 = 3 ∧ bits .xor .u8 (b.toNat : Int) (IntKind.u8.wrap 8) = (((b ^^^ bitY n).toNat : Nat) : Int)) ∨
    ((n : Int) % 8 = 4 ∧ bits .xor .u8 (b.toNat : Int) (IntKind.u8.wrap 16) = (((b ^^^ bitY n).toNat : Nat) : Int)) ∨
    ((n : Int) % 8 = 5 ∧ bits .xor .u8 (b.toNat : Int) (IntKind.u8.wrap 32) = (((b ^^^ bitY n).toNat : Nat) : Int)) ∨
    ((n : Int) % 8 = 6 ∧ bits .xor .u8 (b.toNat : Int) (IntKind.u8.wrap 64) = (((b ^^^ bitY n).toNat : Nat) : Int)) ∨
    ((n : Int) % 8 = 7 ∧ bits .xor .u8 (b.toNat : Int) (IntKind.u8.wrap 128) = (((b ^^^ bitY n).toNat : Nat) : Int)) := by
  rcases (show n % 8 = 0 ∨ n % 8 = 1 ∨ n % 8 = 2 ∨ n % 8 = 3 ∨ n % 8 = 4 ∨ n % 8 = 5 ∨ n % 8 = 6 ∨ n % 8 = 7 by omega) with h | h | h | h | h | h | h | h
  · exact .inl ⟨by omega, bit_is n 0 h b 1 rfl⟩
  · exact .inr (.inl ⟨by omega, bit_is n 1 h b 2 rfl⟩)
  · exact .inr (.inr (.inl ⟨by omega, bit_is n 2 h b 4 rfl⟩))
  · exact .inr (.inr (.inr (.inl ⟨by omega, bit_is n 3 h b 8 rfl⟩)))
  · exact .inr (.inr (.inr (.inr (.inl ⟨by omega, bit_is n 4 h b 16 rfl⟩))))
  · exact .inr (.inr (.inr (.inr (.inr (.inl ⟨by omega, bit_is n 5 h b 32 rfl⟩)))))
  · exact .inr (.inr (.inr (.inr (.inr (.inr (.inl ⟨by omega, bit_is n 6 h b 64 rfl⟩))))))
  · exact .inr (.inr (.inr (.inr (.inr (.inr (.inr (⟨by omega, bit_is n 7 h b 128 rfl⟩)))))))
theorem xor_neY (b y : UInt8) (hy : 0 < y.toNat) : b ^^^ y ≠ b := by
  intro h
  have h2 := congrArg UInt8.toNat h
  rw [UInt8.toNat_xor] at h2
  have h3 : b.toNat ^^^ y.toNat ^^^ b.toNat = b.toNat ^^^ b.toNat := by rw [h2]
  rw [Nat.xor_comm b.toNat, Nat.xor_assoc, Nat.xor_self, Nat.xor_zero] at h3
  omega
/-- with one bit turned it is none's -/
theorem super_turned (s : List UInt8) (h : (decS s).2 = 0) (k : Nat) (hk : k < 64) (y : UInt8) (hy : 0 < y.toNat) (b : UInt8) (hb : s[k]? = some b) :
    decS (s.take k ++ (b ^^^ y) :: s.drop (k + 1)) = (zeroS, 31) := by
  obtain ⟨he, hl, _⟩ := super_two s h
  obtain ⟨P, h1, h2, _, _⟩ := super_one (decS s).1 (by rw [he])
  rw [he] at h1
  have h1 : s = P ++ lowL (sumN P) 4 := h1
  have hne : s.take k ++ (b ^^^ y) :: s.drop (k + 1) ≠ s := by
    intro h
    have h2 := congrArg (fun l => l[k]?) h
    simp only [hb] at h2
    rw [List.getElem?_append_right (by rw [List.length_take]; omega)] at h2
    have hm : k - (s.take k).length = 0 := by rw [List.length_take]; omega
    rw [hm] at h2
    exact xor_neY b y hy (by simpa using h2)
  have hll : (s.take k ++ (b ^^^ y) :: s.drop (k + 1)).length = 64 := by simp; omega
  rw [h1] at hne hll ⊢
  have ho := open_turned P k (b ^^^ y) (by omega) hne
  unfold decS
  rw [if_neg (fun hc => hc hll), ho, if_pos (by simp)]

set_option maxRecDepth 8000 in
set_option maxHeartbeats 8000000 in
theorem back_run (w : World) (h : Su) (s : List UInt8) (n : Nat) (hg : wfS h) (hn : n < 65536) (hs : s.length ≤ 140737488351232) :
    Calls Tryd.prog 5 #[sv h, .string ⟨s.toArray⟩, .int .u16 (n : Int)] w fun e w' => e = .returned (.bool true) ∧ Kept [] w w' := by
  by_cases h1 : 200 < s.length
  · unfold sv
    go_enter Tryd.func5, Tryd.ntmps5
    go_wp2_with (go_at_call 8; refine (super_alive _).mono ?_; rintro e w2 ⟨rfl, k2⟩)
    go_ret
    exact ⟨rfl, ((Kept.refl [] w).alloc _).trans k2⟩
  · obtain ⟨g, c, p⟩ := h
    unfold sv
    have hsl : s.length ≤ 200 := by omega
    by_cases hq : (decS s).2 = 0
    · obtain ⟨he, hl, _⟩ := super_two s hq
      have HT := Lib.hid (super_turned s hq)
      have HL := Lib.hid hl
      have hzg := decS_wf s
      obtain ⟨z, hz⟩ : ∃ z, (decS s).1 = z := ⟨_, rfl⟩
      have HZ := Lib.hid hz
      rw [hz] at he hzg
      have hzr : rightS z = true := by
        cases hb : rightS z
        · rw [encS, hb] at he
          simp at he
        · rfl
      have HE := Lib.hid he
      have HZR := Lib.hid hzr
      have HQ := Lib.hid hq
      obtain ⟨zg, zc, zp⟩ := z
      clear he hz hzr hq h1
      by_cases hx : (encS ⟨g, c, p⟩).2 = 0
      · obtain ⟨P, hX, hP60, hdec, hrr⟩ := super_one ⟨g, c, p⟩ hx
        have hXl : (P ++ lowL (sumN P) 4).length = 64 := by simp [hP60, lowL_len]
        generalize P ++ lowL (sumN P) 4 = X at *
        have HX : Hid (encS ⟨g, c, p⟩ = (X, 0)) := by
          rw [Hid, ← hX, ← hx]
        have HD := Lib.hid hdec
        have HR := Lib.hid hrr
        clear hX hdec hrr hx hP60
        go_enter Tryd.func5, Tryd.ntmps5
        go_wp2_with fail
        refine (super_Encode _ ⟨g, c, p⟩ hg).mono ?_
        rintro e w1 ⟨rfl, k1⟩
        rw [HX.out]
        have hb1 := agg3 (Blk.new w 23 #[.int .i64 g, .int .i64 c, .int .i64 p]) k1
        have HK1 := Lib.hid (((Kept.refl [] w).alloc _).trans k1)
        go_wp2_with fail
        refine (super_Decode w1 X (by omega)).mono ?_
        rintro e w2 ⟨rfl, k2⟩
        rw [HD.out, show sv ⟨g, c, p⟩ = .agg #[.int .i64 g, .int .i64 c, .int .i64 p] from rfl]
        have hb2 := ((Blk.new w 23 #[.int .i64 g, .int .i64 c, .int .i64 p]).kept k1 (fun h => by cases h)).kept k2 (fun h => by cases h)
        obtain ⟨q0, q1, q2⟩ := agg3 hb2 ((Kept.refl [] w2).alloc (.cells #[.int .i64 g, .int .i64 c, .int .i64 p] 23))
        have HK2 := Lib.hid ((HK1.out.trans k2).alloc (.cells #[.int .i64 g, .int .i64 c, .int .i64 p] 23))
        clear hb1 hb2 k1 k2
        go_wp2_with fail
        refine (super_Right ⟨g, c, p⟩ hg _).mono ?_
        rintro e w3 ⟨rfl, k3⟩
        rw [HR.out]
        have HK3 := Lib.hid (HK2.out.trans k3)
        clear q0 q1 q2 k3 HK1 HK2
        go_wp2_with fail
        refine (super_Decode _ s hs).mono ?_
        rintro e wd ⟨rfl, kd⟩
        rw [HZ.out, HQ.out, show sv ⟨zg, zc, zp⟩ = .agg #[.int .i64 zg, .int .i64 zc, .int .i64 zp] from rfl]
        have HK4 := Lib.hid (HK3.out.trans kd)
        clear kd
        go_wp2_with fail
        refine (super_Encode _ ⟨zg, zc, zp⟩ hzg).mono ?_
        rintro e we ⟨rfl, ke⟩
        rw [HE.out]
        have HB5 := Lib.hid ((Blk.new wd 23 #[.int .i64 zg, .int .i64 zc, .int .i64 zp]).kept ke (fun h => by cases h))
        have HK5 := Lib.hid ((HK4.out.alloc (.cells #[.int .i64 zg, .int .i64 zc, .int .i64 zp] 23)).trans ke)
        clear ke
        obtain ⟨k, hk0⟩ : ∃ k : Nat, n / 8 % 64 = k := ⟨_, rfl⟩
        obtain ⟨j, hj0⟩ : ∃ j : Nat, n % 8 = j := ⟨_, rfl⟩
        have hk64 : k < 64 := by omega
        have hj8 : j < 8 := by omega
        have hkl : k < s.length := by omega
        have hkI : (n : Int) / 8 % 64 = (k : Int) := by omega
        have hjI : (n : Int) % 8 = (j : Int) := by omega
        have hyn := bitY_nat n
        rw [hj0] at hyn
        have hyp : 0 < (bitY n).toNat := by rw [hyn]; exact Nat.pow_pos (by omega)
        have hyl := UInt8.toNat_lt (bitY n)
        obtain ⟨b, hb⟩ : ∃ b, s[k]? = some b := ⟨s[k]'hkl, List.getElem?_eq_getElem hkl⟩
        have HTb := Lib.hid (HT.out k hk64 (bitY n) hyp b hb)
        have hb9 : s[k]'hkl = b := (List.getElem?_eq_some_iff.1 hb).2
        generalize bitY n = y at *
        have HS : Hid (IntKind.u8.wrap ((2 : Int) ^ j) = (y.toNat : Int)) := by
          rw [Hid, show ((2 : Int) ^ j) = ((2 ^ j : Nat) : Int) by simp, ← hyn, IntWalk.u8_in _ (by omega)]
        have y1 : (⟨s.toArray⟩ : ByteArray).extract 0 k = ⟨(s.take k).toArray⟩ := by rw [extract_list3]; simp
        have y2 : (⟨s.toArray⟩ : ByteArray).extract (k + 1) 64 = ⟨(s.drop (k + 1)).toArray⟩ := by rw [extract_list3, List.take_of_length_le]; simp [HL.out]
        have y3 : (⟨s.toArray⟩ : ByteArray)[k]'hkl = b := hb9
        have y4 : bits .xor .u8 (b.toNat : Int) (y.toNat : Int) = (((b ^^^ y).toNat : Nat) : Int) := by
          have := u8_xor_nat b.toNat y.toNat (UInt8.toNat_lt _) (UInt8.toNat_lt _)
          rw [UInt8.toNat_xor]
          exact this
        have hcv := conv_one
        have lA : (s.take k).length ≤ 64 := by simp; omega
        have lB : (s.drop (k + 1)).length ≤ 64 := by simp [HL.out]; omega
        have hTl : (s.take k ++ (b ^^^ y) :: s.drop (k + 1)).length ≤ 140737488351232 := by simp [HL.out]; omega
        have HTl := Lib.hid hTl
        clear hb9 hb hyn hyp hyl hj0 hk0 hTl
        generalize s.take k = U at *
        generalize s.drop (k + 1) = V at *
        generalize b ^^^ y = b4 at *
        have z1 : (⟨U.toArray⟩ : ByteArray) ++ ⟨#[b4]⟩ = ⟨(U ++ [b4]).toArray⟩ := app_arr U [b4]
        have z2 : (⟨(U ++ [b4]).toArray⟩ : ByteArray) ++ ⟨V.toArray⟩ = ⟨(U ++ b4 :: V).toArray⟩ := by rw [app_arr]; simp
        go_wp2_with fail
        refine wp_region_any (by kernel_rfl) ?_
        change wpAny _ _ _ _ _ _ _ (World.drew _)
        refine wpAny_take (i := 0) (v := .string ⟨s.toArray⟩) rfl (by kernel_rfl) (by kernel_rfl) (by kernel_rfl) (fun _ _ _ h => h) (Or.inl ⟨by rfl, fun wx => ?_⟩) ?_
        · go_simp
        refine wpAny_take (i := 1) (v := .int .i64 (k : Int)) rfl (by kernel_rfl) (by kernel_rfl) (by kernel_rfl) (fun _ _ _ h => h) (Or.inl ⟨by rfl, fun wx => ?_⟩) ?_
        · go_simp
        refine wpAny_take (i := 2) (v := .string ⟨U.toArray⟩) rfl (by kernel_rfl) (by kernel_rfl) (by kernel_rfl) (fun _ _ _ h => h) (Or.inl ⟨by rfl, fun wx => ?_⟩) ?_
        · (go_simp; intro hc; omega)
        refine wpAny_take (i := 3) (v := .string ⟨s.toArray⟩) rfl (by kernel_rfl) (by kernel_rfl) (by kernel_rfl) (fun _ _ _ h => h) (Or.inl ⟨by rfl, fun wx => ?_⟩) ?_
        · go_simp
        refine wpAny_take (i := 4) (v := .int .i64 (k : Int)) rfl (by kernel_rfl) (by kernel_rfl) (by kernel_rfl) (fun _ _ _ h => h) (Or.inl ⟨by rfl, fun wx => ?_⟩) ?_
        · go_simp
        refine wpAny_take (i := 5) (v := .int .u8 (b.toNat : Int)) rfl (by kernel_rfl) (by kernel_rfl) (by kernel_rfl) (fun _ _ _ h => h) (Or.inl ⟨by rfl, fun wx => ?_⟩) ?_
        · (go_simp; intro hc; omega)
        refine wpAny_take (i := 6) (v := .int .u16 (n : Int)) rfl (by kernel_rfl) (by kernel_rfl) (by kernel_rfl) (fun _ _ _ h => h) (Or.inl ⟨by rfl, fun wx => ?_⟩) ?_
        · go_simp
        refine wpAny_take (i := 7) (v := .int .u16 (j : Int)) rfl (by kernel_rfl) (by kernel_rfl) (by kernel_rfl) (fun _ _ _ h => h) (Or.inl ⟨by rfl, fun wx => ?_⟩) ?_
        · (go_simp; rw [Int.tmod_eq_emod_of_nonneg (by omega)]; exact hjI)
        refine wpAny_take (i := 8) (v := .int .u8 (y.toNat : Int)) rfl (by kernel_rfl) (by kernel_rfl) (by kernel_rfl) (fun _ _ _ h => h) (Or.inl ⟨by rfl, fun wx => ?_⟩) ?_
        · (have e1 : binOp .shl 5 (.int .u8 1) (.int .u16 (j : Int)) = Op.shift .shl .u8 1 .u16 (j : Int) := rfl; simp [execOp, Act.eval, Act.put, e1, eqGuard]; exact HS.out)
        refine wpAny_take (i := 9) (v := .int .u8 (b4.toNat : Int)) rfl (by kernel_rfl) (by kernel_rfl) (by kernel_rfl) (fun _ _ _ h => h) (Or.inl ⟨by rfl, fun wx => ?_⟩) ?_
        · go_simp
        refine wpAny_take (i := 13) (v := .string ⟨s.toArray⟩) rfl (by kernel_rfl) (by kernel_rfl) (by kernel_rfl) (fun _ _ _ h => h) (Or.inl ⟨by rfl, fun wx => ?_⟩) ?_
        · go_simp
        refine wpAny_take (i := 14) (v := .int .i64 (k : Int)) rfl (by kernel_rfl) (by kernel_rfl) (by kernel_rfl) (fun _ _ _ h => h) (Or.inl ⟨by rfl, fun wx => ?_⟩) ?_
        · go_simp
        refine wpAny_take (i := 15) (v := .int .i64 ((k : Int) + 1)) rfl (by kernel_rfl) (by kernel_rfl) (by kernel_rfl) (fun _ _ _ h => h) (Or.inl ⟨by rfl, fun wx => ?_⟩) ?_
        · (go_simp; exact IntWalk.i64_in _ (by omega))
        refine wpAny_take (i := 16) (v := .string ⟨V.toArray⟩) rfl (by kernel_rfl) (by kernel_rfl) (by kernel_rfl) (fun _ _ _ h => h) (Or.inl ⟨by rfl, fun wx => ?_⟩) ?_
        · (go_simp; intro hc; have hc2 := hc (by omega); omega)
        refine wpAny_ready (rs := [10]) (by kernel_rfl) (by simp) ?_
        refine AllReady.cons rfl (fun K hK => ?_) AllReady.nil
        go_simp
        refine hK _ _ ?_
        clear hK K
        refine wpAny_ready (rs := [11]) (by kernel_rfl) (by simp) ?_
        refine AllReady.cons rfl (fun K hK => ?_) AllReady.nil
        go_simp
        refine hK _ _ ?_
        clear hK K
        refine wpAny_ready (rs := [12]) (by kernel_rfl) (by simp) ?_
        refine AllReady.cons rfl (fun K hK => ?_) AllReady.nil
        go_simp
        rw [if_neg (by omega)]
        go_simp
        refine hK _ _ ?_
        clear hK K
        refine wpAny_ready (rs := [17]) (by kernel_rfl) (by simp) ?_
        refine AllReady.cons rfl (fun K hK => ?_) AllReady.nil
        go_simp
        rw [if_neg (by omega)]
        go_simp
        refine hK _ _ ?_
        clear hK K
        refine wpAny_ready (rs := [18]) (by kernel_rfl) (by simp) ?_
        refine AllReady.cons rfl (fun K hK => ?_) AllReady.nil
        go_simp
        refine hK _ _ ?_
        clear hK K
        refine wpAny_done (by kernel_rfl) ?_ _
        go_wp2_with fail
        have hkT := Lib.hid ((Kept.refl [] we).alloc (.cells #[.int .u8 (b4.toNat : Int)] 5)).drew
        refine (super_Decode _ (U ++ b4 :: V) HTl.out).mono ?_
        rintro e wt ⟨rfl, kt⟩
        rw [HTb.out, svz]
        have HB6 := Lib.hid ((HB5.out.kept hkT.out (fun h => by cases h)).kept kt (fun h => by cases h))
        have HK6 := Lib.hid (HK5.out.trans (hkT.out.trans kt))
        clear kt hkT z1 z2 y1 y2 y3 y4 hcv
        go_wp2_with fail
        refine (super_alive _).mono ?_
        rintro e wa ⟨rfl, ka⟩
        obtain ⟨r0, r1, r2⟩ := agg3 (HB6.out.alloc (.cells #[.int .i64 0, .int .i64 0, .int .i64 0] 23)) ka
        have HK7 := Lib.hid ((HK6.out.alloc (.cells #[.int .i64 0, .int .i64 0, .int .i64 0] 23)).trans ka)
        clear ka
        go_wp2_with fail
        refine (super_Right ⟨zg, zc, zp⟩ hzg _).mono ?_
        rintro e wr ⟨rfl, kr⟩
        rw [HZR.out]
        go_wp2_with fail
        go_ret
        exact ⟨rfl, HK7.out.trans kr⟩
      · skip
        go_enter Tryd.func5, Tryd.ntmps5
        go_wp2_with fail
        refine (super_Encode _ ⟨g, c, p⟩ hg).mono ?_
        rintro e w1 ⟨rfl, k1⟩
        have HK3 := Lib.hid (((Kept.refl [] w).alloc _).trans k1)
        generalize (encS ⟨g, c, p⟩).1 = E1 at *
        generalize (encS ⟨g, c, p⟩).2 = E2 at *
        clear k1
        go_wp2_with fail
        refine (super_Decode _ s hs).mono ?_
        rintro e wd ⟨rfl, kd⟩
        rw [HZ.out, HQ.out, show sv ⟨zg, zc, zp⟩ = .agg #[.int .i64 zg, .int .i64 zc, .int .i64 zp] from rfl]
        have HK4 := Lib.hid (HK3.out.trans kd)
        clear kd
        go_wp2_with fail
        refine (super_Encode _ ⟨zg, zc, zp⟩ hzg).mono ?_
        rintro e we ⟨rfl, ke⟩
        rw [HE.out]
        have HB5 := Lib.hid ((Blk.new wd 23 #[.int .i64 zg, .int .i64 zc, .int .i64 zp]).kept ke (fun h => by cases h))
        have HK5 := Lib.hid ((HK4.out.alloc (.cells #[.int .i64 zg, .int .i64 zc, .int .i64 zp] 23)).trans ke)
        clear ke
        obtain ⟨k, hk0⟩ : ∃ k : Nat, n / 8 % 64 = k := ⟨_, rfl⟩
        obtain ⟨j, hj0⟩ : ∃ j : Nat, n % 8 = j := ⟨_, rfl⟩
        have hk64 : k < 64 := by omega
        have hj8 : j < 8 := by omega
        have hkl : k < s.length := by omega
        have hkI : (n : Int) / 8 % 64 = (k : Int) := by omega
        have hjI : (n : Int) % 8 = (j : Int) := by omega
        have hyn := bitY_nat n
        rw [hj0] at hyn
        have hyp : 0 < (bitY n).toNat := by rw [hyn]; exact Nat.pow_pos (by omega)
        have hyl := UInt8.toNat_lt (bitY n)
        obtain ⟨b, hb⟩ : ∃ b, s[k]? = some b := ⟨s[k]'hkl, List.getElem?_eq_getElem hkl⟩
        have HTb := Lib.hid (HT.out k hk64 (bitY n) hyp b hb)
        have hb9 : s[k]'hkl = b := (List.getElem?_eq_some_iff.1 hb).2
        generalize bitY n = y at *
        have HS : Hid (IntKind.u8.wrap ((2 : Int) ^ j) = (y.toNat : Int)) := by
          rw [Hid, show ((2 : Int) ^ j) = ((2 ^ j : Nat) : Int) by simp, ← hyn, IntWalk.u8_in _ (by omega)]
        have y1 : (⟨s.toArray⟩ : ByteArray).extract 0 k = ⟨(s.take k).toArray⟩ := by rw [extract_list3]; simp
        have y2 : (⟨s.toArray⟩ : ByteArray).extract (k + 1) 64 = ⟨(s.drop (k + 1)).toArray⟩ := by rw [extract_list3, List.take_of_length_le]; simp [HL.out]
        have y3 : (⟨s.toArray⟩ : ByteArray)[k]'hkl = b := hb9
        have y4 : bits .xor .u8 (b.toNat : Int) (y.toNat : Int) = (((b ^^^ y).toNat : Nat) : Int) := by
          have := u8_xor_nat b.toNat y.toNat (UInt8.toNat_lt _) (UInt8.toNat_lt _)
          rw [UInt8.toNat_xor]
          exact this
        have hcv := conv_one
        have lA : (s.take k).length ≤ 64 := by simp; omega
        have lB : (s.drop (k + 1)).length ≤ 64 := by simp [HL.out]; omega
        have hTl : (s.take k ++ (b ^^^ y) :: s.drop (k + 1)).length ≤ 140737488351232 := by simp [HL.out]; omega
        have HTl := Lib.hid hTl
        clear hb9 hb hyn hyp hyl hj0 hk0 hTl
        generalize s.take k = U at *
        generalize s.drop (k + 1) = V at *
        generalize b ^^^ y = b4 at *
        have z1 : (⟨U.toArray⟩ : ByteArray) ++ ⟨#[b4]⟩ = ⟨(U ++ [b4]).toArray⟩ := app_arr U [b4]
        have z2 : (⟨(U ++ [b4]).toArray⟩ : ByteArray) ++ ⟨V.toArray⟩ = ⟨(U ++ b4 :: V).toArray⟩ := by rw [app_arr]; simp
        go_wp2_with fail
        refine wp_region_any (by kernel_rfl) ?_
        change wpAny _ _ _ _ _ _ _ (World.drew _)
        refine wpAny_take (i := 0) (v := .string ⟨s.toArray⟩) rfl (by kernel_rfl) (by kernel_rfl) (by kernel_rfl) (fun _ _ _ h => h) (Or.inl ⟨by rfl, fun wx => ?_⟩) ?_
        · go_simp
        refine wpAny_take (i := 1) (v := .int .i64 (k : Int)) rfl (by kernel_rfl) (by kernel_rfl) (by kernel_rfl) (fun _ _ _ h => h) (Or.inl ⟨by rfl, fun wx => ?_⟩) ?_
        · go_simp
        refine wpAny_take (i := 2) (v := .string ⟨U.toArray⟩) rfl (by kernel_rfl) (by kernel_rfl) (by kernel_rfl) (fun _ _ _ h => h) (Or.inl ⟨by rfl, fun wx => ?_⟩) ?_
        · (go_simp; intro hc; omega)
        refine wpAny_take (i := 3) (v := .string ⟨s.toArray⟩) rfl (by kernel_rfl) (by kernel_rfl) (by kernel_rfl) (fun _ _ _ h => h) (Or.inl ⟨by rfl, fun wx => ?_⟩) ?_
        · go_simp
        refine wpAny_take (i := 4) (v := .int .i64 (k : Int)) rfl (by kernel_rfl) (by kernel_rfl) (by kernel_rfl) (fun _ _ _ h => h) (Or.inl ⟨by rfl, fun wx => ?_⟩) ?_
        · go_simp
        refine wpAny_take (i := 5) (v := .int .u8 (b.toNat : Int)) rfl (by kernel_rfl) (by kernel_rfl) (by kernel_rfl) (fun _ _ _ h => h) (Or.inl ⟨by rfl, fun wx => ?_⟩) ?_
        · (go_simp; intro hc; omega)
        refine wpAny_take (i := 6) (v := .int .u16 (n : Int)) rfl (by kernel_rfl) (by kernel_rfl) (by kernel_rfl) (fun _ _ _ h => h) (Or.inl ⟨by rfl, fun wx => ?_⟩) ?_
        · go_simp
        refine wpAny_take (i := 7) (v := .int .u16 (j : Int)) rfl (by kernel_rfl) (by kernel_rfl) (by kernel_rfl) (fun _ _ _ h => h) (Or.inl ⟨by rfl, fun wx => ?_⟩) ?_
        · (go_simp; rw [Int.tmod_eq_emod_of_nonneg (by omega)]; exact hjI)
        refine wpAny_take (i := 8) (v := .int .u8 (y.toNat : Int)) rfl (by kernel_rfl) (by kernel_rfl) (by kernel_rfl) (fun _ _ _ h => h) (Or.inl ⟨by rfl, fun wx => ?_⟩) ?_
        · (have e1 : binOp .shl 5 (.int .u8 1) (.int .u16 (j : Int)) = Op.shift .shl .u8 1 .u16 (j : Int) := rfl; simp [execOp, Act.eval, Act.put, e1, eqGuard]; exact HS.out)
        refine wpAny_take (i := 9) (v := .int .u8 (b4.toNat : Int)) rfl (by kernel_rfl) (by kernel_rfl) (by kernel_rfl) (fun _ _ _ h => h) (Or.inl ⟨by rfl, fun wx => ?_⟩) ?_
        · go_simp
        refine wpAny_take (i := 13) (v := .string ⟨s.toArray⟩) rfl (by kernel_rfl) (by kernel_rfl) (by kernel_rfl) (fun _ _ _ h => h) (Or.inl ⟨by rfl, fun wx => ?_⟩) ?_
        · go_simp
        refine wpAny_take (i := 14) (v := .int .i64 (k : Int)) rfl (by kernel_rfl) (by kernel_rfl) (by kernel_rfl) (fun _ _ _ h => h) (Or.inl ⟨by rfl, fun wx => ?_⟩) ?_
        · go_simp
        refine wpAny_take (i := 15) (v := .int .i64 ((k : Int) + 1)) rfl (by kernel_rfl) (by kernel_rfl) (by kernel_rfl) (fun _ _ _ h => h) (Or.inl ⟨by rfl, fun wx => ?_⟩) ?_
        · (go_simp; exact IntWalk.i64_in _ (by omega))
        refine wpAny_take (i := 16) (v := .string ⟨V.toArray⟩) rfl (by kernel_rfl) (by kernel_rfl) (by kernel_rfl) (fun _ _ _ h => h) (Or.inl ⟨by rfl, fun wx => ?_⟩) ?_
        · (go_simp; intro hc; have hc2 := hc (by omega); omega)
        refine wpAny_ready (rs := [10]) (by kernel_rfl) (by simp) ?_
        refine AllReady.cons rfl (fun K hK => ?_) AllReady.nil
        go_simp
        refine hK _ _ ?_
        clear hK K
        refine wpAny_ready (rs := [11]) (by kernel_rfl) (by simp) ?_
        refine AllReady.cons rfl (fun K hK => ?_) AllReady.nil
        go_simp
        refine hK _ _ ?_
        clear hK K
        refine wpAny_ready (rs := [12]) (by kernel_rfl) (by simp) ?_
        refine AllReady.cons rfl (fun K hK => ?_) AllReady.nil
        go_simp
        rw [if_neg (by omega)]
        go_simp
        refine hK _ _ ?_
        clear hK K
        refine wpAny_ready (rs := [17]) (by kernel_rfl) (by simp) ?_
        refine AllReady.cons rfl (fun K hK => ?_) AllReady.nil
        go_simp
        rw [if_neg (by omega)]
        go_simp
        refine hK _ _ ?_
        clear hK K
        refine wpAny_ready (rs := [18]) (by kernel_rfl) (by simp) ?_
        refine AllReady.cons rfl (fun K hK => ?_) AllReady.nil
        go_simp
        refine hK _ _ ?_
        clear hK K
        refine wpAny_done (by kernel_rfl) ?_ _
        go_wp2_with fail
        have hkT := Lib.hid ((Kept.refl [] we).alloc (.cells #[.int .u8 (b4.toNat : Int)] 5)).drew
        refine (super_Decode _ (U ++ b4 :: V) HTl.out).mono ?_
        rintro e wt ⟨rfl, kt⟩
        rw [HTb.out, svz]
        have HB6 := Lib.hid ((HB5.out.kept hkT.out (fun h => by cases h)).kept kt (fun h => by cases h))
        have HK6 := Lib.hid (HK5.out.trans (hkT.out.trans kt))
        clear kt hkT z1 z2 y1 y2 y3 y4 hcv
        go_wp2_with fail
        refine (super_alive _).mono ?_
        rintro e wa ⟨rfl, ka⟩
        obtain ⟨r0, r1, r2⟩ := agg3 (HB6.out.alloc (.cells #[.int .i64 0, .int .i64 0, .int .i64 0] 23)) ka
        have HK7 := Lib.hid ((HK6.out.alloc (.cells #[.int .i64 0, .int .i64 0, .int .i64 0] 23)).trans ka)
        clear ka
        go_wp2_with fail
        refine (super_Right ⟨zg, zc, zp⟩ hzg _).mono ?_
        rintro e wr ⟨rfl, kr⟩
        rw [HZR.out]
        go_wp2_with fail
        go_ret
        exact ⟨rfl, HK7.out.trans kr⟩
    · have HQ := Lib.hid hq
      have HZ := Lib.hid (decS_zero s hq)
      by_cases hx : (encS ⟨g, c, p⟩).2 = 0
      · obtain ⟨P, hX, hP60, hdec, hrr⟩ := super_one ⟨g, c, p⟩ hx
        have hXl : (P ++ lowL (sumN P) 4).length = 64 := by simp [hP60, lowL_len]
        generalize P ++ lowL (sumN P) 4 = X at *
        have HX : Hid (encS ⟨g, c, p⟩ = (X, 0)) := by
          rw [Hid, ← hX, ← hx]
        have HD := Lib.hid hdec
        have HR := Lib.hid hrr
        clear hX hdec hrr hx hP60 hq h1
        go_enter Tryd.func5, Tryd.ntmps5
        go_wp2_with fail
        refine (super_Encode _ ⟨g, c, p⟩ hg).mono ?_
        rintro e w1 ⟨rfl, k1⟩
        rw [HX.out]
        have hb1 := agg3 (Blk.new w 23 #[.int .i64 g, .int .i64 c, .int .i64 p]) k1
        have HK1 := Lib.hid (((Kept.refl [] w).alloc _).trans k1)
        go_wp2_with fail
        refine (super_Decode w1 X (by omega)).mono ?_
        rintro e w2 ⟨rfl, k2⟩
        rw [HD.out, show sv ⟨g, c, p⟩ = .agg #[.int .i64 g, .int .i64 c, .int .i64 p] from rfl]
        have hb2 := ((Blk.new w 23 #[.int .i64 g, .int .i64 c, .int .i64 p]).kept k1 (fun h => by cases h)).kept k2 (fun h => by cases h)
        obtain ⟨q0, q1, q2⟩ := agg3 hb2 ((Kept.refl [] w2).alloc (.cells #[.int .i64 g, .int .i64 c, .int .i64 p] 23))
        have HK2 := Lib.hid ((HK1.out.trans k2).alloc (.cells #[.int .i64 g, .int .i64 c, .int .i64 p] 23))
        clear hb1 hb2 k1 k2
        go_wp2_with fail
        refine (super_Right ⟨g, c, p⟩ hg _).mono ?_
        rintro e w3 ⟨rfl, k3⟩
        rw [HR.out]
        have HK3 := Lib.hid (HK2.out.trans k3)
        clear q0 q1 q2 k3 HK1 HK2
        go_wp2_with fail
        refine (super_Decode _ s hs).mono ?_
        rintro e wd ⟨rfl, kd⟩
        rw [HZ.out, svz]
        have HQo := HQ.out
        generalize (decS s).2 = qd at *
        have HK4 := Lib.hid (HK3.out.trans kd)
        clear kd
        go_wp2_with fail
        refine (super_alive _).mono ?_
        rintro e wa ⟨rfl, ka⟩
        obtain ⟨r0, r1, r2⟩ := agg3 (Blk.new wd 23 #[.int .i64 0, .int .i64 0, .int .i64 0]) ka
        go_wp2_with fail
        go_ret
        exact ⟨rfl, (HK4.out.alloc _).trans ka⟩
      · clear hq h1
        go_enter Tryd.func5, Tryd.ntmps5
        go_wp2_with fail
        refine (super_Encode _ ⟨g, c, p⟩ hg).mono ?_
        rintro e w1 ⟨rfl, k1⟩
        have HK3 := Lib.hid (((Kept.refl [] w).alloc _).trans k1)
        generalize (encS ⟨g, c, p⟩).1 = E1 at *
        generalize (encS ⟨g, c, p⟩).2 = E2 at *
        clear k1
        go_wp2_with fail
        refine (super_Decode _ s hs).mono ?_
        rintro e wd ⟨rfl, kd⟩
        rw [HZ.out, svz]
        have HQo := HQ.out
        generalize (decS s).2 = qd at *
        have HK4 := Lib.hid (HK3.out.trans kd)
        clear kd
        go_wp2_with fail
        refine (super_alive _).mono ?_
        rintro e wa ⟨rfl, ka⟩
        obtain ⟨r0, r1, r2⟩ := agg3 (Blk.new wd 23 #[.int .i64 0, .int .i64 0, .int .i64 0]) ka
        go_wp2_with fail
        go_ret
        exact ⟨rfl, (HK4.out.alloc _).trans ka⟩
end Go.Proofs.YtcjdkanmbafjmaaDoor
