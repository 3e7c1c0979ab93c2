/- Commands: the document's figures of bytes. -/
import Derived.Test.YtjdambplggiphaaDoorCmD
namespace Go.Proofs.YtjdambplggiphaaDoor
open Go.RowKit Go.Lib

/-- nothing but draws -/
def Dr (w W : World) : Prop := ∃ m, W = w.drewN m
theorem Dr.refl (w : World) : Dr w w := ⟨0, rfl⟩
theorem Dr.trans {a b c : World} (h : Dr a b) (k : Dr b c) : Dr a c := by
  obtain ⟨m, rfl⟩ := h
  obtain ⟨n, rfl⟩ := k
  exact ⟨m + n, World.drewN_drewN _ _ _⟩
theorem Dr.drewN {a b : World} (h : Dr a b) (n : Nat) : Dr a (b.drewN n) := h.trans ⟨n, rfl⟩
theorem Dr.kept {a b : World} (h : Dr a b) : Kept [] a b := by
  obtain ⟨m, rfl⟩ := h
  exact (Kept.refl [] a).drewN m
def figsB : ByteArray := ⟨#[48, 49, 50, 51, 52, 53, 54, 55, 56, 57, 97, 98, 99, 100, 101, 102]⟩
theorem figs_at (v : Nat) (h : v < 16) : (⟨#[48, 49, 50, 51, 52, 53, 54, 55, 56, 57, 97, 98, 99, 100, 101, 102]⟩ : ByteArray).extract v (v + 1) = ⟨#[hexd v]⟩ := by
  have : ∀ v : Fin 16, (figsB.extract v.val (v.val + 1)).data = #[hexd v.val] := by decide +kernel
  apply ByteArray.ext
  exact this ⟨v, h⟩
theorem hex_take {s : Bs} {k : Nat} (h : k < s.length) : (s.take (k + 1)).flatMap hex2 = (s.take k).flatMap hex2 ++ [hexd (s[k].toNat / 16), hexd (s[k].toNat % 16)] := by
  rw [List.take_succ_eq_append_getElem h, List.flatMap_append]
  simp [hex2]
theorem two_app (L : Bs) (a b : UInt8) : (⟨L.toArray⟩ : ByteArray) ++ ⟨#[a]⟩ ++ ⟨#[b]⟩ = ⟨(L ++ [a, b]).toArray⟩ := by
  apply ByteArray.ext
  rw [ByteArray.data_append, ByteArray.data_append]
  simp
theorem hex_len : ∀ s : Bs, (s.flatMap hex2).length = 2 * s.length
  | [] => rfl
  | b :: t => by
    rw [List.flatMap_cons, List.length_append, hex_len t, List.length_cons]
    show 2 + _ = _
    omega
set_option maxRecDepth 4000 in
set_option maxHeartbeats 2000000 in
theorem ref_Hex (s : Bs) (w : World) (hs : s.length ≤ 1000000) : Calls Tryd.prog 18 #[.string ⟨s.toArray⟩] w fun e w' => e = .returned (.string ⟨(hexL s).toArray⟩) ∧ Dr w w' := by
  by_cases hnil : s = []
  · subst hnil
    go_enter Tryd.func18, Tryd.ntmps18
    go_wp2_with fail
    go_ret
    exact ⟨rfl, Dr.refl _⟩
  · have hie : List.isEmpty s = false := by simpa using hnil
    have HF : Hid (hexL s = s.flatMap hex2) := if_neg hnil
    go_enter Tryd.func18, Tryd.ntmps18
    go_wp2_with fail
    go_loopw [4, 5] (fun o i V => ∃ (k : Nat) (L : Bs), k ≤ s.length ∧ L.length = 2 * k ∧ i = .int .i64 k ∧ o = .string ⟨L.toArray⟩ ∧ Hid (L = (s.take k).flatMap hex2) ∧ Hid (Dr w V)) (fun _ i _ => s.length - (intOf i).toNat)
    case atStart => exact ⟨0, [], Nat.zero_le _, rfl, rfl, rfl, rfl, Dr.refl _⟩
    case round =>
      obtain ⟨k, L, hk, hLl, rfl, rfl, HE, HK⟩ := hrel
      by_cases hlt : k < s.length
      · have hb : (⟨s.toArray⟩ : ByteArray)[k]'hlt = s[k] := rfl
        have hki : (k : Int) < (s.length : Int) := by omega
        have HT := Lib.hid (hex_take hlt)
        have hbl := s[k].toNat_lt
        generalize s[k] = c at *
        obtain ⟨cn, hcn⟩ : ∃ cn, c.toNat = cn := ⟨_, rfl⟩
        rw [hcn] at HT hbl
        obtain ⟨x, hx⟩ : ∃ x : Int, x = (cn : Int) := ⟨_, rfl⟩
        have hcx : (c.toNat : Int) = x := by rw [hcn, hx]
        obtain ⟨h, hh⟩ : ∃ h, h = cn / 16 := ⟨_, rfl⟩
        obtain ⟨l, hl⟩ : ∃ l, l = cn % 16 := ⟨_, rfl⟩
        rw [← hh, ← hl] at HT
        have hdv : x.tdiv 16 = (h : Int) := by
          rw [hx, Int.tdiv_eq_ediv_of_nonneg (by omega)]
          omega
        have hmd : x.tmod 16 = (l : Int) := by
          rw [hx, Int.tmod_eq_emod_of_nonneg (by omega)]
          omega
        have hh16 : h < 16 := by omega
        have hl16 : l < 16 := by omega
        have e1 := figs_at h hh16
        have e2 := figs_at l hl16
        have w1 : IntKind.u8.wrap (h : Int) = (h : Int) := IntWalk.u8_in _ (by omega)
        have w2 : IntKind.u8.wrap ((h : Int) + 1) = (h : Int) + 1 := IntWalk.u8_in _ (by omega)
        have w3 : IntKind.u8.wrap (l : Int) = (l : Int) := IntWalk.u8_in _ (by omega)
        have w4 : IntKind.u8.wrap ((l : Int) + 1) = (l : Int) + 1 := IntWalk.u8_in _ (by omega)
        have b1 : (h : Int) ≤ (h : Int) + 1 := by omega
        have b2 : (h : Int) + 1 ≤ 16 := by omega
        have b3 : (l : Int) ≤ (l : Int) + 1 := by omega
        have b4 : (l : Int) + 1 ≤ 16 := by omega
        have q1 : L.length + 1 ≤ 9223372036854775807 := by omega
        have q2 : L.length + 1 + 1 ≤ 9223372036854775807 := by omega
        clear hx hh hl hcn
        go_wp2_with fail
        go_quiet (fail)
        go_wp2_with fail
        go_roundw
        case rel => exact ⟨k + 1, L ++ [hexd h, hexd l], by omega, by rw [List.length_append]; simp; omega, by go_num, by rw [two_app], by rw [Hid, HT.out, HE.out], HK.out.drewN nq⟩
        case measure => simp [intOf]; omega
      · obtain rfl : k = s.length := by omega
        have HN : Hid (L = hexL s) := by
          have := HE.out
          rwa [List.take_length, ← HF.out] at this
        go_wp2_with fail
        go_ret
        rw [HN.out]
        exact ⟨rfl, HK.out⟩
theorem infoB : (Tryd.prog.info? 5).map (fun i => (i.zero, i.size, i.bytes)) = some (some (.int .u8 0), 1, 1) := by kernel_rfl
/-- bytes lie there, of one's own -/
def BAt (n₀ : Nat) (W : World) (A : Option Addr) (c : Nat) (l : Bs) : Prop := W.ownsRow n₀ 5 1 (.slice A l.length c) l.length (l.map bv)
theorem BAt.kept {n₀ c : Nat} {w w' : World} {A : Option Addr} {l : Bs} (h : BAt n₀ w A c l) (k : Kept [] w w') : BAt n₀ w' A c l := k.owns h (fun _ _ h => by cases h)
set_option maxRecDepth 4000 in
/-- one byte more -/
theorem app_B {W w : World} {A' : Option Addr} {c' : Nat} {l : Bs} (x : UInt8) (HO : BAt W.heap.size w A' c' l) (HK : Kept [] W w) (hn : l.length ≤ 4000000) (ty : TypeId) :
    ∃ v' w', (Builtin.append_ #[50, 50] ty #[.slice A' l.length c', .slice (some ⟨w.heap.size, 0, none⟩) 1 1]).run Tryd.prog (w.alloc (.cells #[.int .u8 (x.toNat : Int)] 5)) = .ok v' w' ∧ ∃ (A2 : Option Addr) (c2 : Nat), v' = .slice A2 (l ++ [x]).length c2 ∧ BAt W.heap.size w' A2 c2 (l ++ [x]) ∧ Kept [] W w' := by
  obtain ⟨i0, p0, p1, p2, p3⟩ := info_parts infoB
  have hlo : ∀ j, (Value.slice A' l.length c').ownBlock = some j → W.heap.size ≤ j := fun j hj => (World.ownsRow.lt HO j hj).1
  obtain ⟨v', w', hr, h2, h3, h4⟩ := run_app (P := Tryd.prog) (w.alloc (.cells #[.int .u8 (x.toNat : Int)] 5)) 50 ty 5 i0 _ 1 1 Tryd.underlying50 p0 p1 p2 p3 rfl (by decide) _ _ _ (own_down (World.ownsRow.alloc HO _) (Nat.zero_le _)) (some ⟨w.heap.size, 0, none⟩) 1 1 [bv x] rfl (fun h => by cases h) (fun _ => ⟨_, 0, rfl, fun j u hu => by
    have := World.news_of_block (Blk.new w 5 #[bv x]) j u hu
    rwa [Addr.add_lit] at this⟩) (by simp [bv, Value.oneCell']) (by simp only [maxLen]; omega) (by omega)
  have h5 : w'.ownsRow W.heap.size 5 1 v' (l.length + 1) ((l ++ [x]).map bv) := by
    rw [List.map_append]
    refine own_up h2 (fun j hj => ?_)
    rcases h4 with h | h
    · exact hlo j (h ▸ hj)
    · rw [h] at hj
      injection hj with hj
      subst hj
      have := HK.size
      simp
      omega
  have e1 : l.length + 1 = (l ++ [x]).length := by simp
  rw [e1] at h5
  obtain ⟨A2, c2, rfl, _⟩ := own_slice h5
  exact ⟨_, w', hr, A2, c2, rfl, h5, (HK.alloc _).grown h3 (fun j e => .inr (hlo j e))⟩
theorem conv_B {n₀ c : Nat} {w : World} {A : Option Addr} {l : Bs} (h : BAt n₀ w A c l) : (convert 50 9 (.slice A l.length c)).run Tryd.prog w = .ok (.string ⟨l.toArray⟩) w :=
  conv_bytes (P := Tryd.prog) (c := c) 50 5 Tryd.underlying50 Tryd.underlying5 (Rd.of_own h) (fun _ => own_nilA h) 9 Tryd.underlying9
theorem unhex_odd : ∀ {s : Bs}, s.length % 2 ≠ 0 → unhex s = none
  | [], h => absurd rfl h
  | [_], _ => rfl
  | a :: b :: t, h => by
    have ih := unhex_odd (s := t) (by simp at h; omega)
    rw [unhex, ih]
    cases figN a <;> cases figN b <;> rfl
theorem figI_no {c : UInt8} : figI c < 0 ↔ figN c = none := by
  unfold figI
  cases h : figN c with
  | none => simp
  | some v => simp
theorem unhex_no {s d : Bs} {k : Nat} (hk : k + 1 < s.length) (h : unhex s = (unhex (s.drop k)).map (d ++ ·)) (hf : figN (s[k]'(by omega)) = none ∨ figN s[k + 1] = none) : unhex s = none := by
  rw [h, List.drop_eq_getElem_cons (by omega), List.drop_eq_getElem_cons hk, unhex]
  rcases hf with hf | hf
  · rw [hf]
    rfl
  · rw [hf]
    cases figN (s[k]'(by omega)) <;> rfl
theorem unhex_step {s d : Bs} {k x y : Nat} (hk : k + 1 < s.length) (h : unhex s = (unhex (s.drop k)).map (d ++ ·)) (hx : figN (s[k]'(by omega)) = some x) (hy : figN s[k + 1] = some y) : unhex s = (unhex (s.drop (k + 2))).map ((d ++ [UInt8.ofNat (16 * x + y)]) ++ ·) := by
  rw [h, List.drop_eq_getElem_cons (by omega), List.drop_eq_getElem_cons hk, unhex, hx, hy]
  cases hz : unhex (s.drop (k + 1 + 1)) with
  | none =>
    rfl
  | some r =>
    simp
def BytPost (s : Bs) (w : World) (e : Ending) (w' : World) : Prop := e = .returned (.tuple #[.string ⟨((bytL s).getD []).toArray⟩, .bool (bytL s).isSome]) ∧ Kept [] w w'
theorem BytPost.no {s : Bs} {w w' : World} (h : bytL s = none) (k : Kept [] w w') : BytPost s w (.returned (.tuple #[.string ⟨#[]⟩, .bool false])) w' := by
  unfold BytPost
  rw [h]
  exact ⟨rfl, k⟩
theorem BytPost.yes {s d : Bs} {w w' : World} (h : bytL s = some d) (k : Kept [] w w') : BytPost s w (.returned (.tuple #[.string ⟨d.toArray⟩, .bool true])) w' := by
  unfold BytPost
  rw [h]
  exact ⟨rfl, k⟩
set_option maxRecDepth 4000 in
set_option maxHeartbeats 2000000 in
theorem ref_Bytes (s : Bs) (w : World) (hs : s.length ≤ 1000000) : Calls Tryd.prog 31 #[.string ⟨s.toArray⟩] w (BytPost s w) := by
  have HNo := Lib.hid (fun w' (h : bytL s = none) (k : Kept [] w w') => BytPost.no h k)
  have HYes := Lib.hid (fun w' d (h : bytL s = some d) (k : Kept [] w w') => BytPost.yes h k)
  by_cases hd : s = [45]
  · subst hd
    have hn : Hid (bytL [45] = some []) := by simp [Hid, bytL]
    generalize BytPost [45] w = Q at *
    go_enter Tryd.func31, Tryd.ntmps31
    go_wp2_with fail
    exact HYes.out _ [] hn.out (Kept.refl _ _)
  · have hd1 : (s == [45]) = false := by simpa using hd
    by_cases hnil : s = []
    · subst hnil
      have hn : Hid (bytL [] = none) := by simp [Hid, bytL]
      generalize BytPost [] w = Q at *
      go_enter Tryd.func31, Tryd.ntmps31
      go_wp2_with fail
      exact HNo.out _ hn.out (Kept.refl _ _)
    · have hie : List.isEmpty s = false := by simpa using hnil
      have HB : Hid (bytL s = unhex s) := by rw [Hid, bytL, if_neg hd, if_neg hnil]
      obtain ⟨m, hm⟩ : ∃ m : Int, ((s.length : Nat) : Int).tmod 2 = m := ⟨_, rfl⟩
      have hm2 : m = ((s.length % 2 : Nat) : Int) := by
        rw [← hm, Int.tmod_eq_emod_of_nonneg (by omega)]
        omega
      by_cases hodd : s.length % 2 = 0
      · have hm0 : m = 0 := by omega
        subst hm0
        clear hm2
        generalize BytPost s w = Q at *
        go_enter Tryd.func31, Tryd.ntmps31
        go_wp2_with fail
        go_loopw [4, 5] (fun o i V => ∃ (k : Nat) (d : Bs) (A' : Option Addr) (c' : Nat), k ≤ s.length ∧ Hid (k = 2 * d.length) ∧ i = .int .i64 k ∧ o = .slice A' d.length c' ∧ Hid (unhex s = (unhex (s.drop k)).map (d ++ ·)) ∧ Hid (BAt w.heap.size V A' c' d) ∧ Hid (Kept [] w V)) (fun _ i _ => s.length - (intOf i).toNat)
        case atStart => exact ⟨0, [], none, 0, Nat.zero_le _, rfl, rfl, rfl, by rw [Hid, List.drop_zero]; cases unhex s <;> rfl, World.ownsRow_nil _ _ _ _, Kept.refl _ _⟩
        case round =>
          obtain ⟨k, d, A', c', hk, HKD, rfl, rfl, HE, HO, HK⟩ := hrel
          by_cases hlt : k < s.length
          · have hlt1 : k + 1 < s.length := by
              have := HKD.out
              omega
            have hb : (⟨s.toArray⟩ : ByteArray)[k]'hlt = s[k] := rfl
            have hb1 : (⟨s.toArray⟩ : ByteArray)[k + 1]'hlt1 = s[k + 1] := rfl
            have hki : (k : Int) < (s.length : Int) := by omega
            have hki1 : (k : Int) + 1 < (s.length : Int) := by omega
            have hk0 : (0 : Int) ≤ (k : Int) + 1 := by omega
            have hwk : IntKind.i64.wrap ((k : Int) + 1) = (k : Int) + 1 := IntWalk.i64_in _ (by omega)
            have hwk2 : IntKind.i64.wrap ((k : Int) + 2) = (k : Int) + 2 := IntWalk.i64_in _ (by omega)
            have HU1 := Lib.hid (unhex_no hlt1 HE.out)
            have HU2 := Lib.hid (fun x y => unhex_step (x := x) (y := y) hlt1 HE.out)
            generalize s[k] = a at *
            generalize s[k + 1] = b at *
            go_wp2_with fail
            refine (ref_figure a _).mono ?_
            rintro e w1 ⟨rfl, rfl⟩
            go_wp2_with fail
            refine (ref_figure b _).mono ?_
            rintro e w1 ⟨rfl, rfl⟩
            have hdn : d.length ≤ 4000000 := by
              have := HKD.out
              omega
            cases hx : figN a with
            | none =>
              have hn : Hid (bytL s = none) := by rw [Hid, HB.out, HU1.out (.inl hx)]
              have e1 : figI a = -1 := by unfold figI; rw [hx]
              rw [e1]
              clear hx e1 hb hb1
              go_wp2_with fail
              exact HNo.out _ hn.out HK.out
            | some x =>
              have e1 : figI a = (x : Int) := by unfold figI; rw [hx]
              have hx16 := fig_lt hx
              rw [e1]
              have g1 : ¬ (x : Int) < 0 := by omega
              cases hy : figN b with
              | none =>
                have hn : Hid (bytL s = none) := by rw [Hid, HB.out, HU1.out (.inr hy)]
                have e2 : figI b = -1 := by unfold figI; rw [hy]
                rw [e2]
                clear hx hy e1 e2 hb hb1
                go_wp2_with fail
                exact HNo.out _ hn.out HK.out
              | some y =>
                have e2 : figI b = (y : Int) := by unfold figI; rw [hy]
                have hy16 := fig_lt hy
                rw [e2]
                have g2 : ¬ (y : Int) < 0 := by omega
                obtain ⟨z, hz⟩ : ∃ z : UInt8, z = UInt8.ofNat (16 * x + y) := ⟨_, rfl⟩
                have hzn : z.toNat = 16 * x + y := by rw [hz, UInt8.toNat_ofNat']; omega
                have HST := Lib.hid (HU2.out x y hx hy)
                rw [← hz] at HST
                have v1 : IntKind.i64.wrap (16 * (x : Int)) = 16 * (x : Int) := IntWalk.i64_in _ (by omega)
                have v2 : IntKind.i64.wrap (16 * (x : Int) + (y : Int)) = ((z.toNat : Nat) : Int) := by rw [show 16 * (x : Int) + (y : Int) = ((z.toNat : Nat) : Int) by omega]; exact IntWalk.i64_in _ (by omega)
                have v3 : IntKind.u8.wrap ((z.toNat : Nat) : Int) = ((z.toNat : Nat) : Int) := IntWalk.u8_in _ (by have := z.toNat_lt; omega)
                have HRun := Lib.hid (app_B z HO.out HK.out hdn)
                clear hx hy e1 e2 hb hb1 hz hzn
                go_wp2_with (at_builtin; refine wpList_app rfl (.tmp 39) (.tmp 45) _ rfl _ _ rfl rfl (HRun.out _) ?_; rintro v5 w5 ⟨A5, c5, rfl, o5, k5⟩; clear HRun)
                go_roundw
                case rel => exact ⟨k + 2, d ++ [z], A5, c5, by omega, by rw [Hid, List.length_append, HKD.out, List.length_singleton]; omega, by go_num, by simp, HST, Lib.hid o5, Lib.hid k5⟩
                case measure => simp [intOf]; omega
          · obtain rfl : k = s.length := by omega
            have HN : Hid (bytL s = some d) := by
              rw [Hid, HB.out, HE.out, List.drop_length]
              simp [unhex]
            have hcv := conv_B HO.out
            go_wp2_with fail
            exact HYes.out _ d HN.out HK.out
      · have hm0 : ¬ m = 0 := by omega
        have hn : Hid (bytL s = none) := by rw [Hid, HB.out, unhex_odd hodd]
        have hmb : (m == 0) = false := by simpa using hm0
        clear hm2
        generalize BytPost s w = Q at *
        go_enter Tryd.func31, Tryd.ntmps31
        go_wp2_with fail
        exact HNo.out _ hn.out (Kept.refl _ _)
end Go.Proofs.YtjdambplggiphaaDoor
