/- Tables: the document's Load. -/
import Derived.Test.YtfidgmpeiabhiaaTb2
namespace Go.Proofs.Ytfidgmpeiabhiaa
open Go.RowKit Go.Maps Go.ChangeMaps

theorem append_types {P : Program} {t t2 e e2 : TypeId} (ht : P.underlying t = some (.slice e)) (h2 : P.underlying t2 = some (.slice e2)) (ty : TypeId) (A B : Option Addr) (n c m d : Nat) (w : World) : (Builtin.append_ #[t, t2] ty #[.slice A n c, .slice B m d]).run P w = (Builtin.append_ #[t, t] ty #[.slice A n c, .slice B m d]).run P w := by
  simp [Builtin.append_, run_underlying ht, run_underlying h2]
theorem wpList_app2 {P : Program} {w : World} {ops : Array Oper} {rest : List Oper} {o : Oper} {a : Act} {Q : Exit → Act → World → Prop} (hgd : o.guard = none) (s x : Operand) (t t2 e e2 : TypeId) (ht : P.underlying t = some (.slice e)) (h2 : P.underlying t2 = some (.slice e2))
    (ho : o.op = .call { callee := .builtin .append, args := #[s, x], argTypes := #[t, t2] }) (A B : Option Addr) (n c m d : Nat) (hs : a.eval s = .slice A n c) (hx : a.eval x = .slice B m d) {R : Value → World → Prop}
    (hrun : ∃ v' w', (Builtin.append_ #[t, t] o.type #[.slice A n c, .slice B m d]).run P w = .ok v' w' ∧ R v' w') (h : ∀ v' w', R v' w' → wpList P ops Q rest (a.put o.dst v') w') : wpList P ops Q (o :: rest) a w := by
  refine wpList_plain hgd fun K hK => ?_
  obtain ⟨v', w', hr, hR⟩ := hrun
  rw [← append_types ht h2] at hr
  unfold Oper.wp
  simp [execOp, ho, resolve, invoke, builtin, hs, hx, hr, Result.andThen]
  exact hK _ _ (h v' w' hR)
/-- k of them are right -/
structure LdR (n : Nat) (l : List Int) (k : Nat) : Prop where
  ok : ∀ j, (hj : j < l.length) → j < k → l[j] = -1 ∨ (rightB l[j] = true ∧ j < n)
  one : ∀ i j, (hi : i < l.length) → (hj : j < l.length) → i < j → j < k → l[i] = l[j] → l[i] < 0
theorem LdR.step {n k : Nat} {l : List Int} (h : LdR n l k) (hk : k < l.length) (h1 : l[k] = -1 ∨ (rightB l[k] = true ∧ k < n)) (h2 : ∀ i, (hi : i < l.length) → i < k → l[i] = l[k] → l[k] < 0) : LdR n l (k + 1) := by
  refine ⟨fun j hj hjk => ?_, fun i j hi hj hij hjk e => ?_⟩
  · rcases Nat.lt_or_ge j k with h3 | h3
    · exact h.ok j hj h3
    · obtain rfl : j = k := by omega
      exact h1
  · rcases Nat.lt_or_ge j k with h3 | h3
    · exact h.one i j hi hj hij h3 e
    · obtain rfl : j = k := by omega
      have := h2 i hi hij e
      omega
def RLoadPost (n : Int) (l : List Int) (W : World) (e : Ending) (w' : World) : Prop := Kept [] W w' ∧
  ((¬ sizeL n l ∧ e = .returned (.tuple #[.slice none 0 0, .int .i64 1])) ∨ (sizeL n l ∧ ¬ goodL n.toNat l ∧ e = .returned (.tuple #[.slice none 0 0, .int .i64 165])) ∨ (sizeL n l ∧ goodL n.toNat l ∧ ∃ A c, e = .returned (.tuple #[.slice A n.toNat c, .int .i64 0]) ∧ DtAt W.heap.size w' (.slice A n.toNat c) (l.take n.toNat)))
theorem rd_app {W V : World} {n : Nat} {A : Option Addr} {c : Nat} {l : List Int} (hA : RdI W A l) (hA0 : A = none → c = 0) (hn : n ≤ 1048576) (hnl : n ≤ l.length) (d : Kept [] W V) (t : TypeId) (ht : Try.prog.underlying t = some (.slice 3)) (ty : TypeId) :
    ∃ v' w', (Builtin.append_ #[t, t] ty #[.slice none 0 0, .slice A n c]).run Try.prog V = .ok v' w' ∧ w'.ownsRow 0 3 1 v' (0 + n) ([] ++ (l.take n).map iv) ∧ V.grownBy w' (Value.slice none 0 0).ownBlock ∧ (v'.ownBlock = (Value.slice none 0 0).ownBlock ∨ v'.ownBlock = some V.heap.size) := by
  obtain ⟨i0, p0, p1, p2, p3⟩ := info_parts infoI
  exact run_app (P := Try.prog) V t ty 3 i0 _ 1 8 ht p0 p1 p2 p3 rfl (by decide) _ 0 [] (World.ownsRow_nil _ _ _ _) A n c ((l.take n).map iv) (by simp; omega) hA0 (fun hm => by
    obtain ⟨b, o, e, hb, hc⟩ := hA.2 (by omega)
    refine ⟨b, o, e, fun j u hu => d.cell (hc j u ?_) (fun h => by cases h)⟩
    rw [List.map_take, List.getElem?_take] at hu
    split at hu
    · exact hu
    · cases hu) (iv_one _) (by simp only [maxLen]; omega) (by omega)
set_option maxRecDepth 4000 in
set_option maxHeartbeats 4000000 in
theorem rf_Load_ok (W : World) (n : Nat) (hn : n ≤ 1048576) (A : Option Addr) (c : Nat) (l : List Int) (hA : RdI W A l) (hc : l.length ≤ c) (hA0 : A = none → c = 0) (hl : l.length = 13 * ((n + 12) / 13)) :
    Calls Try.prog 12 #[.int .i64 n, .slice A l.length c] W (RLoadPost n l W) := by
  have HA := hA.at_
  have hnl : n ≤ l.length := by omega
  have hnc : n ≤ c := by omega
  have HZ : Hid (sizeL n l) := ⟨by omega, by omega, by rw [Int.toNat_natCast]; exact hl⟩
  have hll : l.length ≤ 1048600 := by omega
  have hr2 : (l.length : Int) = ((n : Int) + 12) / 13 * 13 := by omega
  have hwr : IntKind.i64.wrap (((n : Int) + 12) / 13 * 13) = ((n : Int) + 12) / 13 * 13 := IntWalk.i64_in _ (by omega)
  have HTN : Hid ((n : Int).toNat = n) := Int.toNat_natCast n
  have HRd := Lib.hid hA
  have HA0 := Lib.hid hA0
  clear hA hl hA0
  go_enter Try.func12, Try.ntmps12
  go_wp2_with fail
  replace hr2 := Lib.hid hr2
  clear hwr
  go_loopw [6] (fun i V => ∃ (k : Nat), k ≤ l.length ∧ i = .int .i64 k ∧ Hid (LdR n l k) ∧ Hid (Dr W V)) (fun i _ => l.length - (intOf i).toNat)
  case atStart => exact ⟨0, Nat.zero_le _, rfl, ⟨fun j _ h => by omega, fun i j _ _ _ h => by omega⟩, Dr.refl _⟩
  case round =>
    obtain ⟨k, hk, rfl, HL, HD⟩ := hrel
    obtain ⟨W0, rfl⟩ : ∃ W0, W0 = wr := ⟨wr, rfl⟩
    by_cases hlt : k < l.length
    · obtain ⟨b, o, rfl, d0⟩ := HA.out k hlt
      have c0 := HD.out.kept.cell d0 (fun h => by cases h)
      obtain ⟨x, hx⟩ : ∃ x, Hid (l[k] = x) := ⟨_, Lib.hid rfl⟩
      rw [hx.out] at c0 d0
      have hki : (k : Int) < (l.length : Int) := by omega
      have d0' := Lib.hid d0
      clear d0
      by_cases hb1 : x < -1
      · have HBad : Hid (¬ goodL n l) := fun hg => by
          have := hg.1 k hlt
          rw [hx.out] at this
          rcases this with h | ⟨h, _⟩
          · omega
          · have := rightB_iff.1 h
            omega
        go_wp2_with fail
        refine bodyPost_ret (results_tmp2 rfl _ _ _) rfl ?_
        exact ⟨HD.out.kept, .inr (.inl ⟨HZ.out, by rw [HTN.out]; exact HBad.out, rfl⟩)⟩
      · by_cases hb2 : 2147483646 < x
        · have HBad : Hid (¬ goodL n l) := fun hg => by
            have := hg.1 k hlt
            rw [hx.out] at this
            rcases this with h | ⟨h, _⟩
            · omega
            · have := rightB_iff.1 h
              omega
          go_wp2_with fail
          refine bodyPost_ret (results_tmp2 rfl _ _ _) rfl ?_
          exact ⟨HD.out.kept, .inr (.inl ⟨HZ.out, by rw [HTN.out]; exact HBad.out, rfl⟩)⟩
        · by_cases hb3 : 0 ≤ x ∧ (n : Int) ≤ (k : Int)
          · obtain ⟨hb3, hb4⟩ := hb3
            have HBad : Hid (¬ goodL n l) := fun hg => by
              have := hg.1 k hlt
              rw [hx.out] at this
              rcases this with h | ⟨_, h⟩
              · omega
              · omega
            go_wp2_with fail
            refine bodyPost_ret (results_tmp2 rfl _ _ _) rfl ?_
            exact ⟨HD.out.kept, .inr (.inl ⟨HZ.out, by rw [HTN.out]; exact HBad.out, rfl⟩)⟩
          · have hor : (x = -1 ∧ ¬ 0 ≤ x) ∨ (0 ≤ x ∧ ¬ (n : Int) ≤ (k : Int)) := by omega
            have HOk : Hid (l[k] = -1 ∨ (rightB l[k] = true ∧ k < n)) := by
              rw [Hid, hx.out]
              rcases hor with h | h
              · exact .inl h.1
              · exact .inr ⟨rightB_iff.2 (by omega), by omega⟩
            clear hb3
            rcases hor with ⟨hm1, hb3⟩ | ⟨hb3, hb4⟩
            all_goals (
              go_wp2_with fail
              go_loopw [7] (fun i V => ∃ (m : Nat), m ≤ k ∧ i = .int .i64 m ∧ Hid (∀ i, (hi : i < l.length) → i < m → l[i] = x → x < 0) ∧ Hid (Dr W V)) (fun i _ => k - (intOf i).toNat)
              case atStart => exact ⟨0, Nat.zero_le _, rfl, fun i _ h => by omega, HD⟩
              case round =>
                obtain ⟨m, hm, rfl, HI, HD2⟩ := hrel
                by_cases hmk : m < k
                · have hml : m < l.length := by omega
                  obtain ⟨b2, o2, e2, d2⟩ := HA.out m hml
                  injection e2 with e2
                  injection e2 with e2 e3
                  subst e2
                  subst e3
                  have c1 := HD2.out.kept.cell d0'.out (fun h => by cases h)
                  have c2 := HD2.out.kept.cell d2 (fun h => by cases h)
                  obtain ⟨y, hy⟩ : ∃ y, Hid (l[m] = y) := ⟨_, Lib.hid rfl⟩
                  rw [hy.out] at c2
                  have hmi : (m : Int) < (k : Int) := by omega
                  have hmli : (m : Int) < (l.length : Int) := by omega
                  have HI2 : Hid ((y = x → x < 0) → ∀ i, (hi : i < l.length) → i < m + 1 → l[i] = x → x < 0) := fun h i hi him e => by
                    rcases Nat.lt_or_ge i m with h3 | h3
                    · exact HI.out i hi h3 e
                    · obtain rfl : i = m := by omega
                      exact h (hy.out.symm.trans e)
                  clear d2
                  by_cases hx0 : 0 ≤ x
                  · first
                    | (exfalso; omega)
                    | (
                      by_cases hyx : y = x
                      · subst hyx
                        have HBad : Hid (¬ goodL n l) := fun hg => by
                          have := hg.2 m k hml hlt hmk (hy.out.trans hx.out.symm)
                          rw [hy.out] at this
                          omega
                        go_wp2_with fail
                        go_quiet (fail)
                        go_wp2_with fail
                        refine bodyPost_ret (results_tmp2 rfl _ _ _) rfl ?_
                        exact ⟨(HD2.out.drewN nq).kept, .inr (.inl ⟨HZ.out, by rw [HTN.out]; exact HBad.out, rfl⟩)⟩
                      · go_wp2_with fail
                        go_quiet (fail)
                        go_wp2_with fail
                        go_roundw
                        case rel => exact ⟨m + 1, by omega, by go_num, HI2.out (fun h => absurd h hyx), HD2.out.drewN nq⟩
                        case measure => simp [intOf]; omega)
                  · first
                    | (exfalso; omega)
                    | (
                      have hx1 : decide (0 ≤ x) = false := decide_eq_false hx0
                      have hxn := Lib.hid hx0
                      clear hx0 hb3
                      go_wp2_with fail
                      go_quiet (fail)
                      go_wp2_with fail
                      go_roundw
                      case rel => exact ⟨m + 1, by omega, by go_num, HI2.out (fun _ => by have := hxn.out; omega), HD2.out.drewN nq⟩
                      case measure => simp [intOf]; omega)
                · obtain rfl : m = k := by omega
                  go_wp2_with fail
                  go_roundw
                  case rel => exact ⟨m + 1, by omega, by go_num, HL.out.step hlt HOk.out (fun i hi him e => by rw [hx.out] at e ⊢; exact HI.out i hi him e), HD2⟩
                  case measure => simp [intOf]; omega)
    · obtain rfl : k = l.length := by omega
      have HG : Hid (goodL n l) := ⟨fun j hj => HL.out.ok j hj hj, fun i j hi hj hij e => HL.out.one i j hi hj hij hj e⟩
      have HRun := Lib.hid (rd_app (V := W0) HRd.out HA0.out hn hnl HD.out.kept 27 Try.underlying27)
      have hni : (n : Int) ≤ (c : Int) := by omega
      go_wp2_with (at_builtin; refine wpList_app2 rfl (.tmp 75) (.tmp 78) _ _ _ _ Try.underlying27 Try.underlying26 rfl _ _ _ _ _ _ rfl rfl (HRun.out _) ?_; rintro v1 w2 ⟨hq2, hq3, hq4⟩; rw [Nat.zero_add, List.nil_append] at hq2; obtain ⟨A1, c1, rfl, _⟩ := own_slice hq2; have HQ2 := Lib.hid hq2; have HQ3 := Lib.hid hq3; have HQ4 := Lib.hid hq4; clear hq2 hq3 hq4 HRun)
      refine bodyPost_ret (results_tmp2 rfl _ _ _) rfl ?_
      have hz := HD.out.kept.size
      refine ⟨HD.out.kept.trans ((Kept.refl [] _).grown HQ3.out (fun k e => by cases e)), .inr (.inr ⟨HZ.out, by rw [HTN.out]; exact HG.out, A1, c1, by rw [HTN.out]; rfl, ?_⟩)⟩
      rw [HTN.out, DtAt, List.length_take, show min n l.length = n by omega]
      refine own_up HQ2.out (fun k hk => ?_)
      rcases HQ4.out with h | h
      · rw [h] at hk
        cases hk
      · rw [h] at hk
        injection hk with hk
        omega
end Go.Proofs.Ytfidgmpeiabhiaa
