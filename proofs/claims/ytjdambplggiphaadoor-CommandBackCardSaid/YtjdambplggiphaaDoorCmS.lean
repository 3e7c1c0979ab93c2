/- Commands: the law CommandBack walked. -/
import Derived.Test.YtjdambplggiphaaDoorCmR
namespace Go.Proofs.YtjdambplggiphaaDoor
open Go.RowKit Go.Lib

theorem unhex_len {w d : Bs} (h : unhex w = some d) : d.length ≤ w.length := by
  have e := hex_unhex h
  subst e
  clear h
  induction d with
  | nil => simp
  | cons b t ih =>
    rw [List.flatMap_cons, List.length_append, List.length_cons]
    show t.length + 1 ≤ 2 + _
    omega
theorem byt_len {w d : Bs} (h : bytL w = some d) : d.length ≤ w.length := by
  unfold bytL at h
  split at h
  · injection h with h
    subst h
    simp
  · split at h
    · cases h
    · exact unhex_len h
theorem z64 : -9223372036854775808 ≤ (0 : Int) ∧ (0 : Int) ≤ 9223372036854775807 := by decide
def okC (k : Nat) (c : Cm) : Prop := wfC c ∧ c.data.length ≤ k
theorem take_ok {k : Nat} {c c' : Cm} {f : UInt8} {w : Bs} (hc : okC k c) (hw : w.length ≤ k) (h : takeL c f w = some c') : okC k c' := by
  unfold takeL at h
  obtain ⟨⟨a1, a2, a3⟩, hd⟩ := hc
  split at h
  · obtain ⟨d, h1, rfl⟩ := Option.map_eq_some_iff.1 h
    exact ⟨⟨a1, a2, a3⟩, Nat.le_trans (byt_len h1) hw⟩
  · obtain ⟨v, h1, rfl⟩ := Option.map_eq_some_iff.1 h
    have hv := (dec_num h1).2
    unfold mostN at hv
    have hb : -9223372036854775808 ≤ (v : Int) ∧ (v : Int) ≤ 9223372036854775807 := by omega
    split
    · exact ⟨⟨hb, a2, a3⟩, hd⟩
    · split
      · exact ⟨⟨a1, hb, a3⟩, hd⟩
      · exact ⟨⟨a1, a2, hb⟩, hd⟩
theorem takes_ok {k : Nat} : ∀ {f : Bs} {ws : List Bs} {c c' : Cm}, okC k c → (∀ x ∈ ws, x.length ≤ k) → takesL c f ws = some c' → okC k c'
  | [], [], c, c', hc, _, h => by
    injection h with h
    exact h ▸ hc
  | [], _ :: _, _, _, _, _, h => by cases h
  | _ :: _, [], _, _, _, _, h => by cases h
  | a :: f, x :: ws, c, c', hc, hw, h => by
    unfold takesL at h
    cases h1 : takeL c a x with
    | none => rw [h1] at h; cases h
    | some c1 =>
      rw [h1] at h
      exact takes_ok (take_ok hc (hw x List.mem_cons_self) h1) (fun y hy => hw y (List.mem_cons_of_mem _ hy)) h
theorem parse_ok {s : Bs} {c : Cm} (h : parseL s = some c) : wfC c ∧ c.op.length ≤ 6 ∧ c.data.length ≤ s.length := by
  obtain ⟨f, ws, h1, h2, h3, h4⟩ := parse_some h
  have h5 : okC s.length c := takes_ok (k := s.length) ⟨⟨z64, z64, z64⟩, Nat.zero_le _⟩ (fun x hx => spl_size s x (by rw [h1]; exact List.mem_cons_of_mem _ hx)) h4
  exact ⟨h5.1, form_op h2, h5.2⟩
theorem parse_ok0 (s : Bs) : wfC ((parseL s).getD cm0) ∧ ((parseL s).getD cm0).op.length ≤ 6 ∧ ((parseL s).getD cm0).data.length ≤ s.length := by
  cases h : parseL s with
  | none => exact ⟨⟨by decide, by decide, by decide⟩, by simp [cm0], by simp [cm0]⟩
  | some c => exact parse_ok h
theorem word_len {c : Cm} (hw : wfC c) (f : UInt8) : (wordL c f).length ≤ 2 * c.data.length + 20 := by
  by_cases h : f = 100
  · subst h
    rw [word_data]
    have := hexL_len c.data
    omega
  · rw [word_val h]
    have := itoa_len (val_wf hw f)
    omega
theorem join_len {k : Nat} : ∀ {l : List Bs}, (∀ x ∈ l, x.length ≤ k) → (joinL l).length ≤ l.length * (k + 1)
  | [], _ => by simp [joinL]
  | [x], h => by
    have := h x List.mem_cons_self
    simp [joinL]
    omega
  | x :: y :: t, h => by
    have h1 := h x List.mem_cons_self
    have h2 := join_len (l := y :: t) (fun z hz => h z (List.mem_cons_of_mem _ hz))
    simp only [joinL, List.length_append, List.length_cons, Nat.add_mul, Nat.one_mul] at h2 ⊢
    omega
theorem print_len {c : Cm} (hw : wfC c) (hs : c.op.length ≤ 1000 ∧ c.data.length ≤ 1000) : ((printL c).getD []).length ≤ 1000000 := by
  cases h : printL c with
  | none => simp
  | some s =>
    obtain ⟨f, ws, h1, h2, h3, h4⟩ := parse_some (print_back h)
    have e : joinL (spl s) = s := join_spl s
    rw [Option.getD_some, ← e, h1, h3]
    have hf : f.length ≤ 3 := by rcases frm_forms h2 with rfl | rfl | rfl | rfl | rfl <;> simp
    have := join_len (k := 2020) (l := c.op :: f.map (wordL c)) (fun x hx => by
      rcases List.mem_cons.1 hx with rfl | hx
      · omega
      · obtain ⟨g, _, rfl⟩ := List.mem_map.1 hx
        have := word_len hw g
        omega)
    rw [List.length_cons, List.length_map] at this
    omega
def PrintRet (p : Bs) (er : Int) (w : World) (e : Ending) (w' : World) : Prop := e = .returned (.tuple #[.string ⟨p.toArray⟩, .int .i64 er]) ∧ Kept [] w w'
def ParseRet (z : Cm) (er : Int) (w : World) (e : Ending) (w' : World) : Prop := e = .returned (.tuple #[cmV z, .int .i64 er]) ∧ Kept [] w w'
set_option maxRecDepth 4000 in
set_option maxHeartbeats 2000000 in
theorem back_long (c : Cm) (t : Bs) (W : World) (hL : Laid W) (hs : c.op.length ≤ 140737488351232 ∧ c.data.length ≤ 140737488351232) (hx : 1000 < c.op.length + c.data.length ∨ 1000 < t.length) (ht : t.length ≤ 140737488351232) : Calls Tryd.prog 5 #[cmV c, .string ⟨t.toArray⟩] W (TrueK W) := by
  have HAl := Lib.hid (fun (V : World) (k : Kept [] W V) => cmd_alive V (hL.kept k))
  have HAdd : IntKind.i64.wrap ((c.op.length : Int) + (c.data.length : Int)) = (c.op.length : Int) + (c.data.length : Int) := IntWalk.i64_in _ (by omega)
  obtain ⟨op, id, at_, n, data⟩ := c
  unfold cmV
  dsimp only at HAdd hx ⊢
  rcases Nat.lt_or_ge 1000 (op.length + data.length) with hx1 | hx1
  · have hi : (1000 : Int) < (op.length : Int) + (data.length : Int) := by omega
    clear hx
    go_enter Tryd.func5, Tryd.ntmps5
    go_wp2_with fail
    refine (HAl.out _ ((Kept.refl [] W).alloc _)).mono ?_
    rintro e w1 ⟨rfl, k1⟩
    have K1 := Lib.hid (((Kept.refl [] W).alloc _).trans k1)
    clear k1
    go_wp2_with fail
    go_ret
    exact ⟨rfl, K1.out⟩
  · have hi : ¬ (1000 : Int) < (op.length : Int) + (data.length : Int) := by omega
    have hj : (1000 : Int) < (t.length : Int) := by omega
    clear hx
    go_enter Tryd.func5, Tryd.ntmps5
    go_wp2_with fail
    refine (HAl.out _ ((Kept.refl [] W).alloc _)).mono ?_
    rintro e w1 ⟨rfl, k1⟩
    have K1 := Lib.hid (((Kept.refl [] W).alloc _).trans k1)
    clear k1
    go_wp2_with fail
    go_ret
    exact ⟨rfl, K1.out⟩
set_option maxRecDepth 4000 in
set_option maxHeartbeats 4000000 in
theorem back_walk (c : Cm) (t : Bs) (W : World) (hL : Laid W) (h1 : c.op.length + c.data.length ≤ 1000) (ht : t.length ≤ 1000) (p1 p2 : Bs) (z1 z2 z3 z4 : Cm) (e1 e2 e3 e4 e5 : Int)
    (H1 : ∀ V, Laid V → Calls Tryd.prog 7 #[cmV c] V (PrintRet p1 e1 V)) (H2 : ∀ V, Laid V → Calls Tryd.prog 9 #[.string ⟨p1.toArray⟩] V (ParseRet z1 e2 V))
    (H3 : ∀ V, Laid V → Calls Tryd.prog 9 #[.string ⟨t.toArray⟩] V (ParseRet z2 e3 V)) (H4 : ∀ V, Laid V → Calls Tryd.prog 7 #[cmV z2] V (PrintRet p2 e4 V))
    (H5 : ∀ V, Laid V → Calls Tryd.prog 9 #[.string ⟨(t ++ [32]).toArray⟩] V (ParseRet z3 e5 V)) (H6 : ∀ V, Laid V → Calls Tryd.prog 9 #[.string ⟨([32] ++ t).toArray⟩] V (ParseRet z4 32 V))
    (hA : (e1 = 0 ∧ e2 = 0 ∧ c = z1) ∨ e1 = 1) (hB : (e3 = 0 ∧ e4 = 0 ∧ p2 = t ∧ e5 = 32) ∨ (e3 = 32 ∧ z2 = cm0)) :
    Calls Tryd.prog 5 #[cmV c, .string ⟨t.toArray⟩] W (TrueK W) := by
  have HAl := Lib.hid (fun (V : World) (k : Kept [] W V) => cmd_alive V (hL.kept k))
  have HAdd : IntKind.i64.wrap ((c.op.length : Int) + (c.data.length : Int)) = (c.op.length : Int) + (c.data.length : Int) := IntWalk.i64_in _ (by omega)
  have hi : ¬ (1000 : Int) < (c.op.length : Int) + (c.data.length : Int) := by omega
  have hj : ¬ (1000 : Int) < (t.length : Int) := by omega
  have HL := Lib.hid hL
  obtain ⟨op, id, at_, n, data⟩ := c
  obtain ⟨op1, id1, at1, n1, data1⟩ := z1
  obtain ⟨op2, id2, at2, n2, data2⟩ := z2
  obtain ⟨op3, id3, at3, n3, data3⟩ := z3
  obtain ⟨op4, id4, at4, n4, data4⟩ := z4
  unfold PrintRet cmV at H1 H4
  unfold ParseRet cmV at H2 H3 H5 H6
  unfold cm0 at hB
  unfold cmV
  dsimp only at H1 H2 H3 H4 H5 H6 HAdd hi ⊢
  rw [← list_append] at H5 H6
  replace H1 := Lib.hid H1
  replace H2 := Lib.hid H2
  replace H3 := Lib.hid H3
  replace H4 := Lib.hid H4
  replace H5 := Lib.hid H5
  replace H6 := Lib.hid H6
  simp only [Cm.mk.injEq] at hA hB
  clear hL h1 ht
  rcases hA with ⟨rfl, rfl, rfl, rfl, rfl, rfl, rfl⟩ | rfl
  · go_enter Tryd.func5, Tryd.ntmps5
    go_wp2_with fail
    refine (H1.out _ (HL.out.kept ((Kept.refl [] W).alloc _))).mono ?_
    rintro e w1 ⟨rfl, k1⟩
    have K1 := Lib.hid (((Kept.refl [] W).alloc _).trans k1)
    have B1 := Lib.hid ((Blk.new W 23 #[.string ⟨op.toArray⟩, .int .i64 id, .int .i64 at_, .int .i64 n, .string ⟨data.toArray⟩]).kept k1 (fun h => by cases h))
    clear k1 H1
    go_wp2_with fail
    refine (H2.out _ (HL.out.kept K1.out)).mono ?_
    rintro e w2 ⟨rfl, k2⟩
    have K2 := Lib.hid (K1.out.trans k2)
    have B2 := Lib.hid (B1.out.kept k2 (fun h => by cases h))
    have p0 := (B2.out.alloc (.cells #[.string ⟨op.toArray⟩, .int .i64 id, .int .i64 at_, .int .i64 n, .string ⟨data.toArray⟩] 23)).cell 0
    have p1 := (B2.out.alloc (.cells #[.string ⟨op.toArray⟩, .int .i64 id, .int .i64 at_, .int .i64 n, .string ⟨data.toArray⟩] 23)).cell 1
    have p2 := (B2.out.alloc (.cells #[.string ⟨op.toArray⟩, .int .i64 id, .int .i64 at_, .int .i64 n, .string ⟨data.toArray⟩] 23)).cell 2
    have p3 := (B2.out.alloc (.cells #[.string ⟨op.toArray⟩, .int .i64 id, .int .i64 at_, .int .i64 n, .string ⟨data.toArray⟩] 23)).cell 3
    have p4 := (B2.out.alloc (.cells #[.string ⟨op.toArray⟩, .int .i64 id, .int .i64 at_, .int .i64 n, .string ⟨data.toArray⟩] 23)).cell 4
    clear k2 H2
    go_wp2_with fail
    refine (H3.out _ ((HL.out.kept K2.out).kept ((Kept.refl [] w2).alloc _))).mono ?_
    rintro e w3 ⟨rfl, k3⟩
    have K3 := Lib.hid ((K2.out.alloc _).trans k3)
    clear k3 H3 p0 p1 p2 p3 p4 B1 B2
    go_wp2_with fail
    refine (H4.out _ ((HL.out.kept K3.out).kept ((Kept.refl [] w3).alloc _))).mono ?_
    rintro e w4 ⟨rfl, k4⟩
    have K4 := Lib.hid ((K3.out.alloc _).trans k4)
    have B4 := Lib.hid ((Blk.new w3 23 #[.string ⟨op2.toArray⟩, .int .i64 id2, .int .i64 at2, .int .i64 n2, .string ⟨data2.toArray⟩]).kept k4 (fun h => by cases h))
    clear k4 H4
    go_wp2_with fail
    refine (H5.out _ (HL.out.kept K4.out)).mono ?_
    rintro e w5 ⟨rfl, k5⟩
    have K5 := Lib.hid (K4.out.trans k5)
    have B5 := Lib.hid (B4.out.kept k5 (fun h => by cases h))
    clear k5 H5
    go_wp2_with fail
    refine (H6.out _ ((HL.out.kept K5.out).kept ((Kept.refl [] w5).alloc _))).mono ?_
    rintro e w6 ⟨rfl, k6⟩
    have K6 := Lib.hid ((K5.out.alloc _).trans k6)
    have B6 := Lib.hid ((B5.out.alloc _).kept k6 (fun h => by cases h))
    clear k6 H6
    go_wp2_with fail
    refine (HAl.out _ (K6.out.alloc _)).mono ?_
    rintro e w7 ⟨rfl, k7⟩
    have K7 := Lib.hid ((K6.out.alloc _).trans k7)
    have B7 := Lib.hid ((B6.out.alloc _).kept k7 (fun h => by cases h))
    clear k7
    have p0 := B7.out.cell 0
    have p1 := B7.out.cell 1
    have p2 := B7.out.cell 2
    have p3 := B7.out.cell 3
    have p4 := B7.out.cell 4
    rcases hB with ⟨rfl, rfl, rfl, rfl⟩ | ⟨rfl, rfl, rfl, rfl, rfl, rfl⟩
    all_goals
      go_wp2_with fail
      go_ret
      exact ⟨rfl, K7.out⟩
  · go_enter Tryd.func5, Tryd.ntmps5
    go_wp2_with fail
    refine (H1.out _ (HL.out.kept ((Kept.refl [] W).alloc _))).mono ?_
    rintro e w1 ⟨rfl, k1⟩
    have K1 := Lib.hid (((Kept.refl [] W).alloc _).trans k1)
    have B1 := Lib.hid ((Blk.new W 23 #[.string ⟨op.toArray⟩, .int .i64 id, .int .i64 at_, .int .i64 n, .string ⟨data.toArray⟩]).kept k1 (fun h => by cases h))
    clear k1 H1
    go_wp2_with fail
    refine (H2.out _ (HL.out.kept K1.out)).mono ?_
    rintro e w2 ⟨rfl, k2⟩
    have K2 := Lib.hid (K1.out.trans k2)
    have B2 := Lib.hid (B1.out.kept k2 (fun h => by cases h))
    have p0 := (B2.out.alloc (.cells #[.string ⟨op1.toArray⟩, .int .i64 id1, .int .i64 at1, .int .i64 n1, .string ⟨data1.toArray⟩] 23)).cell 0
    have p1 := (B2.out.alloc (.cells #[.string ⟨op1.toArray⟩, .int .i64 id1, .int .i64 at1, .int .i64 n1, .string ⟨data1.toArray⟩] 23)).cell 1
    have p2 := (B2.out.alloc (.cells #[.string ⟨op1.toArray⟩, .int .i64 id1, .int .i64 at1, .int .i64 n1, .string ⟨data1.toArray⟩] 23)).cell 2
    have p3 := (B2.out.alloc (.cells #[.string ⟨op1.toArray⟩, .int .i64 id1, .int .i64 at1, .int .i64 n1, .string ⟨data1.toArray⟩] 23)).cell 3
    have p4 := (B2.out.alloc (.cells #[.string ⟨op1.toArray⟩, .int .i64 id1, .int .i64 at1, .int .i64 n1, .string ⟨data1.toArray⟩] 23)).cell 4
    clear k2 H2
    go_wp2_with fail
    refine (H3.out _ ((HL.out.kept K2.out).kept ((Kept.refl [] w2).alloc _))).mono ?_
    rintro e w3 ⟨rfl, k3⟩
    have K3 := Lib.hid ((K2.out.alloc _).trans k3)
    clear k3 H3 p0 p1 p2 p3 p4 B1 B2
    go_wp2_with fail
    refine (H4.out _ ((HL.out.kept K3.out).kept ((Kept.refl [] w3).alloc _))).mono ?_
    rintro e w4 ⟨rfl, k4⟩
    have K4 := Lib.hid ((K3.out.alloc _).trans k4)
    have B4 := Lib.hid ((Blk.new w3 23 #[.string ⟨op2.toArray⟩, .int .i64 id2, .int .i64 at2, .int .i64 n2, .string ⟨data2.toArray⟩]).kept k4 (fun h => by cases h))
    clear k4 H4
    go_wp2_with fail
    refine (H5.out _ (HL.out.kept K4.out)).mono ?_
    rintro e w5 ⟨rfl, k5⟩
    have K5 := Lib.hid (K4.out.trans k5)
    have B5 := Lib.hid (B4.out.kept k5 (fun h => by cases h))
    clear k5 H5
    go_wp2_with fail
    refine (H6.out _ ((HL.out.kept K5.out).kept ((Kept.refl [] w5).alloc _))).mono ?_
    rintro e w6 ⟨rfl, k6⟩
    have K6 := Lib.hid ((K5.out.alloc _).trans k6)
    have B6 := Lib.hid ((B5.out.alloc _).kept k6 (fun h => by cases h))
    clear k6 H6
    go_wp2_with fail
    refine (HAl.out _ (K6.out.alloc _)).mono ?_
    rintro e w7 ⟨rfl, k7⟩
    have K7 := Lib.hid ((K6.out.alloc _).trans k7)
    have B7 := Lib.hid ((B6.out.alloc _).kept k7 (fun h => by cases h))
    clear k7
    have p0 := B7.out.cell 0
    have p1 := B7.out.cell 1
    have p2 := B7.out.cell 2
    have p3 := B7.out.cell 3
    have p4 := B7.out.cell 4
    rcases hB with ⟨rfl, rfl, rfl, rfl⟩ | ⟨rfl, rfl, rfl, rfl, rfl, rfl⟩
    all_goals
      go_wp2_with fail
      go_ret
      exact ⟨rfl, K7.out⟩
theorem back_law (c : Cm) (t : Bs) (W : World) (hL : Laid W) (hs : c.op.length ≤ 140737488351232 ∧ c.data.length ≤ 140737488351232) (hw : wfC c) (ht : t.length ≤ 140737488351232) : Calls Tryd.prog 5 #[cmV c, .string ⟨t.toArray⟩] W (TrueK W) := by
  by_cases h1 : c.op.length + c.data.length ≤ 1000
  · by_cases h2 : t.length ≤ 1000
    · obtain ⟨q1, q2, q3⟩ := parse_ok0 t
      have H1 := fun V (h : Laid V) => cmd_Print c V h (by omega) hw
      have H2 := fun V (h : Laid V) => cmd_Parse ((printL c).getD []) V h (print_len hw (by omega))
      have H3 := fun V (h : Laid V) => cmd_Parse t V h (by omega)
      have H4 := fun V (h : Laid V) => cmd_Print ((parseL t).getD cm0) V h (by omega) q1
      have H5 := fun V (h : Laid V) => cmd_Parse (t ++ [32]) V h (by rw [List.length_append, List.length_singleton]; omega)
      have H6 := fun V (h : Laid V) => cmd_Parse ([32] ++ t) V h (by rw [List.length_append, List.length_singleton]; omega)
      have e6 : parseL ([32] ++ t) = none := parse_ahead t
      unfold ParsePost at H6
      rw [e6] at H6
      refine back_walk c t W hL h1 h2 _ _ _ _ _ _ _ _ _ _ _ H1 H2 H3 H4 H5 H6 ?_ ?_
      · cases hp : printL c with
        | none => exact .inr rfl
        | some s =>
          rw [Option.getD_some, print_back hp]
          exact .inl ⟨rfl, rfl, rfl⟩
      · cases hp : parseL t with
        | none => exact .inr ⟨rfl, rfl⟩
        | some d =>
          rw [Option.getD_some, print_parse hp, parse_behind hp]
          exact .inl ⟨rfl, rfl, rfl, rfl⟩
    · exact back_long c t W hL hs (.inr (by omega)) ht
  · exact back_long c t W hL hs (.inl (by omega)) ht
end Go.Proofs.YtjdambplggiphaaDoor
