/- Commands: the document's take and Parse. -/
import Derived.Test.YtjdambplggiphaaDoorCmE
namespace Go.Proofs.YtjdambplggiphaaDoor
open Go.RowKit Go.Lib

theorem blk_new' {w : World} {t : TypeId} {cs : Array Value} {g : Nat} (h : g = w.heap.size) : Blk (w.alloc (.cells cs t)) g t cs := by
  subst h
  exact Blk.new w t cs
def cmV (c : Cm) : Value := .agg #[.string ⟨c.op.toArray⟩, .int .i64 c.id, .int .i64 c.at_, .int .i64 c.n, .string ⟨c.data.toArray⟩]
def cmC (c : Cm) : Array Value := #[.string ⟨c.op.toArray⟩, .int .i64 c.id, .int .i64 c.at_, .int .i64 c.n, .string ⟨c.data.toArray⟩]
def TakePost (c : Cm) (f : UInt8) (s : Bs) (w : World) (e : Ending) (w' : World) : Prop := Kept [] w w' ∧ ∃ c' : Cm, e = .returned (.tuple #[cmV c', .bool (takeL c f s).isSome]) ∧ ∀ c2, takeL c f s = some c2 → c' = c2
theorem results_take (tmps : Array Value) (w : World) (b6 : Nat) (c : Cm) (z : Value) (hp : tmps[6]?.getD undef = .pointer (some ⟨b6, 0, none⟩)) (hq : tmps[7]?.getD undef = z) (h0 : Blk w b6 23 (cmC c)) :
    (results Tryd.f22 tmps).run Tryd.prog w = .ok (.tuple #[cmV c, z]) w := by
  have c0 := h0.cell 0
  have c1 := h0.cell 1
  have c2 := h0.cell 2
  have c3 := h0.cell 3
  have c4 := h0.cell 4
  unfold cmC at c0 c1 c2 c3 c4
  simp at c0 c1 c2 c3 c4
  simp [results, hp, hq, asAddr, c0, c1, c2, c3, c4, go_sem, cmV]
set_option maxRecDepth 4000 in
set_option maxHeartbeats 2000000 in
theorem ref_take (c : Cm) (f : UInt8) (s : Bs) (w : World) (hs : s.length ≤ 1000000) : Calls Tryd.prog 22 #[cmV c, .int .u8 (f.toNat : Int), .string ⟨s.toArray⟩] w (TakePost c f s w) := by
  by_cases hd : f = 100
  · have ht : takeL c f s = (bytL s).map fun d => { c with data := d } := if_pos hd
    have HP : Hid (∀ w', Kept [] w w' → TakePost c f s w (.returned (.tuple #[cmV { c with data := (bytL s).getD [] }, .bool (bytL s).isSome])) w') := fun w' k => by
      refine ⟨k, { c with data := (bytL s).getD [] }, ?_, fun c2 h => ?_⟩
      · rw [ht, Option.isSome_map]
      · rw [ht] at h
        obtain ⟨d, hb, rfl⟩ := Option.map_eq_some_iff.1 h
        rw [hb]
        rfl
    have HB := Lib.hid (fun w => ref_Bytes s w hs)
    unfold BytPost at HB
    subst hd
    clear ht
    generalize TakePost c 100 s w = Q at *
    generalize (bytL s).getD [] = d at *
    generalize (bytL s).isSome = ok at *
    obtain ⟨op, id, at_, n, data⟩ := c
    unfold cmV at HP ⊢
    dsimp only at HP ⊢
    have K0 := Lib.hid (((Kept.refl [] w).alloc (.cells #[.string ⟨op.toArray⟩, .int .i64 id, .int .i64 at_, .int .i64 n, .string ⟨data.toArray⟩] 23)).alloc (.cells #[.string ⟨#[]⟩, .int .i64 0, .int .i64 0, .int .i64 0, .string ⟨#[]⟩] 23))
    have B3 := Lib.hid ((Blk.new w 23 #[.string ⟨op.toArray⟩, .int .i64 id, .int .i64 at_, .int .i64 n, .string ⟨data.toArray⟩]).alloc (.cells #[.string ⟨#[]⟩, .int .i64 0, .int .i64 0, .int .i64 0, .string ⟨#[]⟩] 23))
    have B6 := Lib.hid (blk_new' (g := w.heap.size + 1) (w := w.alloc (.cells #[.string ⟨op.toArray⟩, .int .i64 id, .int .i64 at_, .int .i64 n, .string ⟨data.toArray⟩] 23)) (t := 23) (cs := #[.string ⟨#[]⟩, .int .i64 0, .int .i64 0, .int .i64 0, .string ⟨#[]⟩]) (by simp))
    go_enter Tryd.func22, Tryd.ntmps22
    go_wp2_with fail
    refine (HB.out _).mono ?_
    rintro e w1 ⟨rfl, k1⟩
    have K1 := Lib.hid (K0.out.trans k1)
    have C3 := B3.out.kept k1 (fun h => by cases h)
    have C6 := B6.out.kept k1 (fun h => by cases h)
    have hlt3 := C3.lt
    have hz3 : w.heap.size ≤ w.heap.size := Nat.le_refl _
    clear k1 B3 B6 K0
    have c0 := C3.cell 0
    have c1 := C3.cell 1
    have c2 := C3.cell 2
    have c3 := C3.cell 3
    have c4 := C3.cell 4
    have f3 := C3.frozen 4
    have d0 := C6.cell 0
    have d1 := C6.cell 1
    have d2 := C6.cell 2
    have d3 := C6.cell 3
    have d4 := C6.cell 4
    have g0 := C6.frozen 0
    have g1 := C6.frozen 1
    have g2 := C6.frozen 2
    have g3 := C6.frozen 3
    have g4 := C6.frozen 4
    have hne : ¬ w.heap.size = w.heap.size + 1 := by omega
    have hne2 : ¬ w.heap.size + 1 = w.heap.size := by omega
    go_wp2_with fail
    refine bodyPost_ret (results_take _ _ (w.heap.size + 1) ⟨op, id, at_, n, d⟩ (.bool ok) rfl rfl ((((((C6.far (p := ⟨w.heap.size, 4, none⟩) hne2 (.string ⟨d.toArray⟩)).set_ 0 _).set_ 1 _).set_ 2 _).set_ 3 _).set_ 4 _)) rfl ?_
    exact HP.out _ (((((((K1.out.setCell (.inr (by dsimp only; omega)) _).setCell (.inr (by dsimp only; omega)) _).setCell (.inr (by dsimp only; omega)) _).setCell (.inr (by dsimp only; omega)) _).setCell (.inr (by dsimp only; omega)) _).setCell (.inr (by dsimp only; omega)) _))
  · have hdb : (((f.toNat : Nat) : Int) == 100) = false := by
      rw [beq_eq_false_iff_ne]
      intro h
      exact hd (UInt8.toNat_inj.1 (by
        have e : (100 : UInt8).toNat = 100 := rfl
        omega))
    have HB : Hid (∀ w, Calls Tryd.prog 32 #[.string ⟨s.toArray⟩, .int .i64 (mostN : Int)] w fun e w' => e = .returned (.tuple #[.int .i64 (numI s mostN), .bool (numL s mostN).isSome]) ∧ Kept [] w w') := fun w => (ref_Number s mostN w (by decide) (by omega)).mono (fun e w' h => ⟨h.1, h.2 ▸ Kept.refl [] w⟩)
    by_cases h105 : f = 105
    · have ht : takeL c f s = (numL s mostN).map fun (v : Nat) => { c with id := (v : Int) } := by unfold takeL; rw [if_neg hd, h105]; rfl
      have HP : Hid (∀ w', Kept [] w w' → TakePost c f s w (.returned (.tuple #[cmV { c with id := numI s mostN }, .bool (numL s mostN).isSome])) w') := fun w' k => by
        refine ⟨k, { c with id := numI s mostN }, ?_, fun c2 h => ?_⟩
        · rw [ht, Option.isSome_map]
        · rw [ht] at h
          obtain ⟨v, hb, rfl⟩ := Option.map_eq_some_iff.1 h
          unfold numI
          rw [hb]
      have h105b : f.toNat = 105 := by rw [h105]; rfl
      clear ht
      generalize TakePost c f s w = Q at *
      generalize numI s mostN = v at *
      generalize (numL s mostN).isSome = ok at *
      generalize f.toNat = fn at *
      obtain ⟨op, id, at_, n, data⟩ := c
      unfold cmV at HP ⊢
      dsimp only at HP ⊢
      have K0 := Lib.hid (((Kept.refl [] w).alloc (.cells #[.string ⟨op.toArray⟩, .int .i64 id, .int .i64 at_, .int .i64 n, .string ⟨data.toArray⟩] 23)).alloc (.cells #[.string ⟨#[]⟩, .int .i64 0, .int .i64 0, .int .i64 0, .string ⟨#[]⟩] 23))
      have B3 := Lib.hid ((Blk.new w 23 #[.string ⟨op.toArray⟩, .int .i64 id, .int .i64 at_, .int .i64 n, .string ⟨data.toArray⟩]).alloc (.cells #[.string ⟨#[]⟩, .int .i64 0, .int .i64 0, .int .i64 0, .string ⟨#[]⟩] 23))
      have B6 := Lib.hid (blk_new' (g := w.heap.size + 1) (w := w.alloc (.cells #[.string ⟨op.toArray⟩, .int .i64 id, .int .i64 at_, .int .i64 n, .string ⟨data.toArray⟩] 23)) (t := 23) (cs := #[.string ⟨#[]⟩, .int .i64 0, .int .i64 0, .int .i64 0, .string ⟨#[]⟩]) (by simp))
      unfold mostN at HB
      go_enter Tryd.func22, Tryd.ntmps22
      go_wp2_with fail
      refine (HB.out _).mono ?_
      rintro e w1 ⟨rfl, k1⟩
      have K1 := Lib.hid (K0.out.trans k1)
      have C3 := B3.out.kept k1 (fun h => by cases h)
      have C6 := B6.out.kept k1 (fun h => by cases h)
      have hlt3 := C3.lt
      have hz3 : w.heap.size ≤ w.heap.size := Nat.le_refl _
      clear k1 B3 B6 K0
      have c0 := C3.cell 0
      have c1 := C3.cell 1
      have c2 := C3.cell 2
      have c3 := C3.cell 3
      have c4 := C3.cell 4
      have f3 := C3.frozen 1
      have d0 := C6.cell 0
      have d1 := C6.cell 1
      have d2 := C6.cell 2
      have d3 := C6.cell 3
      have d4 := C6.cell 4
      have g0 := C6.frozen 0
      have g1 := C6.frozen 1
      have g2 := C6.frozen 2
      have g3 := C6.frozen 3
      have g4 := C6.frozen 4
      have hne : ¬ w.heap.size = w.heap.size + 1 := by omega
      have hne2 : ¬ w.heap.size + 1 = w.heap.size := by omega
      go_wp2_with fail
      refine bodyPost_ret (results_take _ _ (w.heap.size + 1) ⟨op, v, at_, n, data⟩ (.bool ok) rfl rfl ((((((C6.far (p := ⟨w.heap.size, 1, none⟩) hne2 (.int .i64 v)).set_ 0 _).set_ 1 _).set_ 2 _).set_ 3 _).set_ 4 _)) rfl ?_
      exact HP.out _ (((((((K1.out.setCell (.inr (by dsimp only; omega)) _).setCell (.inr (by dsimp only; omega)) _).setCell (.inr (by dsimp only; omega)) _).setCell (.inr (by dsimp only; omega)) _).setCell (.inr (by dsimp only; omega)) _).setCell (.inr (by dsimp only; omega)) _))
    · by_cases h97 : f = 97
      · have ht : takeL c f s = (numL s mostN).map fun (v : Nat) => { c with at_ := (v : Int) } := by unfold takeL; rw [if_neg hd, h97]; rfl
        have HP : Hid (∀ w', Kept [] w w' → TakePost c f s w (.returned (.tuple #[cmV { c with at_ := numI s mostN }, .bool (numL s mostN).isSome])) w') := fun w' k => by
          refine ⟨k, { c with at_ := numI s mostN }, ?_, fun c2 h => ?_⟩
          · rw [ht, Option.isSome_map]
          · rw [ht] at h
            obtain ⟨v, hb, rfl⟩ := Option.map_eq_some_iff.1 h
            unfold numI
            rw [hb]
        have h105b : (((f.toNat : Nat) : Int) == 105) = false := by
          rw [beq_eq_false_iff_ne]
          intro h
          exact h105 (UInt8.toNat_inj.1 (by
            have e : (105 : UInt8).toNat = 105 := rfl
            omega))
        have h97b : f.toNat = 97 := by rw [h97]; rfl
        clear ht
        generalize TakePost c f s w = Q at *
        generalize numI s mostN = v at *
        generalize (numL s mostN).isSome = ok at *
        generalize f.toNat = fn at *
        obtain ⟨op, id, at_, n, data⟩ := c
        unfold cmV at HP ⊢
        dsimp only at HP ⊢
        have K0 := Lib.hid (((Kept.refl [] w).alloc (.cells #[.string ⟨op.toArray⟩, .int .i64 id, .int .i64 at_, .int .i64 n, .string ⟨data.toArray⟩] 23)).alloc (.cells #[.string ⟨#[]⟩, .int .i64 0, .int .i64 0, .int .i64 0, .string ⟨#[]⟩] 23))
        have B3 := Lib.hid ((Blk.new w 23 #[.string ⟨op.toArray⟩, .int .i64 id, .int .i64 at_, .int .i64 n, .string ⟨data.toArray⟩]).alloc (.cells #[.string ⟨#[]⟩, .int .i64 0, .int .i64 0, .int .i64 0, .string ⟨#[]⟩] 23))
        have B6 := Lib.hid (blk_new' (g := w.heap.size + 1) (w := w.alloc (.cells #[.string ⟨op.toArray⟩, .int .i64 id, .int .i64 at_, .int .i64 n, .string ⟨data.toArray⟩] 23)) (t := 23) (cs := #[.string ⟨#[]⟩, .int .i64 0, .int .i64 0, .int .i64 0, .string ⟨#[]⟩]) (by simp))
        unfold mostN at HB
        go_enter Tryd.func22, Tryd.ntmps22
        go_wp2_with fail
        refine (HB.out _).mono ?_
        rintro e w1 ⟨rfl, k1⟩
        have K1 := Lib.hid (K0.out.trans k1)
        have C3 := B3.out.kept k1 (fun h => by cases h)
        have C6 := B6.out.kept k1 (fun h => by cases h)
        have hlt3 := C3.lt
        have hz3 : w.heap.size ≤ w.heap.size := Nat.le_refl _
        clear k1 B3 B6 K0
        have c0 := C3.cell 0
        have c1 := C3.cell 1
        have c2 := C3.cell 2
        have c3 := C3.cell 3
        have c4 := C3.cell 4
        have f3 := C3.frozen 2
        have d0 := C6.cell 0
        have d1 := C6.cell 1
        have d2 := C6.cell 2
        have d3 := C6.cell 3
        have d4 := C6.cell 4
        have g0 := C6.frozen 0
        have g1 := C6.frozen 1
        have g2 := C6.frozen 2
        have g3 := C6.frozen 3
        have g4 := C6.frozen 4
        have hne : ¬ w.heap.size = w.heap.size + 1 := by omega
        have hne2 : ¬ w.heap.size + 1 = w.heap.size := by omega
        go_wp2_with fail
        refine bodyPost_ret (results_take _ _ (w.heap.size + 1) ⟨op, id, v, n, data⟩ (.bool ok) rfl rfl ((((((C6.far (p := ⟨w.heap.size, 2, none⟩) hne2 (.int .i64 v)).set_ 0 _).set_ 1 _).set_ 2 _).set_ 3 _).set_ 4 _)) rfl ?_
        exact HP.out _ (((((((K1.out.setCell (.inr (by dsimp only; omega)) _).setCell (.inr (by dsimp only; omega)) _).setCell (.inr (by dsimp only; omega)) _).setCell (.inr (by dsimp only; omega)) _).setCell (.inr (by dsimp only; omega)) _).setCell (.inr (by dsimp only; omega)) _))
      · have ht : takeL c f s = (numL s mostN).map fun (v : Nat) => { c with n := (v : Int) } := by unfold takeL; rw [if_neg hd]; simp only [if_neg h105, if_neg h97]
        have HP : Hid (∀ w', Kept [] w w' → TakePost c f s w (.returned (.tuple #[cmV { c with n := numI s mostN }, .bool (numL s mostN).isSome])) w') := fun w' k => by
          refine ⟨k, { c with n := numI s mostN }, ?_, fun c2 h => ?_⟩
          · rw [ht, Option.isSome_map]
          · rw [ht] at h
            obtain ⟨v, hb, rfl⟩ := Option.map_eq_some_iff.1 h
            unfold numI
            rw [hb]
        have h105b : (((f.toNat : Nat) : Int) == 105) = false := by
          rw [beq_eq_false_iff_ne]
          intro h
          exact h105 (UInt8.toNat_inj.1 (by
            have e : (105 : UInt8).toNat = 105 := rfl
            omega))
        have h97b : (((f.toNat : Nat) : Int) == 97) = false := by
          rw [beq_eq_false_iff_ne]
          intro h
          exact h97 (UInt8.toNat_inj.1 (by
            have e : (97 : UInt8).toNat = 97 := rfl
            omega))
        clear ht
        generalize TakePost c f s w = Q at *
        generalize numI s mostN = v at *
        generalize (numL s mostN).isSome = ok at *
        generalize f.toNat = fn at *
        obtain ⟨op, id, at_, n, data⟩ := c
        unfold cmV at HP ⊢
        dsimp only at HP ⊢
        have K0 := Lib.hid (((Kept.refl [] w).alloc (.cells #[.string ⟨op.toArray⟩, .int .i64 id, .int .i64 at_, .int .i64 n, .string ⟨data.toArray⟩] 23)).alloc (.cells #[.string ⟨#[]⟩, .int .i64 0, .int .i64 0, .int .i64 0, .string ⟨#[]⟩] 23))
        have B3 := Lib.hid ((Blk.new w 23 #[.string ⟨op.toArray⟩, .int .i64 id, .int .i64 at_, .int .i64 n, .string ⟨data.toArray⟩]).alloc (.cells #[.string ⟨#[]⟩, .int .i64 0, .int .i64 0, .int .i64 0, .string ⟨#[]⟩] 23))
        have B6 := Lib.hid (blk_new' (g := w.heap.size + 1) (w := w.alloc (.cells #[.string ⟨op.toArray⟩, .int .i64 id, .int .i64 at_, .int .i64 n, .string ⟨data.toArray⟩] 23)) (t := 23) (cs := #[.string ⟨#[]⟩, .int .i64 0, .int .i64 0, .int .i64 0, .string ⟨#[]⟩]) (by simp))
        unfold mostN at HB
        go_enter Tryd.func22, Tryd.ntmps22
        go_wp2_with fail
        refine (HB.out _).mono ?_
        rintro e w1 ⟨rfl, k1⟩
        have K1 := Lib.hid (K0.out.trans k1)
        have C3 := B3.out.kept k1 (fun h => by cases h)
        have C6 := B6.out.kept k1 (fun h => by cases h)
        have hlt3 := C3.lt
        have hz3 : w.heap.size ≤ w.heap.size := Nat.le_refl _
        clear k1 B3 B6 K0
        have c0 := C3.cell 0
        have c1 := C3.cell 1
        have c2 := C3.cell 2
        have c3 := C3.cell 3
        have c4 := C3.cell 4
        have f3 := C3.frozen 3
        have d0 := C6.cell 0
        have d1 := C6.cell 1
        have d2 := C6.cell 2
        have d3 := C6.cell 3
        have d4 := C6.cell 4
        have g0 := C6.frozen 0
        have g1 := C6.frozen 1
        have g2 := C6.frozen 2
        have g3 := C6.frozen 3
        have g4 := C6.frozen 4
        have hne : ¬ w.heap.size = w.heap.size + 1 := by omega
        have hne2 : ¬ w.heap.size + 1 = w.heap.size := by omega
        go_wp2_with fail
        refine bodyPost_ret (results_take _ _ (w.heap.size + 1) ⟨op, id, at_, v, data⟩ (.bool ok) rfl rfl ((((((C6.far (p := ⟨w.heap.size, 3, none⟩) hne2 (.int .i64 v)).set_ 0 _).set_ 1 _).set_ 2 _).set_ 3 _).set_ 4 _)) rfl ?_
        exact HP.out _ (((((((K1.out.setCell (.inr (by dsimp only; omega)) _).setCell (.inr (by dsimp only; omega)) _).setCell (.inr (by dsimp only; omega)) _).setCell (.inr (by dsimp only; omega)) _).setCell (.inr (by dsimp only; omega)) _).setCell (.inr (by dsimp only; omega)) _))
end Go.Proofs.YtjdambplggiphaaDoor
