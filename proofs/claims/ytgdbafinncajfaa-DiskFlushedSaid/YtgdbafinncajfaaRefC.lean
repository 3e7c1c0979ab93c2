/- The reference's disk, its walks (third part): Write whole, Flush, Restart. -/
import Derived.Test.YtgdbafinncajfaaRefB
namespace Go.Proofs.Ytgdbafinncajfaa
open Go.RowKit

set_option maxHeartbeats 1000000 in
theorem ref_Write (w : World) (g : Nat) (F : List Nat) (d : D) (h : RD w g F d) (at_ : Int) (data : List UInt8) (hdl : data.length ≤ 140737488351232) (hps : d.ps.length ≤ 100000000) :
    Calls Try.prog 40 #[.pointer (some ⟨g, 0, none⟩), .int .i64 at_, .string ⟨data.toArray⟩] w fun e w' => e = .returned (.int .i64 (d.write at_ data).1) ∧ (∃ F', RD w' g F' (d.write at_ data).2 ∧ ∀ x ∈ F', x ∈ F ∨ w.heap.size ≤ x) ∧ Kept F w w' := by
  cases hd : d.dead
  · by_cases h64 : data.length % 64 = 0
    · rcases thereE_cases d.ss.length at_ (data.length / 64 : Nat) with ⟨ht, hno⟩ | ⟨ht, h1, h2, h3⟩
      · have HW : Hid (d.write at_ data = (2, d)) := by
          unfold Hid D.write
          rw [if_neg (by rw [hd]; decide), if_neg (by omega), if_pos (by rw [ht]; decide)]
        obtain ⟨A, a, B, b, c0, c1, c2, c3, fz⟩ := h.open
        rw [hd] at c3
        have q1 : ((data.length : Nat) : Int) % 64 = 0 := by omega
        have Ht : Hid (thereB d.ss.length at_ ((data.length : Int) / 64) = false) := thereB_no (by omega)
        clear c0 c1 c2 fz hd ht h64 hno
        go_enter Try.func40, Try.ntmps40
        go_wp2_with fail
        refine (ref_there _ _ _ _ h _ _).mono ?_
        rintro e w' ⟨rfl, rfl⟩
        rw [Ht.out]
        go_wp2
        go_ret
        rw [HW.out]
        exact ⟨rfl, ⟨F, h, fun x hx => .inl hx⟩, Kept.refl _ _⟩
      · obtain ⟨k, rfl⟩ := Int.eq_ofNat_of_zero_le h1
        have HW : d.write (k : Int) data = (wrE (D.wr data k (data.length / 64) 0 d), (D.wr data k (data.length / 64) 0 d).2) := by
          unfold D.write wrE
          rw [if_neg (by rw [hd]; decide), if_neg (by omega), if_neg (by rw [ht]; decide)]
          rfl
        rw [HW]
        exact ref_Write_loop w g F d h k (data.length / 64) data hd (by omega) ht hps
    · have HW : Hid (d.write at_ data = (1, d)) := by simp [Hid, D.write, hd, h64]
      obtain ⟨A, a, B, b, c0, c1, c2, c3, fz⟩ := h.open
      rw [hd] at c3
      have q1 : (((data.length : Nat) : Int) % 64 != 0) = true := by simp; omega
      clear c0 c1 c2 fz hd h64
      go_enter Try.func40, Try.ntmps40
      go_wp2
      go_ret
      rw [HW.out]
      exact ⟨rfl, ⟨F, h, fun x hx => .inl hx⟩, Kept.refl _ _⟩
  · have HW : Hid (d.write at_ data = (41, d)) := by simp [Hid, D.write, hd]
    obtain ⟨A, a, B, b, c0, c1, c2, c3, fz⟩ := h.open
    rw [hd] at c3
    clear c0 c1 c2 fz hd
    go_enter Try.func40, Try.ntmps40
    go_wp2
    go_ret
    rw [HW.out]
    exact ⟨rfl, ⟨F, h, fun x hx => .inl hx⟩, Kept.refl _ _⟩

theorem RDx.store {W w2 : World} {g gs cs : Nat} {vS vP : Value} {d : D} (h : RDx W g vS vP d) (hv : vS = .slice (some ⟨gs, 0, none⟩) d.ss.length cs) {pa : Nat} {pd : List UInt8} (_hpa : pa < d.ss.length) (h64 : pd.length = 64)
    (hw : w2 = W.setCell ⟨gs, pa, none⟩ (.string ⟨pd.toArray⟩)) : RDx w2 g vS vP { d with ss := d.ss.set pa pd } := by
  have hs := secs_set (k := pa) (x := pd) (show Go.Proofs.Ytgdbafinncajfaa.secs d.ss d.ss.length from ⟨rfl, h.ok.s64⟩) h64
  have hS := h.secs
  rw [hv] at hS
  have hS2 := (hS.stored pa (.string ⟨pd.toArray⟩)).1
  have hgs : gs ≠ g := own_ne hS h.blk (by decide) gs rfl
  subst hw
  refine ⟨⟨hs.2, by rw [hs.1]; exact h.ok.few, h.ok.p64, fun p hp => by rw [hs.1]; exact h.ok.pat p hp, h.ok.fuse⟩, h.blk.far (by exact hgs.symm) _, ?_, own_set h.pend (fun k e hk => own_own_ne h.pend hS (by decide) k e (by rw [hk]; rfl)) _⟩
  rw [hs.1, hv]
  have e : (d.ss.set pa pd).map str = (d.ss.map str).set pa (.string ⟨pd.toArray⟩) := by rw [List.map_set]; rfl
  rw [e]
  exact hS2

set_option maxHeartbeats 1000000 in
theorem ref_Flush (w : World) (g : Nat) (F : List Nat) (d : D) (h : RD w g F d) :
    Calls Try.prog 41 #[.pointer (some ⟨g, 0, none⟩)] w fun e w' => e = .returned (.int .i64 d.flush.1) ∧ (∃ F', RD w' g F' d.flush.2 ∧ ∀ x ∈ F', x ∈ F) ∧ Kept F w w' := by
  obtain ⟨A, a, B, b, c0, c1, c2, c3, fz⟩ := h.open
  clear c0 c1 c2 fz
  cases hd : d.dead
  · rw [hd] at c3
    cases ht : d.thing.1
    · have HF : Hid (d.flush = (41, d.thing.2)) := by simp [Hid, D.flush, hd, ht]
      have Ht := Lib.hid ht
      have Hd := Lib.hid hd
      clear ht hd
      go_enter Try.func41, Try.ntmps41
      go_wp2_with fail
      refine (ref_thing w g F d h Hd.out).mono ?_
      rintro e w1 ⟨rfl, h1, h2⟩
      rw [Ht.out]
      go_wp2
      go_ret
      rw [HF.out]
      exact ⟨rfl, ⟨F, h1, fun x hx => hx⟩, h2.mono (fun x hx => .inl (by simp at hx; subst hx; exact h.mem_self))⟩
    · have HF : Hid (d.flush = (0, d.thing.2.stand fun _ => true)) := by simp [Hid, D.flush, hd, ht]
      have Ht := Lib.hid ht
      have Hd := Lib.hid hd
      clear ht hd
      go_enter Try.func41, Try.ntmps41
      go_wp2_with fail
      refine (ref_thing w g F d h Hd.out).mono ?_
      rintro e w1 ⟨rfl, h1, h2⟩
      rw [Ht.out]
      have hgF := h.mem_self
      generalize hd1 : d.thing.2 = d1 at *
      clear hd1
      obtain ⟨vS, vP, hx, hFe⟩ := h1
      obtain ⟨B1, b1, hvP, _⟩ := own_slice hx.pend
      have plen := own_max hx.pend
      unfold maxLen at plen
      have Hx := Lib.hid hx
      have HvP := Lib.hid hvP
      have HFe := Lib.hid hFe
      clear hx hvP hFe
      go_wp2
      go_loopw [4] (fun i wr => ∃ (k : Nat) (ss : List (List UInt8)), k ≤ d1.ps.length ∧ i = .int .i64 k ∧ Hid (RDx wr g vS vP { d1 with ss := ss }) ∧ Hid (standL (fun _ => true) 0 d1.ps d1.ss = standL (fun _ => true) k (d1.ps.drop k) ss) ∧ Hid (ss.length = d1.ss.length) ∧ Kept vS.ownBlock.toList w1 wr) (fun i _ => d1.ps.length - (intOf i).toNat)
      case atStart => exact ⟨0, d1.ss, by omega, rfl, Hx.out, rfl, rfl, Kept.refl _ _⟩
      case round =>
        obtain ⟨k, ss, hk, rfl, HP, HS, HL, hkept⟩ := hrel
        have c1r := HP.out.blk.cell 1
        simp [HvP.out] at c1r
        by_cases hlt : k < d1.ps.length
        · have hPk := HP.out.pend
          obtain ⟨gp, cp, hvp, _⟩ := own_some hPk (by show 0 < d1.ps.length; omega)
          rw [hvp] at hPk
          have hat := own_at (f := pcells) (l := d1.ps) hPk (fun _ => rfl) k 0 hlt (by decide) rfl
          have hdt := own_at (f := pcells) (l := d1.ps) hPk (fun _ => rfl) k 1 hlt (by decide) rfl
          have hpat := HP.out.ok.pat d1.ps[k] (List.getElem_mem hlt)
          have H64 := Lib.hid (HP.out.ok.p64 d1.ps[k] (List.getElem_mem hlt))
          have HDR := Lib.hid (List.drop_eq_getElem_cons hlt)
          clear hPk
          generalize d1.ps[k] = p at *
          obtain ⟨pa, pd⟩ := p
          simp only at hpat
          rw [HvP.out] at hvp
          injection hvp with hB1 _ hB3
          subst hB1
          subst hB3
          simp at hat
          obtain ⟨gs, cs, hvs, _⟩ := own_some HP.out.secs (by show 0 < ss.length; omega)
          have HVS := Lib.hid hvs
          have c0r := HP.out.blk.cell 0
          simp [hvs] at c0r
          have hSo := HP.out.secs
          rw [hvs] at hSo
          have hsc := hSo.cellAt pa (by show pa < ss.length * 1; omega)
          have hsf := hSo.frozenAt pa
          simp [hpat] at hsc
          clear hvs hSo
          have i1 : 0 ≤ (pa : Int) := by omega
          have i2 : (pa : Int) < (ss.length : Int) := by omega
          have i3 : 0 ≤ (k : Int) := by omega
          have i4 : (k : Int) < (d1.ps.length : Int) := by omega
          go_wp2
          refine still_tail 21 mixed (by kernel_rfl) ?_
          simp only [List.take_succ_cons, List.take_zero, List.drop_succ_cons, List.drop_zero]
          iterate 21 still_step
          refine wpStill_nil ?_
          go_wp2
          go_roundw
          case rel =>
            refine ⟨k + 1, ss.set pa pd, by omega, by go_num, ?_, ?_, ?_, ?_⟩
            · exact RDx.store (HP.out.kept ((Kept.refl [] wr).drew) (fun _ _ hx => by cases hx)) HVS.out hpat H64.out rfl
            · rw [Hid, HS.out, HDR.out, standL, if_pos rfl]
            · rw [Hid, List.length_set]; exact HL.out
            · exact (hkept.drew).setCell (.inl (by rw [HVS.out]; simp [Value.ownBlock])) _
          case measure => simp [intOf]; omega
        · have HE : Hid (standL (fun _ => true) 0 d1.ps d1.ss = ss) := by
            rw [Hid, HS.out, List.drop_eq_nil_of_le (by omega), standL]
          have fz := HP.out.blk.frozen 1
          go_wp2
          go_ret
          rw [HF.out]
          have hs := HP.out.blk.set_ 1 (.slice none 0 0)
          simp at hs
          have hne := own_ne HP.out.secs HP.out.blk (by decide)
          have e : d1.stand (fun _ => true) = { d1 with ss := ss, ps := [] } := by rw [D.stand, HE.out]
          refine ⟨rfl, ⟨_, ⟨vS, .slice none 0 0, ?_, rfl⟩, fun x hx => by rw [HFe.out]; simp [Value.ownBlock] at hx ⊢; rcases hx with h | h <;> simp [h]⟩, ?_⟩
          · show RDx _ g vS _ (d1.stand fun _ => true)
            rw [e]
            exact ⟨⟨HP.out.ok.s64, HP.out.ok.few, (fun _ h => by cases h), (fun _ h => by cases h), HP.out.ok.fuse⟩, hs, own_set HP.out.secs hne _, World.ownsRow_nil _ _ _ _⟩
          · refine ((h2.mono (fun x hx => .inl (by simp at hx; subst hx; exact hgF))).trans (hkept.mono fun x hx => .inl ?_)).setCell (.inl hgF) _
            rw [HFe.out]; simp at hx ⊢; simp [hx]
  · have HF : Hid (d.flush = (41, d)) := by simp [Hid, D.flush, hd]
    rw [hd] at c3
    clear hd
    go_enter Try.func41, Try.ntmps41
    go_wp2
    go_ret
    rw [HF.out]
    exact ⟨rfl, ⟨F, h, fun x hx => hx⟩, Kept.refl _ _⟩

theorem RDx.ended {wr : World} {g : Nat} {vS vP : Value} {d : D} {ss : List (List UInt8)} {kl : List Bool} {F : List Nat} (h : RDx wr g vS vP { d with ss := ss }) (he : standL (fun i => kl.getD i false) 0 d.ps d.ss = ss) (hF : F = g :: (vS.ownBlock.toList ++ vP.ownBlock.toList)) :
    ∃ F', RD (((wr.setCell ⟨g, 1, none⟩ (.slice none 0 0)).setCell ⟨g, 2, none⟩ (.int .i64 (-1))).setCell ⟨g, 3, none⟩ (.bool false)) g F' (d.restart kl) ∧ ∀ x ∈ F', x ∈ F := by
  have hs := h.blk.set_ 1 (.slice none 0 0)
  simp at hs
  have p1 : RD (wr.setCell ⟨g, 1, none⟩ (.slice none 0 0)) g (g :: vS.ownBlock.toList) (d.stand fun i => kl.getD i false) := by
    refine ⟨vS, .slice none 0 0, ?_, by simp [Value.ownBlock]⟩
    rw [D.stand, he]
    exact ⟨⟨h.ok.s64, h.ok.few, (fun _ h => by cases h), (fun _ h => by cases h), h.ok.fuse⟩, hs, own_set h.secs (own_ne h.secs h.blk (by decide)) _, World.ownsRow_nil _ _ _ _⟩
  refine ⟨_, (p1.setFuse (-1) (by decide) (by decide)).setDead false, fun x hx => ?_⟩
  rw [hF]
  simp at hx ⊢
  rcases hx with h | h <;> simp [h]

set_option maxHeartbeats 2000000 in
theorem ref_Restart (w : World) (g : Nat) (F : List Nat) (d : D) (h : RD w g F d) (Ak : Option Addr) (ck : Nat) (kl : List Bool) (hkn : kl.length ≤ maxLen)
    (hkl : ∀ i, (hi : i < kl.length) → ∃ b o, Ak = some ⟨b, o, none⟩ ∧ b < w.heap.size ∧ b ∉ F ∧ w.cell? ⟨b, o + i, none⟩ = some (.bool kl[i])) :
    Calls Try.prog 42 #[.pointer (some ⟨g, 0, none⟩), .slice Ak kl.length ck] w fun e w' => e = .returned (.tuple #[]) ∧ (∃ F', RD w' g F' (d.restart kl) ∧ ∀ x ∈ F', x ∈ F) ∧ Kept F w w' := by
  unfold maxLen at hkn
  have hgF := h.mem_self
  obtain ⟨vS, vP, hx, hFe⟩ := h
  obtain ⟨B1, b1, hvP, _⟩ := own_slice hx.pend
  have plen := own_max hx.pend
  unfold maxLen at plen
  have Hx := Lib.hid hx
  have HvP := Lib.hid hvP
  have HFe := Lib.hid hFe
  have Hkl := Lib.hid hkl
  clear hx hvP hFe hkl
  go_enter Try.func42, Try.ntmps42
  go_wp2
  go_loopw [4] (fun i wr => ∃ (k : Nat) (ss : List (List UInt8)), k ≤ d.ps.length ∧ k ≤ kl.length ∧ i = .int .i64 k ∧ Hid (RDx wr g vS vP { d with ss := ss }) ∧ Hid (standL (fun i => kl.getD i false) 0 d.ps d.ss = standL (fun i => kl.getD i false) k (d.ps.drop k) ss) ∧ Hid (ss.length = d.ss.length) ∧ Kept vS.ownBlock.toList w wr) (fun i _ => d.ps.length - (intOf i).toNat)
  case atStart => exact ⟨0, d.ss, by omega, by omega, rfl, Hx.out, rfl, rfl, Kept.refl _ _⟩
  case round =>
    obtain ⟨k, ss, hk, hk2, rfl, HP, HS, HL, hkept⟩ := hrel
    have c1r := HP.out.blk.cell 1
    simp [HvP.out] at c1r
    by_cases hboth : k < d.ps.length ∧ k < kl.length
    · obtain ⟨hlt, hlt2⟩ := hboth
      have hPk := HP.out.pend
      obtain ⟨gp, cp, hvp, _⟩ := own_some hPk (by show 0 < d.ps.length; omega)
      rw [hvp] at hPk
      have hat := own_at (f := pcells) (l := d.ps) hPk (fun _ => rfl) k 0 hlt (by decide) rfl
      have hdt := own_at (f := pcells) (l := d.ps) hPk (fun _ => rfl) k 1 hlt (by decide) rfl
      have hpat := HP.out.ok.pat d.ps[k] (List.getElem_mem hlt)
      have H64 := Lib.hid (HP.out.ok.p64 d.ps[k] (List.getElem_mem hlt))
      have HDR := Lib.hid (List.drop_eq_getElem_cons hlt)
      clear hPk
      generalize d.ps[k] = p at *
      obtain ⟨pa, pd⟩ := p
      simp only at hpat
      rw [HvP.out] at hvp
      injection hvp with hB1 _ hB3
      subst hB1
      subst hB3
      simp at hat
      obtain ⟨kb, ko, hAk, hkb, hkF, hkc⟩ := Hkl.out k hlt2
      have hkc2 := hkept.cell hkc (fun hm => hkF (by rw [HFe.out]; simp at hm ⊢; simp [hm]))
      have hbe : kl.getD k false = kl[k] := by simp [List.getD, hlt2]
      have Hbe := Lib.hid hbe
      subst hAk
      clear hkc hbe
      generalize kl[k] = bit at *
      obtain ⟨gs, cs, hvs, _⟩ := own_some HP.out.secs (by show 0 < ss.length; omega)
      have HVS := Lib.hid hvs
      have c0r := HP.out.blk.cell 0
      simp [hvs] at c0r
      have hSo := HP.out.secs
      rw [hvs] at hSo
      have hsc := hSo.cellAt pa (by show pa < ss.length * 1; omega)
      have hsf := hSo.frozenAt pa
      simp [hpat] at hsc
      clear hvs hSo
      have i1 : 0 ≤ (pa : Int) := by omega
      have i2 : (pa : Int) < (ss.length : Int) := by omega
      have i3 : 0 ≤ (k : Int) := by omega
      have i4 : (k : Int) < (d.ps.length : Int) := by omega
      cases bit
      · go_wp2
        go_roundw
        case rel =>
          refine ⟨k + 1, ss, by omega, by omega, by go_num, HP.out, ?_, HL.out, hkept⟩
          rw [Hid, HS.out, HDR.out, standL, if_neg (by rw [Hbe.out]; decide)]
        case measure => simp [intOf]; omega
      · go_wp2
        refine still_tail 21 mixed (by kernel_rfl) ?_
        simp only [List.take_succ_cons, List.take_zero, List.drop_succ_cons, List.drop_zero]
        iterate 21 still_step
        refine wpStill_nil ?_
        go_wp2
        go_roundw
        case rel =>
          refine ⟨k + 1, ss.set pa pd, by omega, by omega, by go_num, ?_, ?_, ?_, ?_⟩
          · exact RDx.store (HP.out.kept ((Kept.refl [] wr).drew) (fun _ _ hx => by cases hx)) HVS.out hpat H64.out rfl
          · rw [Hid, HS.out, HDR.out, standL, if_pos Hbe.out]
          · rw [Hid, List.length_set]; exact HL.out
          · exact (hkept.drew).setCell (.inl (by rw [HVS.out]; simp [Value.ownBlock])) _
        case measure => simp [intOf]; omega
    · have HE : Hid (standL (fun i => kl.getD i false) 0 d.ps d.ss = ss) := by
        rw [Hid, HS.out]
        by_cases h1 : k < d.ps.length
        · refine standL_more _ _ _ _ (fun j hj => ?_)
          rw [List.getD_eq_getElem?_getD, List.getElem?_eq_none (by omega)]; rfl
        · rw [List.drop_eq_nil_of_le (by omega), standL]
      have f1 := HP.out.blk.frozen 1
      have f2 := HP.out.blk.frozen 2
      have f3 := HP.out.blk.frozen 3
      have c2r := HP.out.blk.cell 2
      have c3r := HP.out.blk.cell 3
      simp at c2r c3r
      by_cases h1 : k < d.ps.length
      · have h2 : ¬ k < kl.length := fun h2 => hboth ⟨h1, h2⟩
        clear hboth
        go_wp2
        go_end0
        refine ⟨rfl, HP.out.ended HE.out HFe.out, ?_⟩
        exact ((((hkept.mono fun x hx => .inl (by rw [HFe.out]; simp at hx ⊢; simp [hx])).setCell (.inl hgF) _).setCell (.inl hgF) _).setCell (.inl hgF) _)
      · clear hboth
        go_wp2
        go_end0
        refine ⟨rfl, HP.out.ended HE.out HFe.out, ?_⟩
        exact ((((hkept.mono fun x hx => .inl (by rw [HFe.out]; simp at hx ⊢; simp [hx])).setCell (.inl hgF) _).setCell (.inl hgF) _).setCell (.inl hgF) _)
end Go.Proofs.Ytgdbafinncajfaa
