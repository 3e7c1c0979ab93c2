/- The program's disk, its walks (second part): a sector's place, all bytes, which writes stand. -/
import Derived.Test.YtdifolhkbkaamaaDiskA
namespace Go.Proofs.Ytdifolhkbkaamaa
open Go.RowKit

set_option maxHeartbeats 400000 in
theorem disk_sector (w : World) (g b n c at_ : Nat) (hc : w.cell? ⟨g, 0, none⟩ = some (.slice (some ⟨b, 0, none⟩) (64 * n) c)) (hcap : 64 * n ≤ c) (hn : n ≤ 1048576) (hat : at_ < n) :
    Calls Try.prog 43 #[.pointer (some ⟨g, 0, none⟩), .int .i64 (at_ : Int)] w fun e w' => e = .returned (.slice (some ⟨b, at_ * 64, none⟩) 64 (c - at_ * 64)) ∧ w' = w := by
  have hne : ¬ c = at_ * 64 := by omega
  go_enter Try.func43, Try.ntmps43
  go_wp2
  go_ret
  exact ⟨ret_val (congrArg (fun m => Value.slice (some ⟨b, at_ * 64, none⟩) m (c - at_ * 64)) (by omega)), rfl⟩

theorem PDx.store {W w2 : World} {g gb cb : Nat} {vB vP : Value} {fu : Int} {d : D} (h : PDx W g vB vP fu d) (hv : vB = .slice (some ⟨gb, 0, none⟩) (64 * d.ss.length) cb) {rest : List Value}
    (hb : Blk W gb 5 (d.ss.flatten.map bv ++ rest).toArray) (hrest : 64 * d.ss.length + rest.length = cb) (hcm : cb ≤ maxLen) {pa : Nat} {pd : List UInt8} (hpa : pa < d.ss.length) (h64 : pd.length = 64)
    (hb2 : Blk w2 gb 5 (splice (d.ss.flatten.map bv ++ rest) (pa * 64) (pd.map bv)).toArray) (hk : Kept [gb] W w2) : PDx w2 g vB vP fu { d with ss := d.ss.set pa pd } := by
  have hs := secs_set (k := pa) (x := pd) (show secs d.ss d.ss.length from ⟨rfl, h.ok.s64⟩) h64
  have hfl := flat_len d.ss h.ok.s64
  refine ⟨⟨hs.2, by rw [hs.1]; exact h.ok.few, h.ok.p64, fun p hp => by rw [hs.1]; exact h.ok.pat p hp, h.ok.fuse⟩, h.blk.kept hk (by simpa using (hb.ne_ h.blk (by decide)).symm), h.fuse, ?_, hk.owns h.pend (fun k e => by simpa using own_ne h.pend hb (by decide) k e)⟩
  rw [splice_app _ _ _ _ (by rw [List.length_map, List.length_map, hfl, h64]; omega)] at hb2
  rw [hv, hs.1]
  refine blk_own (rest := rest) ?_ (by rw [List.length_map, flat_len _ hs.2, hs.1]) hrest hcm
  have e : (d.ss.set pa pd).flatten.map bv = splice (d.ss.flatten.map bv) (pa * 64) (pd.map bv) := by
    rw [flat_set _ _ _ h.ok.s64 hpa]
    simp [splice, h64]
  rw [e]
  exact hb2

theorem mixed : Try.prog.follows .mixedOrders = true := by kernel_rfl

theorem disk_Flush1 (i : Int) (w : World) : Calls Try.prog 31 #[.int .i64 i] w fun e w' => e = .returned (.bool true) ∧ w = w' := by
  go_enter Try.func31, Try.ntmps31
  go_wp2
  go_ret
  exact ⟨rfl, rfl⟩

set_option maxHeartbeats 1000000 in
set_option maxRecDepth 8000 in
theorem disk_stand_all (w : World) (g : Nat) (vB vP : Value) (fu : Int) (d : D) (h : PDx w g vB vP fu d)  :
    Calls Try.prog 30 #[.pointer (some ⟨g, 0, none⟩), .func (.func 31) #[] #[]] w fun e w' => e = .returned (.tuple #[]) ∧ PDx w' g vB (.slice none 0 0) fu (d.stand (fun _ => true)) ∧ Kept (g :: vB.ownBlock.toList) w w' := by
  obtain ⟨A, a, hvB, ha⟩ := own_slice h.bytes
  obtain ⟨B, b, hvP, hb⟩ := own_slice h.pend
  have c1 := h.blk.cell 1
  simp [hvP] at c1
  have Hh := Lib.hid h
  have HvB := Lib.hid hvB
  have HvP := Lib.hid hvP
  clear h hvB hvP
  have few := Hh.out.ok.few
  have plen := own_max Hh.out.pend
  unfold maxLen at plen
  go_enter Try.func30, Try.ntmps30
  go_wp2
  go_loopw [11] (fun i w' => ∃ (k : Nat) (ss : List (List UInt8)), k ≤ d.ps.length ∧ i = .int .i64 k ∧ Hid (PDx w' g vB vP fu { d with ss := ss }) ∧ Hid (standL (fun _ => true) 0 d.ps d.ss = standL (fun _ => true) k (d.ps.drop k) ss) ∧ Hid (ss.length = d.ss.length) ∧ Kept vB.ownBlock.toList w w') (fun i _ => d.ps.length - (intOf i).toNat)
  case atStart => exact ⟨0, d.ss, by omega, rfl, Hh.out, rfl, rfl, Kept.refl _ _⟩
  case round =>
    obtain ⟨k, ss, hk, rfl, HP, HS, HL, hkept⟩ := hrel
    by_cases hlt : k < d.ps.length
    · have hPk := HP.out.pend
      obtain ⟨gp, cp, hvp, _⟩ := own_some hPk (by show 0 < d.ps.length; omega)
      rw [hvp] at hPk
      have hat := own_at (f := pcells) (l := d.ps) hPk (fun _ => rfl) k 0 hlt (by decide) rfl
      have hdt := own_at (f := pcells) (l := d.ps) hPk (fun _ => rfl) k 1 hlt (by decide) rfl
      have hpat := HP.out.ok.pat d.ps[k] (List.getElem_mem hlt)
      have hp64 := HP.out.ok.p64 d.ps[k] (List.getElem_mem hlt)
      have hdr := List.drop_eq_getElem_cons hlt
      clear hPk
      generalize hpk : d.ps[k] = p at *
      obtain ⟨pa, pd⟩ := p
      simp only at hpat hp64 
      have HDR := Lib.hid hdr
      have HPK := Lib.hid hpk
      have H64 := Lib.hid hp64
      clear hdr hpk hp64
      rw [HvP.out] at hvp
      injection hvp with hB1 _ hB3
      subst hB1
      subst hB3
      simp at hat
      obtain ⟨gb, cb, hvb, hcb⟩ := own_some HP.out.bytes (by show 0 < 64 * ss.length; omega)
      have HVB := Lib.hid hvb
      have c0 := HP.out.blk.cell 0
      simp [hvb] at c0
      clear hvb
      go_wp2_with (first | (go_at_call 31; refine (disk_Flush1 _ _).mono ?_; rintro e w' ⟨rfl, rfl⟩))
      have hB1 := HP.out.bytes
      rw [HVB.out] at hB1
      obtain ⟨rest, hblk, hxl, hrest, hcm⟩ := own_blk hB1
      have hflt := HP.out.blk.lt
      have hgb : Blk (wr.alloc (.cells #[.int .i64 (pa : Int), .string ⟨pd.toArray⟩] 78)).drew gb 5 (ss.flatten.map bv ++ rest).toArray := hblk.alloc _
      have hcs : (wr.alloc (.cells #[.int .i64 (pa : Int), .string ⟨pd.toArray⟩] 78)).drew.cell? ⟨g, 0, none⟩ = some (.slice (some ⟨gb, 0, none⟩) (64 * ss.length) cb) := by
        rw [World.cell?_drew, World.cell?_alloc_lt _ _ _ (by exact hflt)]; exact c0
      refine still_tail 6 mixed (by kernel_rfl) ?_
      simp only [List.take_succ_cons, List.take_zero, List.drop_succ_cons, List.drop_zero]
      still_step
      still_step
      still_step
      still_call (disk_sector _ g gb ss.length cb pa hcs hcb (by have := HL.out; omega) hpat)
      still_step
      still_step
      refine wpStill_nil ?_
      refine wpList_copy_run rfl (.tmp 22) (.tmp 24) _ _ rfl _ _ rfl rfl _ (run_copy_str _ _ _ _ 5 Try.underlying57 (by kernel_rfl) _ _ _ _ gb (pa * 64) 5 (ss.flatten.map bv ++ rest) hgb pd (by rw [List.take_of_length_le]; rw [H64.out]; exact Nat.le_refl _) (fun _ => rfl) (by rw [List.length_append, hxl, H64.out]; omega)) ?_
      rintro w2 ⟨hb2, hk2⟩
      go_wp2
      go_roundw
      case rel =>
        refine ⟨k + 1, ss.set pa pd, by omega, by go_num, ?_, ?_, ?_, ?_⟩
        · exact PDx.store ((HP.out.kept ((Kept.refl [] wr).alloc _) (fun _ _ hx => by cases hx)).kept ((Kept.refl [] _).drew) (fun _ _ hx => by cases hx)) HVB.out hgb hrest hcm hpat H64.out hb2 hk2
        · rw [Hid, HS.out, HDR.out, standL, if_pos rfl]
        · rw [Hid, List.length_set]; exact HL.out
        · refine hkept.trans (((Kept.refl _ wr).alloc _).drew.trans (hk2.mono ?_))
          intro x hx
          rw [HVB.out]
          exact .inl (by simpa [Value.ownBlock] using hx)
      case measure => simp [intOf]; omega
    · have HE : Hid (standL (fun _ => true) 0 d.ps d.ss = ss) := by
        rw [Hid, HS.out, List.drop_eq_nil_of_le (by omega), standL]
      have fz := HP.out.blk.frozen 1
      have cc := HP.out.blk.cell 1
      simp [HvP.out] at cc
      go_wp2
      go_end0
      refine ⟨rfl, ?_, ?_⟩
      · have hs := HP.out.blk.set_ 1 (.slice none 0 0)
        simp at hs
        have hne := own_ne HP.out.bytes HP.out.blk (by decide)
        have e : d.stand (fun _ => true) = { d with ss := ss, ps := [] } := by rw [D.stand, HE.out]
        rw [e]
        exact ⟨⟨HP.out.ok.s64, HP.out.ok.few, (fun _ h => by cases h), (fun _ h => by cases h), HP.out.ok.fuse⟩, hs, HP.out.fuse, own_set HP.out.bytes hne _, World.ownsRow_nil _ _ _ _⟩
      · exact (hkept.mono (fun x hx => .inl (by simp; exact .inr (by simpa using hx)))).setCell (.inl (by simp)) _

theorem PDx.stood {w : World} {g : Nat} {vB : Value} {fu : Int} {d : D} {F : List Nat} (h : PDx w g vB (.slice none 0 0) fu d) (hF : ∀ x ∈ g :: vB.ownBlock.toList, x ∈ F) : ∃ F', PD w g F' d ∧ ∀ x ∈ F', x ∈ F :=
  ⟨_, ⟨vB, .slice none 0 0, fu, h, rfl⟩, fun x hx => hF x (by simpa [Value.ownBlock] using hx)⟩

theorem disk_stand_all' (w : World) (g : Nat) (F : List Nat) (d : D) (h : PD w g F d) :
    Calls Try.prog 30 #[.pointer (some ⟨g, 0, none⟩), .func (.func 31) #[] #[]] w fun e w' => e = .returned (.tuple #[]) ∧ (∃ F', PD w' g F' (d.stand fun _ => true) ∧ ∀ x ∈ F', x ∈ F) ∧ Kept F w w' := by
  obtain ⟨vB, vP, fu, h, rfl⟩ := h
  refine (disk_stand_all w g vB vP fu d h).mono ?_
  rintro e w' ⟨rfl, h1, h2⟩
  exact ⟨rfl, h1.stood (fun x hx => by simp at hx ⊢; rcases hx with h | h <;> simp [h]), h2.mono (fun x hx => .inl (by simp at hx ⊢; rcases hx with h | h <;> simp [h]))⟩

set_option maxHeartbeats 400000 in
theorem disk_Flush (w : World) (g : Nat) (F : List Nat) (d : D) (h : PD w g F d) :
    Calls Try.prog 16 #[.pointer (some ⟨g, 0, none⟩)] w fun e w' => e = .returned (.int .i64 d.flush.1) ∧ (∃ F', PD w' g F' d.flush.2 ∧ ∀ x ∈ F', x ∈ F) ∧ Kept F w w' := by
  obtain ⟨A, a, B, b, fu, c0, c1, c2, c3, fz, hf, hf1, hf2⟩ := h.open
  clear c0 c1 c2 fz hf
  cases hd : d.dead
  · have Hd := Lib.hid hd
    rw [hd] at c3
    clear hd
    cases ht : d.thing.1
    · have HF : Hid (d.flush = (41, d.thing.2)) := by simp [Hid, D.flush, Hd.out, ht]
      have Ht := Lib.hid ht
      clear ht
      go_enter Try.func16, Try.ntmps16
      go_wp2_with fail
      refine (disk_thing w g F d h).mono ?_
      rintro e w1 ⟨rfl, h1, h2⟩
      rw [Ht.out]
      go_wp2
      go_ret
      rw [HF.out]
      exact ⟨rfl, ⟨F, h1, fun x hx => hx⟩, h2.mono (fun x hx => .inl (by simp at hx; subst hx; exact h.mem_self))⟩
    · have HF : Hid (d.flush = (0, d.thing.2.stand fun _ => true)) := by simp [Hid, D.flush, Hd.out, ht]
      have Ht := Lib.hid ht
      clear ht
      go_enter Try.func16, Try.ntmps16
      go_wp2_with fail
      refine (disk_thing w g F d h).mono ?_
      rintro e w1 ⟨rfl, h1, h2⟩
      rw [Ht.out]
      go_wp2_with fail
      refine (disk_stand_all' w1 g F _ h1).mono ?_
      rintro e w2 ⟨rfl, h3, h4⟩
      go_wp2
      go_ret
      rw [HF.out]
      exact ⟨rfl, h3, (h2.mono (fun x hx => .inl (by simp at hx; subst hx; exact h.mem_self))).trans h4⟩
  · have HF : Hid (d.flush = (41, d)) := by simp [Hid, D.flush, hd]
    rw [hd] at c3
    clear hd
    go_enter Try.func16, Try.ntmps16
    go_wp2
    go_ret
    rw [HF.out]
    exact ⟨rfl, ⟨F, h, fun x hx => hx⟩, Kept.refl _ _⟩
theorem disk_Flush_nil (w : World) : Calls Try.prog 16 #[.pointer none] w fun e w' => e = .returned (.int .i64 1) ∧ w = w' := by
  go_enter Try.func16, Try.ntmps16
  go_wp2
  go_ret
  exact ⟨rfl, rfl⟩

end Go.Proofs.Ytdifolhkbkaamaa
