/- The reference's disk, its walks (second part): Bytes, Read, Write. -/
import Derived.Test.YtgdbafinncajfaaRefA
import Derived.Test.YtgdbafinncajfaaDiskC
namespace Go.Proofs.Ytgdbafinncajfaa
open Go.RowKit

theorem app_arr (a b : List UInt8) : (⟨a.toArray⟩ : ByteArray) ++ ⟨b.toArray⟩ = ⟨(a ++ b).toArray⟩ := by
  apply ByteArray.ext
  simp [ByteArray.data_append]

set_option maxHeartbeats 1000000 in
theorem ref_Bytes (w : World) (g : Nat) (F : List Nat) (d : D) (h : RD w g F d) :
    Calls Try.prog 24 #[.pointer (some ⟨g, 0, none⟩)] w fun e w' => e = .returned (str d.ss.flatten) ∧ w' = w := by
  obtain ⟨vS, vP, hx, hF⟩ := h
  have few := hx.ok.few
  have hfl := flat_len d.ss hx.ok.s64
  obtain ⟨A, a, hvS, _⟩ := own_slice hx.secs
  have c0 := hx.blk.cell 0
  simp [hvS] at c0
  have Hx := Lib.hid hx
  have HvS := Lib.hid hvS
  have Hfl := Lib.hid hfl
  clear hx hvS hF hfl
  go_enter Try.func24, Try.ntmps24
  go_wp2
  go_loop [3, 4] (fun s i => ∃ (k : Nat) (x : List UInt8), k ≤ d.ss.length ∧ i = .int .i64 k ∧ s = .string ⟨x.toArray⟩ ∧ x.length = 64 * k ∧ Hid (d.ss.flatten = x ++ (d.ss.drop k).flatten)) (fun _ i => d.ss.length - (intOf i).toNat)
  case atStart => exact ⟨0, [], by omega, rfl, rfl, rfl, rfl⟩
  case round =>
    obtain ⟨k, x, hk, rfl, rfl, hxl, HL⟩ := hrel
    by_cases hlt : k < d.ss.length
    · have hS := Hx.out.secs
      obtain ⟨gs, cs, hvs, _⟩ := own_some hS (by omega)
      rw [hvs] at hS
      have hs := hS.cells (g := gs) rfl k (str d.ss[k]) (by simp [hlt])
      rw [Addr.add_lit, Nat.zero_add] at hs
      have hs64 := Hx.out.ok.s64 d.ss[k] (List.getElem_mem hlt)
      have HDR := Lib.hid (List.drop_eq_getElem_cons hlt)
      clear hS
      rw [HvS.out] at hvs
      injection hvs with hB1 _ hB3
      subst hB1
      subst hB3
      generalize d.ss[k] = y at *
      unfold str at hs
      have Hxl := Lib.hid hxl
      have Hs64 := Lib.hid hs64
      have q1 : x.length ≤ 67108864 := by omega
      have q2 : y.length ≤ 64 := by omega
      clear hxl hs64
      go_wp2
      go_round
      case rel => exact ⟨k + 1, x ++ y, by omega, by go_num, congrArg Value.string (app_arr x y), by rw [List.length_append, Hxl.out, Hs64.out]; omega, by rw [Hid, HL.out, HDR.out]; simp⟩
      case measure => simp [intOf]; omega
    · have HN : Hid (d.ss.flatten = x) := by rw [Hid, HL.out, List.drop_eq_nil_of_le (by omega)]; simp
      have Hxl := Lib.hid hxl
      clear hxl
      go_wp2
      go_ret
      exact ⟨by rw [HN.out]; rfl, rfl⟩

def readL (d : D) (at_ n : Nat) : List UInt8 := ((List.range n).map fun i => lastP (at_ + i) d.ps (d.ss.getD (at_ + i) [])).flatten

set_option maxHeartbeats 1000000 in
theorem ref_Read_yes (w : World) (g : Nat) (F : List Nat) (d : D) (h : RD w g F d) (at_ n : Nat) (hd : d.dead = false) (hl : at_ + n ≤ d.ss.length) :
    Calls Try.prog 39 #[.pointer (some ⟨g, 0, none⟩), .int .i64 (at_ : Int), .int .i64 (n : Int)] w fun e w' => e = .returned (.tuple #[str (readL d at_ n), .int .i64 0]) ∧ w' = w := by
  have few := h.ok.few
  have h64 : Hid (∀ a, a < d.ss.length → (lastP a d.ps (d.ss.getD a [])).length = 64) := fun a ha => by
    have e := over_get a 1 d.ps [d.ss.getD a []] 0 rfl (by omega)
    have s := over_secs a 1 1 d.ps [d.ss.getD a []] ⟨rfl, fun s hs => by simp at hs; subst hs; simp [ha]; exact h.ok.s64 _ (List.getElem_mem ha)⟩ h.ok.p64
    have hm : (over a 1 d.ps [d.ss.getD a []]).getD 0 [] ∈ over a 1 d.ps [d.ss.getD a []] := by
      have h0 : 0 < (over a 1 d.ps [d.ss.getD a []]).length := by rw [s.1]; omega
      have h2 : (over a 1 d.ps [d.ss.getD a []]).getD 0 [] = (over a 1 d.ps [d.ss.getD a []])[0] := by rw [List.getD, List.getElem?_eq_getElem h0]; rfl
      rw [h2]
      exact List.getElem_mem _
    have := s.2 _ hm
    rw [e] at this
    simpa using this
  obtain ⟨A, a, B, b, _, _, _, c3, _⟩ := h.open
  rw [hd] at c3
  have HT := Lib.hid (thereB_yes (L := d.ss.length) (at_ := at_) (n := n) (by omega))
  clear hd
  go_enter Try.func39, Try.ntmps39
  go_wp2_with fail
  refine (ref_there _ _ _ _ h _ _).mono ?_
  rintro e w' ⟨rfl, rfl⟩
  rw [HT.out]
  go_wp2_with fail
  go_loop [9, 10] (fun s i => ∃ (k : Nat) (x : List UInt8), k ≤ n ∧ i = .int .i64 k ∧ s = .string ⟨x.toArray⟩ ∧ x.length ≤ 64 * k ∧ Hid (x = readL d at_ k)) (fun _ i => n - (intOf i).toNat)
  case atStart => exact ⟨0, [], by omega, rfl, rfl, Nat.le_refl _, rfl⟩
  case round =>
    obtain ⟨k, x, hk, rfl, rfl, hxl, HL⟩ := hrel
    by_cases hlt : k < n
    · have H64 := Lib.hid (h64.out (at_ + k) (by omega))
      go_wp2_with fail
      have hone := ref_One w g F d h (at_ + k) (by omega)
      rw [show ((at_ + k : Nat) : Int) = (at_ : Int) + k by omega] at hone
      refine hone.mono ?_
      rintro e w' ⟨rfl, rfl⟩
      have HN : Hid (x ++ lastP (at_ + k) d.ps (d.ss.getD (at_ + k) []) = readL d at_ (k + 1)) := by
        rw [Hid, HL.out, readL, readL, List.range_succ, List.map_append, List.flatten_append]; simp
      generalize lastP (at_ + k) d.ps (d.ss.getD (at_ + k) []) = y at *
      unfold str
      have q2 : y.length ≤ 64 := by rw [H64.out]; omega
      go_wp2
      go_round
      case rel => exact ⟨k + 1, x ++ y, by omega, by go_num, congrArg Value.string (app_arr x y), by rw [List.length_append, H64.out]; omega, HN⟩
      case measure => simp [intOf]; omega
    · obtain rfl : k = n := by omega
      go_wp2
      go_ret2
      exact ⟨by rw [← HL.out]; rfl, rfl⟩

theorem ref_Read (w : World) (g : Nat) (F : List Nat) (d : D) (h : RD w g F d) (at_ n : Int) :
    Calls Try.prog 39 #[.pointer (some ⟨g, 0, none⟩), .int .i64 at_, .int .i64 n] w fun e w' => e = .returned (.tuple #[str (d.read at_ n).1, .int .i64 (d.read at_ n).2]) ∧ w' = w := by
  cases hd : d.dead
  · rcases thereE_cases d.ss.length at_ n with ⟨ht, hno⟩ | ⟨ht, h1, h2, h3⟩
    · have HW : Hid (d.read at_ n = ([], 2)) := by
        unfold Hid D.read
        rw [if_neg (by rw [hd]; decide), if_pos (by rw [ht]; decide)]
      obtain ⟨A, a, B, b, _, _, _, c3, _⟩ := h.open
      rw [hd] at c3
      have HT := Lib.hid (thereB_no hno)
      clear hd ht hno
      go_enter Try.func39, Try.ntmps39
      go_wp2_with fail
      refine (ref_there _ _ _ _ h _ _).mono ?_
      rintro e w' ⟨rfl, rfl⟩
      rw [HT.out]
      go_wp2
      go_ret2
      rw [HW.out]
      exact ⟨rfl, rfl⟩
    · obtain ⟨k, rfl⟩ := Int.eq_ofNat_of_zero_le h1
      obtain ⟨m, rfl⟩ := Int.eq_ofNat_of_zero_le h2
      have HW : d.read (k : Int) (m : Int) = (readL d k m, 0) := by
        unfold D.read
        rw [if_neg (by rw [hd]; decide), if_neg (by rw [ht]; decide)]
        rw [readL, ← over_range d k m (by omega)]
        rfl
      rw [HW]
      exact ref_Read_yes w g F d h k m hd (by omega)
  · have HW : Hid (d.read at_ n = ([], 41)) := by simp [Hid, D.read, hd]
    obtain ⟨A, a, B, b, _, _, _, c3, _⟩ := h.open
    rw [hd] at c3
    clear hd
    go_enter Try.func39, Try.ntmps39
    go_wp2
    go_ret2
    rw [HW.out]
    exact ⟨rfl, rfl⟩
theorem infoRW : (Try.prog.info? 58).map (fun i => (i.zero, i.size, i.bytes)) = some (some (.agg #[.int .i64 0, .string ByteArray.empty]), 2, 24) := by kernel_rfl

theorem RDx.push {w1 w2 : World} {g : Nat} {vS vP : Value} {d : D} (h : RDx w1 g vS vP d) (hk : Kept vP.ownBlock.toList w1 w2) {gg cap : Nat} {p : Nat × List UInt8} (hp : p.1 < d.ss.length) (h64 : p.2.length = 64)
    (ho : w2.ownsRow 0 58 2 (.slice (some ⟨gg, 0, none⟩) (d.ps.length + 1) cap) (d.ps.length + 1) (d.ps.flatMap pcells ++ pcells p)) :
    RDx (w2.setCell ⟨g, 1, none⟩ (.slice (some ⟨gg, 0, none⟩) (d.ps.length + 1) cap)) g vS (.slice (some ⟨gg, 0, none⟩) (d.ps.length + 1) cap) { d with ps := d.ps ++ [p] } := by
  have hb2 := h.blk.kept hk (fun hm => own_ne h.pend h.blk (by decide) g (by simpa using hm) rfl)
  have hB2 := hk.owns h.secs (fun k e hm => own_own_ne h.secs h.pend (by decide) k e (by simpa using hm))
  have hs := hb2.set_ 1 (.slice (some ⟨gg, 0, none⟩) (d.ps.length + 1) cap)
  simp at hs
  refine ⟨⟨h.ok.s64, h.ok.few, fun q hq => ?_, fun q hq => ?_, h.ok.fuse⟩, hs, own_set hB2 (own_ne hB2 hb2 (by decide)) _, ?_⟩
  · rcases List.mem_append.1 hq with h1 | h1
    · exact h.ok.p64 q h1
    · simp at h1; subst h1; exact h64
  · rcases List.mem_append.1 hq with h1 | h1
    · exact h.ok.pat q h1
    · simp at h1; subst h1; exact hp
  · have := own_set ho (p := ⟨g, 1, none⟩) (own_ne ho hb2 (by decide)) (.slice (some ⟨gg, 0, none⟩) (d.ps.length + 1) cap)
    simpa using this

set_option maxHeartbeats 1000000 in
theorem ref_Write_loop (w : World) (g : Nat) (F : List Nat) (d : D) (h : RD w g F d) (at_ m : Nat) (data : List UInt8) (hd : d.dead = false) (hm : data.length = m * 64) (hth : thereE d.ss.length at_ m = 0) (hps : d.ps.length ≤ 100000000) :
    Calls Try.prog 40 #[.pointer (some ⟨g, 0, none⟩), .int .i64 (at_ : Int), .string ⟨data.toArray⟩] w fun e w' => e = .returned (.int .i64 (wrE (D.wr data at_ m 0 d))) ∧ (∃ F', RD w' g F' (D.wr data at_ m 0 d).2 ∧ ∀ x ∈ F', x ∈ F ∨ w.heap.size ≤ x) ∧ Kept F w w' := by
  obtain ⟨A, a, B, b, c0, c1, c2, c3, fz⟩ := h.open
  rw [hd] at c3
  have few := h.ok.few
  have hml : m ≤ 1048576 ∧ at_ + m ≤ d.ss.length := by
    unfold thereE at hth
    split at hth
    · cases hth
    · omega
  obtain ⟨hml, hml2⟩ := hml
  have Hd := Lib.hid hd
  clear c0 c1 c2 fz hd
  go_enter Try.func40, Try.ntmps40
  have HT := Lib.hid (thereB_yes (L := d.ss.length) (at_ := at_) (n := m) (by omega))
  clear hth
  go_wp2_with fail
  refine (ref_there _ _ _ _ h _ _).mono ?_
  rintro e w' ⟨rfl, rfl⟩
  rw [HT.out]
  go_wp2_with fail
  have Hm := Lib.hid hm
  clear hm
  go_loopw [8] (fun i w' => ∃ (k : Nat) (e : D) (G : List Nat), k ≤ m ∧ i = .int .i64 k ∧ RD w' g G e ∧ (∀ x ∈ G, x ∈ F ∨ w.heap.size ≤ x) ∧ Kept F w w' ∧ Hid (D.wr data at_ m 0 d = D.wr data at_ (m - k) k e) ∧ Hid (e.dead = false) ∧ Hid (e.ss.length = d.ss.length) ∧ e.ps.length ≤ 100000000 + k) (fun i _ => m - (intOf i).toNat)
  case atStart => exact ⟨0, d, F, by omega, rfl, h, fun x hx => .inl hx, Kept.refl _ _, rfl, Hd.out, rfl, by omega⟩
  case round =>
    obtain ⟨k, e, G, hk, rfl, hP, hG, hkept, HE, HD, HL, hpl⟩ := hrel
    have hq : (data.length : Int) / 64 = (m : Int) := by rw [Hm.out]; omega
    by_cases hlt : k < m
    · have hsub : m - k = (m - (k + 1)) + 1 := by omega
      cases ht : e.thing.1
      · have HR : Hid (D.wr data at_ m 0 d = (false, e.thing.2)) := by rw [Hid, HE.out, hsub, D.wr, if_neg (by rw [ht]; decide)]
        have Ht := Lib.hid ht
        clear ht hsub
        go_wp2_with fail
        refine (ref_thing _ _ _ _ hP HD.out).mono ?_
        rintro e1 w1 ⟨rfl, h1, h2⟩
        rw [Ht.out]
        go_wp2
        go_ret
        rw [HR.out]
        exact ⟨rfl, ⟨G, h1, hG⟩, hkept.trans' h2 (fun x hx => by simp at hx; subst hx; exact hG _ hP.mem_self)⟩
      · have HR : Hid (D.wr data at_ m 0 d = D.wr data at_ (m - (k + 1)) (k + 1) { e.thing.2 with ps := e.thing.2.ps ++ [(at_ + k, (data.drop (k * 64)).take 64)] }) := by rw [Hid, HE.out, hsub, D.wr, if_pos ht]
        have Ht := Lib.hid ht
        clear ht hsub
        go_wp2_with fail
        refine (ref_thing _ _ _ _ hP HD.out).mono ?_
        rintro e1 w1 ⟨rfl, h1, h2⟩
        rw [Ht.out]
        go_wp2
        obtain ⟨vB, vP, hx, hGF⟩ := h1
        obtain ⟨Ap, cp, hvp, hcp⟩ := own_slice hx.pend
        have c1 := hx.blk.cell 1
        simp [hvp] at c1
        have hblt := hx.blk.lt
        have hown := hx.pend
        rw [hvp] at hown
        have hgn : g ∉ (Value.slice Ap e.thing.2.ps.length cp).ownBlock.toList := fun hm => own_ne hown hx.blk (by decide) g (by simpa using hm) rfl
        have hps1 := D.thing_ps e
        have hss1 := D.thing_ss e
        have Hx := Lib.hid hx
        have HGF := Lib.hid hGF
        have Hvp := Lib.hid hvp
        have Hcp := Lib.hid hcp
        have Hps1 := Lib.hid hps1
        have Hss1 := Lib.hid hss1
        have hlen1 : e.thing.2.ps.length ≤ 100000000 + k := by rw [hps1]; exact hpl
        clear hx hGF hvp hcp hps1 hss1
        have hf1 := Hx.out.blk.frozen 1
        have hext : (⟨data.toArray⟩ : ByteArray).extract (64 * k) (64 * k + 64) = ⟨((data.drop (k * 64)).take 64).toArray⟩ := by
          rw [extract_list, Nat.mul_comm 64 k]; congr 2; rw [show k * 64 + 64 - k * 64 = 64 by omega]
        obtain ⟨i0, hi0, hz0, hz1, hz2⟩ := info_parts infoRW
        have q1 : IntKind.i64.wrap ((at_ : Int) + (k : Int)) = (at_ : Int) + k := IntWalk.i64_in _ (by omega)
        have q2 : IntKind.i64.wrap (64 * (k : Int)) = 64 * (k : Int) := IntWalk.i64_in _ (by omega)
        have q3 : IntKind.i64.wrap (64 * (k : Int) + 64) = 64 * (k : Int) + 64 := IntWalk.i64_in _ (by omega)
        have q5 : 0 ≤ 64 * (k : Int) := by omega
        have q6 : 0 ≤ 64 * (k : Int) + 64 := by omega
        have q7 : 64 * (k : Int) + 64 ≤ (data.length : Int) := by rw [Hm.out]; omega
        have q8 : (64 * (k : Int)).toNat = 64 * k := by omega
        have q9 : (64 * (k : Int) + 64).toNat = 64 * k + 64 := by omega
        have qa : 64 * (k : Int) ≤ 64 * (k : Int) + 64 := by omega
        go_region_law ((refine step_append_lies _ (by rfl) (.tmp 41) (.tmp 53) _ (by rfl) 0 58 i0 _ 2 24 Try.underlying49 hi0 hz0 hz1 hz2 rfl (by omega) _ _ _ (by rfl) ((hown.alloc _).drew) ⟨w1.heap.size, 0, none⟩ 1 1 (pcells (at_ + k, (data.drop (k * 64)).take 64)) (by rfl) (by rfl) (World.news_of_block (cs := #[.int .i64 ((at_ : Int) + k), .string ⟨((data.drop (k * 64)).take 64).toArray⟩]) (t := 58) (fr := (0, 0)) (heap_alloc_new w1 _)) (by simp [pcells, Value.oneCell']) (by omega) (by simp only [maxLen]; omega) (by omega) (by omega) _ rfl ?_; intro gg cap w2 hown2 hgrow hat hlt; have hkW : Kept (Value.slice Ap e.thing.2.ps.length cp).ownBlock.toList w1 w2 := ((Kept.refl _ w1).alloc _).drew.grown hgrow (fun x hx => .inl (by simp [hx])); have k1 := hkW.cell c1 hgn; have kf := (hkW.frozen (p := ⟨g, 1, none⟩) hblt hgn).trans hf1))
        all_goals
          go_wp2
          go_roundw
          case rel =>
            have hw1 := hkept.trans' h2 (fun x hx => by simp at hx; subst hx; exact hG _ hP.mem_self)
            have hpo : ∀ x, x ∈ (Value.slice Ap e.thing.2.ps.length cp).ownBlock.toList → x ∈ F ∨ w.heap.size ≤ x := fun x hx => hG x (by rw [HGF.out, Hvp.out]; simp at hx ⊢; simp [hx])
            refine ⟨k + 1, { e.thing.2 with ps := e.thing.2.ps ++ [(at_ + k, (data.drop (k * 64)).take 64)] }, g :: (vB.ownBlock.toList ++ [gg]), by omega, by go_num, ?_, ?_, ?_, HR.out, ?_, ?_, ?_⟩
            · refine ⟨vB, _, (Hvp.out ▸ Hx.out).push hkW (p := (at_ + k, (data.drop (k * 64)).take 64)) ?_ ?_ hown2, by simp [Value.ownBlock]⟩
              · rw [Hss1.out, HL.out]; show at_ + k < _; omega
              · show ((data.drop (k * 64)).take 64).length = 64
                rw [List.length_take, List.length_drop, Hm.out]; omega
            · intro x hx
              simp only [List.mem_cons, List.mem_append, List.not_mem_nil, or_false] at hx
              rcases hx with rfl | hx | rfl
              · exact hG _ (by rw [HGF.out]; simp)
              · exact hG _ (by rw [HGF.out]; simp at hx ⊢; simp [hx])
              · rcases hat with hat | rfl
                · exact hpo _ (by simp [hat])
                · right
                  have := hw1.size
                  simp; omega
            · refine (hw1.trans' hkW hpo).setCell ?_ _
              exact hG _ (by rw [HGF.out]; simp)
            · exact D.thing_dead e HD.out Ht.out
            · show e.thing.2.ss.length = _; rw [Hss1.out, HL.out]
            · show (e.thing.2.ps ++ [_]).length ≤ _
              rw [List.length_append, Hps1.out]
              simp only [List.length_cons, List.length_nil]; omega
          case measure => simp [intOf]; omega
    · have HR : Hid (D.wr data at_ m 0 d = (true, e)) := by rw [Hid, HE.out, show m - k = 0 by omega, D.wr]
      go_wp2
      go_ret
      rw [HR.out]
      exact ⟨rfl, ⟨G, hP, hG⟩, hkept⟩

end Go.Proofs.Ytgdbafinncajfaa
