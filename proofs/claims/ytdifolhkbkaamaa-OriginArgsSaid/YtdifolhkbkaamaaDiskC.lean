/- The program's disk, its walks (third part): Write, Read, Load, Clone. -/
import Derived.Test.YtdifolhkbkaamaaDiskB
import Derived.Deep.RegionLaw
import Derived.Deep.RegionHeld3
namespace Go.Proofs.Ytdifolhkbkaamaa
open Go.RowKit

theorem infoW : (Try.prog.info? 78).map (fun i => (i.zero, i.size, i.bytes)) = some (some (.agg #[.int .i64 0, .string ByteArray.empty]), 2, 24) := by kernel_rfl

theorem extract_list (l : List UInt8) (a b : Nat) : (⟨l.toArray⟩ : ByteArray).extract a b = ⟨((l.drop a).take (b - a)).toArray⟩ := by
  apply ByteArray.ext
  rw [ByteArray.data_extract]
  simp [List.extract_eq_take_drop]

theorem PDx.push {w1 w2 : World} {g : Nat} {vB vP : Value} {fu : Int} {d : D} (h : PDx w1 g vB vP fu d) (hk : Kept vP.ownBlock.toList w1 w2) {gg cap : Nat} {p : Nat × List UInt8} (hp : p.1 < d.ss.length) (h64 : p.2.length = 64)
    (ho : w2.ownsRow 0 78 2 (.slice (some ⟨gg, 0, none⟩) (d.ps.length + 1) cap) (d.ps.length + 1) (d.ps.flatMap pcells ++ pcells p)) :
    PDx (w2.setCell ⟨g, 1, none⟩ (.slice (some ⟨gg, 0, none⟩) (d.ps.length + 1) cap)) g vB (.slice (some ⟨gg, 0, none⟩) (d.ps.length + 1) cap) fu { d with ps := d.ps ++ [p] } := by
  have hb2 := h.blk.kept hk (fun hm => own_ne h.pend h.blk (by decide) g (by simpa using hm) rfl)
  have hB2 := hk.owns h.bytes (fun k e hm => own_own_ne h.bytes h.pend (by decide) k e (by simpa using hm))
  have hs := hb2.set_ 1 (.slice (some ⟨gg, 0, none⟩) (d.ps.length + 1) cap)
  simp at hs
  refine ⟨⟨h.ok.s64, h.ok.few, fun q hq => ?_, fun q hq => ?_, h.ok.fuse⟩, hs, h.fuse, own_set hB2 (own_ne hB2 hb2 (by decide)) _, ?_⟩
  · rcases List.mem_append.1 hq with h1 | h1
    · exact h.ok.p64 q h1
    · simp at h1; subst h1; exact h64
  · rcases List.mem_append.1 hq with h1 | h1
    · exact h.ok.pat q h1
    · simp at h1; subst h1; exact hp
  · have := own_set ho (p := ⟨g, 1, none⟩) (own_ne ho hb2 (by decide)) (.slice (some ⟨gg, 0, none⟩) (d.ps.length + 1) cap)
    simpa using this

set_option maxHeartbeats 1000000 in
theorem disk_Write_loop (w : World) (g : Nat) (F : List Nat) (d : D) (h : PD w g F d) (at_ m : Nat) (data : List UInt8) (hd : d.dead = false) (hm : data.length = m * 64) (hth : thereE d.ss.length at_ m = 0) (hps : d.ps.length ≤ 100000000) :
    Calls Try.prog 26 #[.pointer (some ⟨g, 0, none⟩), .int .i64 (at_ : Int), .string ⟨data.toArray⟩] w fun e w' => e = .returned (.int .i64 (wrE (D.wr data at_ m 0 d))) ∧ (∃ F', PD w' g F' (D.wr data at_ m 0 d).2 ∧ ∀ x ∈ F', x ∈ F ∨ w.heap.size ≤ x) ∧ Kept F w w' := by
  obtain ⟨A, a, B, b, fu, c0, c1, c2, c3, fz, hf, hf1, hf2⟩ := h.open
  rw [hd] at c3
  have few := h.ok.few
  have hml : m ≤ 1048576 ∧ at_ + m ≤ d.ss.length := by
    unfold thereE at hth
    split at hth
    · cases hth
    · omega
  obtain ⟨hml, hml2⟩ := hml
  have Hd := Lib.hid hd
  clear c0 c1 c2 fz hf hd
  go_enter Try.func26, Try.ntmps26
  go_wp2_with (first | (go_at_call 35; refine (disk_there _ _ _ _ h _ _).mono ?_; rintro e w' ⟨rfl, rfl⟩))
  clear hth
  have Hm := Lib.hid hm
  clear hm
  go_loopw [34] (fun i w' => ∃ (k : Nat) (e : D) (G : List Nat), k ≤ m ∧ i = .int .i64 k ∧ PD w' g G e ∧ (∀ x ∈ G, x ∈ F ∨ w.heap.size ≤ x) ∧ Kept F w w' ∧ Hid (D.wr data at_ m 0 d = D.wr data at_ (m - k) k e) ∧ Hid (e.dead = false) ∧ Hid (e.ss.length = d.ss.length) ∧ e.ps.length ≤ 100000000 + k) (fun i _ => m - (intOf i).toNat)
  case atStart => exact ⟨0, d, F, by omega, rfl, h, fun x hx => .inl hx, Kept.refl _ _, rfl, Hd.out, rfl, by omega⟩
  case round =>
    obtain ⟨k, e, G, hk, rfl, hP, hG, hkept, HE, HD, HL, hpl⟩ := hrel
    by_cases hlt : k < m
    · have hsub : m - k = (m - (k + 1)) + 1 := by omega
      cases ht : e.thing.1
      · have HR : Hid (D.wr data at_ m 0 d = (false, e.thing.2)) := by rw [Hid, HE.out, hsub, D.wr, if_neg (by rw [ht]; decide)]
        have Ht := Lib.hid ht
        clear ht hsub
        go_wp2_with fail
        refine (disk_thing _ _ _ _ hP).mono ?_
        rintro e1 w1 ⟨rfl, h1, h2⟩
        rw [Ht.out]
        go_wp2
        go_ret
        rw [HR.out]
        exact ⟨rfl, ⟨G, h1, hG⟩, hkept.trans' h2 (fun x hx => by simp at hx; subst hx; exact hG _ hP.mem_self)⟩
      · have HR : Hid (D.wr data at_ m 0 d = D.wr data at_ (m - (k + 1)) (k + 1) { e.thing.2 with ps := e.thing.2.ps ++ [(at_ + k, (data.drop (k * 64)).take 64)] }) := by rw [Hid, HE.out, hsub, D.wr, if_pos ht]
        have Ht := Lib.hid ht
        clear ht hsub
        go_wp2_with fail
        refine (disk_thing _ _ _ _ hP).mono ?_
        rintro e1 w1 ⟨rfl, h1, h2⟩
        rw [Ht.out]
        go_wp2
        obtain ⟨vB, vP, fu1, hx, hGF⟩ := h1
        obtain ⟨Ap, cp, hvp, hcp⟩ := own_slice hx.pend
        have c1 := hx.blk.cell 1
        simp [hvp] at c1
        have hblt := hx.blk.lt
        have hown := hx.pend
        rw [hvp] at hown
        have hgn : g ∉ (Value.slice Ap e.thing.2.ps.length cp).ownBlock.toList := fun hm => own_ne hown hx.blk (by decide) g (by simpa using hm) rfl
        have hps1 := D.thing_ps e
        have hss1 := D.thing_ss e
        have Hx := Lib.hid hx
        have HGF := Lib.hid hGF
        have Hvp := Lib.hid hvp
        have Hcp := Lib.hid hcp
        have Hps1 := Lib.hid hps1
        have Hss1 := Lib.hid hss1
        have hlen1 : e.thing.2.ps.length ≤ 100000000 + k := by rw [hps1]; exact hpl
        clear hx hGF hvp hcp hps1 hss1
        have hf1 := Hx.out.blk.frozen 1
        have hext : (⟨data.toArray⟩ : ByteArray).extract (k * 64) ((k + 1) * 64) = ⟨((data.drop (k * 64)).take 64).toArray⟩ := by
          rw [extract_list]; congr 2; rw [show (k + 1) * 64 - k * 64 = 64 by omega]
        obtain ⟨i0, hi0, hz0, hz1, hz2⟩ := info_parts infoW
        have q1 : IntKind.i64.wrap ((at_ : Int) + (k : Int)) = (at_ : Int) + k := IntWalk.i64_in _ (by omega)
        have q2 : IntKind.i64.wrap ((k : Int) * 64) = (k : Int) * 64 := IntWalk.i64_in _ (by omega)
        have q3 : IntKind.i64.wrap ((k : Int) + 1) = (k : Int) + 1 := IntWalk.i64_in _ (by omega)
        have q4 : IntKind.i64.wrap (((k : Int) + 1) * 64) = ((k : Int) + 1) * 64 := IntWalk.i64_in _ (by omega)
        have q5 : 0 ≤ (k : Int) * 64 := by omega
        have q6 : (k : Int) ≤ (k : Int) + 1 := by omega
        have qa : 0 ≤ ((k : Int) + 1) * 64 := by omega
        have q7 : ((k : Int) + 1) * 64 ≤ (data.length : Int) := by rw [Hm.out]; omega
        have q8 : ((k : Int) * 64).toNat = k * 64 := by omega
        have q9 : (((k : Int) + 1) * 64).toNat = (k + 1) * 64 := by omega
        go_region_law ((refine step_append_lies _ (by rfl) (.tmp 44) (.tmp 56) _ (by rfl) 0 78 i0 _ 2 24 Try.underlying58 hi0 hz0 hz1 hz2 rfl (by omega) _ _ _ (by rfl) ((hown.alloc _).drew) ⟨w1.heap.size, 0, none⟩ 1 1 (pcells (at_ + k, (data.drop (k * 64)).take 64)) (by rfl) (by rfl) (World.news_of_block (cs := #[.int .i64 ((at_ : Int) + k), .string ⟨((data.drop (k * 64)).take 64).toArray⟩]) (t := 78) (fr := (0, 0)) (heap_alloc_new w1 _)) (by simp [pcells, Value.oneCell']) (by omega) (by simp only [maxLen]; omega) (by omega) (by omega) _ rfl ?_; intro gg cap w2 hown2 hgrow hat hlt; have hkW : Kept (Value.slice Ap e.thing.2.ps.length cp).ownBlock.toList w1 w2 := ((Kept.refl _ w1).alloc _).drew.grown hgrow (fun x hx => .inl (by simp [hx])); have k1 := hkW.cell c1 hgn; have kf := (hkW.frozen (p := ⟨g, 1, none⟩) hblt hgn).trans hf1))
        all_goals
          go_wp2
          go_roundw
          case rel =>
            have hw1 := hkept.trans' h2 (fun x hx => by simp at hx; subst hx; exact hG _ hP.mem_self)
            have hpo : ∀ x, x ∈ (Value.slice Ap e.thing.2.ps.length cp).ownBlock.toList → x ∈ F ∨ w.heap.size ≤ x := fun x hx => hG x (by rw [HGF.out, Hvp.out]; simp at hx ⊢; simp [hx])
            refine ⟨k + 1, { e.thing.2 with ps := e.thing.2.ps ++ [(at_ + k, (data.drop (k * 64)).take 64)] }, g :: (vB.ownBlock.toList ++ [gg]), by omega, by go_num, ?_, ?_, ?_, HR.out, ?_, ?_, ?_⟩
            · refine ⟨vB, _, fu1, (Hvp.out ▸ Hx.out).push hkW (p := (at_ + k, (data.drop (k * 64)).take 64)) ?_ ?_ hown2, by simp [Value.ownBlock]⟩
              · rw [Hss1.out, HL.out]; show at_ + k < _; omega
              · show ((data.drop (k * 64)).take 64).length = 64
                rw [List.length_take, List.length_drop, Hm.out]; omega
            · intro x hx
              simp only [List.mem_cons, List.mem_append, List.not_mem_nil, or_false] at hx
              rcases hx with rfl | hx | rfl
              · exact hG _ (by rw [HGF.out]; simp)
              · exact hG _ (by rw [HGF.out]; simp at hx ⊢; simp [hx])
              · rcases hat with hat | rfl
                · exact hpo _ (by simp [hat])
                · right
                  have := hw1.size
                  simp; omega
            · refine (hw1.trans' hkW hpo).setCell ?_ _
              exact hG _ (by rw [HGF.out]; simp)
            · exact D.thing_dead e HD.out Ht.out
            · show e.thing.2.ss.length = _; rw [Hss1.out, HL.out]
            · show (e.thing.2.ps ++ [_]).length ≤ _
              rw [List.length_append, Hps1.out]
              simp only [List.length_cons, List.length_nil]; omega
          case measure => simp [intOf]; omega
    · have HR : Hid (D.wr data at_ m 0 d = (true, e)) := by rw [Hid, HE.out, show m - k = 0 by omega, D.wr]
      go_wp2
      go_ret
      rw [HR.out]
      exact ⟨rfl, ⟨G, hP, hG⟩, hkept⟩

theorem thereE_cases (L : Nat) (at_ n : Int) : (thereE L at_ n = 2 ∧ ¬ (0 ≤ at_ ∧ 0 ≤ n ∧ at_ + n ≤ L)) ∨ (thereE L at_ n = 0 ∧ 0 ≤ at_ ∧ 0 ≤ n ∧ at_ + n ≤ L) := by
  unfold thereE
  split
  · exact .inl ⟨rfl, by omega⟩
  · exact .inr ⟨rfl, by omega⟩

set_option maxHeartbeats 1000000 in
theorem disk_Write (w : World) (g : Nat) (F : List Nat) (d : D) (h : PD w g F d) (at_ : Int) (data : List UInt8) (hdl : data.length ≤ 140737488351232) (hps : d.ps.length ≤ 100000000) :
    Calls Try.prog 26 #[.pointer (some ⟨g, 0, none⟩), .int .i64 at_, .string ⟨data.toArray⟩] w fun e w' => e = .returned (.int .i64 (d.write at_ data).1) ∧ (∃ F', PD w' g F' (d.write at_ data).2 ∧ ∀ x ∈ F', x ∈ F ∨ w.heap.size ≤ x) ∧ Kept F w w' := by
  cases hd : d.dead
  · by_cases h64 : data.length % 64 = 0
    · rcases thereE_cases d.ss.length at_ (data.length / 64 : Nat) with ⟨ht, _⟩ | ⟨ht, h1, h2, h3⟩
      · have HW : Hid (d.write at_ data = (2, d)) := by
          unfold Hid D.write
          rw [if_neg (by rw [hd]; decide), if_neg (by omega), if_pos (by rw [ht]; decide)]
        obtain ⟨A, a, B, b, fu, c0, c1, c2, c3, fz, hf, hf1, hf2⟩ := h.open
        rw [hd] at c3
        have q1 : ((data.length : Nat) : Int) % 64 = 0 := by omega
        have Ht : Hid (thereE d.ss.length at_ ((data.length : Int) / 64) = 2) := by rw [Hid, ← ht]; rfl
        clear c0 c1 c2 fz hf hd ht h64
        go_enter Try.func26, Try.ntmps26
        go_wp2_with fail
        refine (disk_there _ _ _ _ h _ _).mono ?_
        rintro e w' ⟨rfl, rfl⟩
        rw [Ht.out]
        go_wp2
        go_ret
        rw [HW.out]
        exact ⟨rfl, ⟨F, h, fun x hx => .inl hx⟩, Kept.refl _ _⟩
      · obtain ⟨k, rfl⟩ := Int.eq_ofNat_of_zero_le h1
        have HW : d.write (k : Int) data = (wrE (D.wr data k (data.length / 64) 0 d), (D.wr data k (data.length / 64) 0 d).2) := by
          unfold D.write wrE
          rw [if_neg (by rw [hd]; decide), if_neg (by omega), if_neg (by rw [ht]; decide)]
          rfl
        rw [HW]
        exact disk_Write_loop w g F d h k (data.length / 64) data hd (by omega) ht hps
    · have HW : Hid (d.write at_ data = (1, d)) := by simp [Hid, D.write, hd, h64]
      obtain ⟨A, a, B, b, fu, c0, c1, c2, c3, fz, hf, hf1, hf2⟩ := h.open
      rw [hd] at c3
      have q1 : (((data.length : Nat) : Int) % 64 != 0) = true := by simp; omega
      clear c0 c1 c2 fz hf hd h64
      go_enter Try.func26, Try.ntmps26
      go_wp2
      go_ret
      rw [HW.out]
      exact ⟨rfl, ⟨F, h, fun x hx => .inl hx⟩, Kept.refl _ _⟩
  · have HW : Hid (d.write at_ data = (41, d)) := by simp [Hid, D.write, hd]
    obtain ⟨A, a, B, b, fu, c0, c1, c2, c3, fz, hf, hf1, hf2⟩ := h.open
    rw [hd] at c3
    clear c0 c1 c2 fz hf hd
    go_enter Try.func26, Try.ntmps26
    go_wp2
    go_ret
    rw [HW.out]
    exact ⟨rfl, ⟨F, h, fun x hx => .inl hx⟩, Kept.refl _ _⟩
theorem disk_Write_nil (w : World) (at_ : Int) (s : ByteArray) : Calls Try.prog 26 #[.pointer none, .int .i64 at_, .string s] w fun e w' => e = .returned (.int .i64 1) ∧ w = w' := by
  go_enter Try.func26, Try.ntmps26
  go_wp2
  go_ret
  exact ⟨rfl, rfl⟩

theorem over_secs (at_ n L : Nat) : ∀ (ps : List (Nat × List UInt8)) (out : List (List UInt8)), secs out L → (∀ p ∈ ps, p.2.length = 64) → secs (over at_ n ps out) L
  | [], _, h, _ => h
  | p :: ps, out, h, hp => by
    unfold over
    refine over_secs at_ n L ps _ ?_ (fun q hq => hp q (by simp [hq]))
    split
    · exact secs_set h (hp p (by simp))
    · exact h

end Go.Proofs.Ytdifolhkbkaamaa
