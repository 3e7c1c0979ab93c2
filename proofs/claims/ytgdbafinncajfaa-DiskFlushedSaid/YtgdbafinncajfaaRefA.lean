/- The reference's disk, its walks (first part). -/
import Derived.Test.YtgdbafinncajfaaDiskA
namespace Go.Proofs.Ytgdbafinncajfaa
open Go.RowKit

def str (l : List UInt8) : Value := .string ⟨l.toArray⟩

/-- the reference's disk in memory, its fields' values named -/
structure RDx (w : World) (g : Nat) (vS vP : Value) (d : D) : Prop where
  ok : d.ok
  blk : Blk w g 51 #[vS, vP, .int .i64 d.fuse, .bool d.dead]
  secs : w.ownsRow 0 9 1 vS d.ss.length (d.ss.map str)
  pend : w.ownsRow 0 58 2 vP d.ps.length (d.ps.flatMap pcells)

def RD (w : World) (g : Nat) (F : List Nat) (d : D) : Prop :=
  ∃ vS vP, RDx w g vS vP d ∧ F = g :: (vS.ownBlock.toList ++ vP.ownBlock.toList)

theorem RDx.lt {w : World} {g : Nat} {vS vP : Value} {d : D} (h : RDx w g vS vP d) : ∀ x ∈ g :: (vS.ownBlock.toList ++ vP.ownBlock.toList), x < w.heap.size := by
  intro x hx
  simp only [List.mem_cons, List.mem_append, Option.mem_toList] at hx
  rcases hx with rfl | hx | hx
  · exact h.blk.lt
  · exact own_lt h.secs x hx
  · exact own_lt h.pend x hx
theorem RDx.kept {w w' : World} {g : Nat} {vS vP : Value} {d : D} {l : List Nat} (h : RDx w g vS vP d) (hk : Kept l w w') (hl : ∀ x ∈ g :: (vS.ownBlock.toList ++ vP.ownBlock.toList), x ∉ l) : RDx w' g vS vP d :=
  ⟨h.ok, h.blk.kept hk (hl g (by simp)), hk.owns h.secs (fun k e => hl k (by simp [e])), hk.owns h.pend (fun k e => hl k (by simp [e]))⟩
theorem RD.lt {w : World} {g : Nat} {F : List Nat} {d : D} (h : RD w g F d) : ∀ x ∈ F, x < w.heap.size := by
  obtain ⟨vS, vP, h, rfl⟩ := h
  exact h.lt
theorem RD.mem_self {w : World} {g : Nat} {F : List Nat} {d : D} (h : RD w g F d) : g ∈ F := by
  obtain ⟨vS, vP, _, rfl⟩ := h
  simp
theorem RD.ok {w : World} {g : Nat} {F : List Nat} {d : D} (h : RD w g F d) : d.ok := by
  obtain ⟨vS, vP, h, rfl⟩ := h
  exact h.ok
theorem RD.kept {w w' : World} {g : Nat} {F l : List Nat} {d : D} (h : RD w g F d) (hk : Kept l w w') (hl : ∀ x ∈ F, x ∉ l) : RD w' g F d := by
  obtain ⟨vS, vP, h, rfl⟩ := h
  exact ⟨vS, vP, h.kept hk hl, rfl⟩
theorem RD.setDead {w : World} {g : Nat} {F : List Nat} {d : D} (h : RD w g F d) (b : Bool) : RD (w.setCell ⟨g, 3, none⟩ (.bool b)) g F { d with dead := b } := by
  obtain ⟨vS, vP, ⟨ok, hg, hS, hP⟩, rfl⟩ := h
  have hs := hg.set_ 3 (.bool b)
  simp at hs
  exact ⟨vS, vP, ⟨⟨ok.s64, ok.few, ok.p64, ok.pat, ok.fuse⟩, hs, own_set hS (own_ne hS hg (by decide)) _, own_set hP (own_ne hP hg (by decide)) _⟩, rfl⟩
theorem RD.setFuse {w : World} {g : Nat} {F : List Nat} {d : D} (h : RD w g F d) (f : Int) (h1 : -1 ≤ f) (h2 : f ≤ 9223372036854775807) : RD (w.setCell ⟨g, 2, none⟩ (.int .i64 f)) g F { d with fuse := f } := by
  obtain ⟨vS, vP, ⟨ok, hg, hS, hP⟩, rfl⟩ := h
  have hs := hg.set_ 2 (.int .i64 f)
  simp at hs
  exact ⟨vS, vP, ⟨⟨ok.s64, ok.few, ok.p64, ok.pat, ⟨h1, h2⟩⟩, hs, own_set hS (own_ne hS hg (by decide)) _, own_set hP (own_ne hP hg (by decide)) _⟩, rfl⟩
theorem RD.open {w : World} {g : Nat} {F : List Nat} {d : D} (h : RD w g F d) : ∃ A a B b, w.cell? ⟨g, 0, none⟩ = some (.slice A d.ss.length a) ∧ w.cell? ⟨g, 1, none⟩ = some (.slice B d.ps.length b) ∧ w.cell? ⟨g, 2, none⟩ = some (.int .i64 d.fuse) ∧
    w.cell? ⟨g, 3, none⟩ = some (.bool d.dead) ∧ (∀ i, w.frozen? ⟨g, i, none⟩ = false) := by
  obtain ⟨vS, vP, ⟨ok, hg, hS, hP⟩, rfl⟩ := h
  obtain ⟨A, a, rfl, _⟩ := own_slice hS
  obtain ⟨B, b, rfl, _⟩ := own_slice hP
  exact ⟨A, a, B, b, hg.cell 0, hg.cell 1, hg.cell 2, hg.cell 3, hg.frozen⟩

set_option maxHeartbeats 400000 in
theorem ref_thing (w : World) (g : Nat) (F : List Nat) (d : D) (h : RD w g F d) (hd : d.dead = false) :
    Calls Try.prog 56 #[.pointer (some ⟨g, 0, none⟩)] w fun e w' => e = .returned (.bool d.thing.1) ∧ RD w' g F d.thing.2 ∧ Kept [g] w w' := by
  obtain ⟨A, a, B, b, _, _, c2, c3, fz⟩ := h.open
  have f2 := fz 2
  have f3 := fz 3
  have hok := h.ok.fuse
  obtain ⟨hok1, hok2⟩ := hok
  clear fz
  by_cases h0 : d.fuse = 0
  · have Ed : Hid (d.thing = (false, { d with dead := true })) := by rw [Hid, D.thing, if_pos h0]
    rw [h0] at c2
    clear h0
    go_enter Try.func56, Try.ntmps56
    go_wp2
    go_ret
    rw [Ed.out]
    exact ⟨rfl, h.setDead true, (Kept.refl _ _).setCell (.inl (by simp)) _⟩
  · by_cases h1 : 0 < d.fuse
    · have Ed : Hid (d.thing = (true, { d with fuse := d.fuse - 1 })) := by rw [Hid, D.thing, if_neg (by omega), if_pos (by omega), hd]; rfl
      clear hd
      go_enter Try.func56, Try.ntmps56
      go_wp2
      go_ret
      rw [Ed.out]
      exact ⟨rfl, h.setFuse (d.fuse - 1) (by omega) (by omega), (Kept.refl _ _).setCell (.inl (by simp)) _⟩
    · have Ed : Hid (d.thing = (true, d)) := by rw [Hid, D.thing, if_neg (by omega), if_neg (by omega), hd]; rfl
      clear hd
      go_enter Try.func56, Try.ntmps56
      go_wp2
      go_ret
      rw [Ed.out]
      exact ⟨rfl, h, Kept.refl _ _⟩

def thereB (L : Nat) (at_ n : Int) : Bool := decide (thereE L at_ n = 0)
theorem thereB_yes {L : Nat} {at_ n : Int} (h : 0 ≤ at_ ∧ 0 ≤ n ∧ at_ + n ≤ L) : thereB L at_ n = true := by
  unfold thereB thereE
  rw [if_neg (by omega)]; rfl
theorem thereB_no {L : Nat} {at_ n : Int} (h : ¬ (0 ≤ at_ ∧ 0 ≤ n ∧ at_ + n ≤ L)) : thereB L at_ n = false := by
  unfold thereB thereE
  rw [if_pos (by omega)]; rfl

set_option maxHeartbeats 400000 in
theorem ref_there (w : World) (g : Nat) (F : List Nat) (d : D) (h : RD w g F d) (at_ n : Int) :
    Calls Try.prog 54 #[.pointer (some ⟨g, 0, none⟩), .int .i64 at_, .int .i64 n] w fun e w' => e = .returned (.bool (thereB d.ss.length at_ n)) ∧ w = w' := by
  have few := h.ok.few
  obtain ⟨A, a, B, b, c0, _, _, _, _⟩ := h.open
  by_cases h1 : 0 ≤ at_
  · by_cases h2 : 0 ≤ n
    · by_cases h3 : at_ ≤ d.ss.length
      · by_cases h4 : n ≤ d.ss.length - at_
        · have HB := Lib.hid (thereB_yes (L := d.ss.length) (at_ := at_) (n := n) (by omega))
          go_enter Try.func54, Try.ntmps54
          go_wp2
          go_ret
          exact ⟨by rw [HB.out]; rfl, rfl⟩
        · have HB := Lib.hid (thereB_no (L := d.ss.length) (at_ := at_) (n := n) (by omega))
          go_enter Try.func54, Try.ntmps54
          go_wp2
          go_ret
          exact ⟨by rw [HB.out]; rfl, rfl⟩
      · have HB := Lib.hid (thereB_no (L := d.ss.length) (at_ := at_) (n := n) (by omega))
        go_enter Try.func54, Try.ntmps54
        go_wp2
        go_ret
        exact ⟨by rw [HB.out]; rfl, rfl⟩
    · have HB := Lib.hid (thereB_no (L := d.ss.length) (at_ := at_) (n := n) (by omega))
      go_enter Try.func54, Try.ntmps54
      go_wp2
      go_ret
      exact ⟨by rw [HB.out]; rfl, rfl⟩
  · have HB := Lib.hid (thereB_no (L := d.ss.length) (at_ := at_) (n := n) (by omega))
    go_enter Try.func54, Try.ntmps54
    go_wp2
    go_ret
    exact ⟨by rw [HB.out]; rfl, rfl⟩

set_option maxHeartbeats 1000000 in
theorem ref_One (w : World) (g : Nat) (F : List Nat) (d : D) (h : RD w g F d) (at_ : Nat) (hat : at_ < d.ss.length) :
    Calls Try.prog 55 #[.pointer (some ⟨g, 0, none⟩), .int .i64 (at_ : Int)] w fun e w' => e = .returned (str (lastP at_ d.ps (d.ss.getD at_ []))) ∧ w' = w := by
  obtain ⟨vS, vP, hx, hF⟩ := h
  have few := hx.ok.few
  obtain ⟨gs, cs, hvS, _⟩ := own_some hx.secs (by omega)
  obtain ⟨B, b, hvP, _⟩ := own_slice hx.pend
  have plen := own_max hx.pend
  unfold maxLen at plen
  have c0 := hx.blk.cell 0
  have c1 := hx.blk.cell 1
  simp [hvS] at c0
  simp [hvP] at c1
  have hS := hx.secs
  rw [hvS] at hS
  have hs := hS.cells (g := gs) rfl at_ (str (d.ss.getD at_ [])) (by simp [List.getD, hat])
  rw [Addr.add_lit, Nat.zero_add] at hs
  have Hx := Lib.hid hx
  have HvP := Lib.hid hvP
  clear hx hvS hvP hF hS
  generalize hs0 : d.ss.getD at_ [] = s0 at *
  unfold str at hs
  clear hs0
  go_enter Try.func55, Try.ntmps55
  go_wp2
  go_loop [5, 6] (fun s i => ∃ (k : Nat) (x : List UInt8), k ≤ d.ps.length ∧ i = .int .i64 k ∧ s = .string ⟨x.toArray⟩ ∧ Hid (lastP at_ d.ps s0 = lastP at_ (d.ps.drop k) x)) (fun _ i => d.ps.length - (intOf i).toNat)
  case atStart => exact ⟨0, s0, by omega, rfl, rfl, rfl⟩
  case round =>
    obtain ⟨k, x, hk, rfl, rfl, HL⟩ := hrel
    by_cases hlt : k < d.ps.length
    · have hPk := Hx.out.pend
      obtain ⟨gp, cp', hvp, _⟩ := own_some hPk (by omega)
      rw [hvp] at hPk
      have hat1 := own_at (f := pcells) (l := d.ps) hPk (fun _ => rfl) k 0 hlt (by decide) rfl
      have hdt := own_at (f := pcells) (l := d.ps) hPk (fun _ => rfl) k 1 hlt (by decide) rfl
      have HDR := Lib.hid (List.drop_eq_getElem_cons hlt)
      clear hPk
      generalize d.ps[k] = p at *
      obtain ⟨pa, pd⟩ := p
      rw [HvP.out] at hvp
      injection hvp with hB1 _ hB3
      subst hB1
      subst hB3
      simp at hat1
      by_cases he : pa = at_
      · subst he
        have HN : Hid (lastP pa d.ps s0 = lastP pa (d.ps.drop (k + 1)) pd) := by rw [Hid, HL.out, HDR.out, lastP, if_pos rfl]
        go_wp2
        go_round
        case rel => exact ⟨k + 1, pd, by omega, by go_num, rfl, HN⟩
        case measure => simp [intOf]; omega
      · have HN : Hid (lastP at_ d.ps s0 = lastP at_ (d.ps.drop (k + 1)) x) := by rw [Hid, HL.out, HDR.out, lastP, if_neg he]
        have he2 : ((pa : Int) == (at_ : Int)) = false := by simp; omega
        go_wp2
        go_round
        case rel => exact ⟨k + 1, x, by omega, by go_num, rfl, HN⟩
        case measure => simp [intOf]; omega
    · have HN : Hid (lastP at_ d.ps s0 = x) := by rw [Hid, HL.out, List.drop_eq_nil_of_le (by omega), lastP]
      go_wp2
      go_ret
      exact ⟨by rw [HN.out]; rfl, rfl⟩
end Go.Proofs.Ytgdbafinncajfaa
