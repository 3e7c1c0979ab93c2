/- The program's disk, its walks (first part): New, Sectors, what is there, one thing, small calls. -/
import Derived.Test.YtdifolhkbkaamaaCopy
import Derived.Test.YtdifolhkbkaamaaDiskM
namespace Go.Proofs.Ytdifolhkbkaamaa
open Go.RowKit

def pcells (p : Nat × List UInt8) : List Value := [.int .i64 (p.1 : Int), .string ⟨p.2.toArray⟩]

def rightB (n : Int) : Bool := decide (0 ≤ n) && decide (n ≤ 1048576)
theorem disk_right (n : Int) (w : World) :
    Calls Try.prog 21 #[.int .i64 n] w fun e w' => e = .returned (.bool (rightB n)) ∧ w = w' := by
  by_cases h : 0 ≤ n
  all_goals
    go_enter Try.func21, Try.ntmps21
    go_wp2
    go_ret
    exact ⟨ret_val (by simp [rightB]; try omega), rfl⟩

theorem infoB : (Try.prog.info? 5).map (fun i => (i.zero, i.size, i.bytes)) = some (some (.int .u8 0), 1, 1) := by kernel_rfl

/-- a program's disk in memory, its fields' values named -/
structure PDx (w : World) (g : Nat) (vB vP : Value) (fu : Int) (d : D) : Prop where
  ok : d.ok
  blk : Blk w g 60 #[vB, vP, .int .i64 fu, .bool d.dead]
  fuse : max fu (-1) = d.fuse ∧ -9223372036854775808 ≤ fu ∧ fu ≤ 9223372036854775807
  bytes : w.ownsRow 0 5 1 vB (64 * d.ss.length) (d.ss.flatten.map bv)
  pend : w.ownsRow 0 78 2 vP d.ps.length (d.ps.flatMap pcells)

/-- a program's disk in memory; F: its blocks -/
def PD (w : World) (g : Nat) (F : List Nat) (d : D) : Prop :=
  ∃ vB vP fu, PDx w g vB vP fu d ∧ F = g :: (vB.ownBlock.toList ++ vP.ownBlock.toList)

theorem PD.ok {w : World} {g : Nat} {F : List Nat} {d : D} (h : PD w g F d) : d.ok := by
  obtain ⟨vB, vP, fu, h, rfl⟩ := h
  exact h.ok

set_option maxHeartbeats 400000 in
theorem disk_New_no (n : Int) (w : World) (h : rightB n = false) :
    Calls Try.prog 8 #[.int .i64 n] w fun e w' => e = .returned (.pointer none) ∧ w = w' := by
  go_enter Try.func8, Try.ntmps8
  go_wp2_with (go_at_call 21; refine (disk_right _ _).mono ?_; rintro e w' ⟨rfl, rfl⟩)
  go_ret
  exact ⟨rfl, rfl⟩

theorem zeros_bv (n : Nat) : (List.replicate n (0 : UInt8)).map bv = List.replicate n (.int .u8 0) := by rw [List.map_replicate]; rfl
set_option maxHeartbeats 400000 in
theorem disk_New_yes (n : Nat) (w : World) (h : n ≤ 1048576) :
    Calls Try.prog 8 #[.int .i64 n] w fun e w' => ∃ g F, e = .returned (.pointer (some ⟨g, 0, none⟩)) ∧ PD w' g F ⟨List.replicate n zsec, [], -1, false⟩ ∧ Kept [] w w' ∧ ∀ x ∈ F, w.heap.size ≤ x := by
  have hb : rightB n = true := by simp [rightB]; omega
  obtain ⟨i0, hi0, hz0, hz1, hz2⟩ := info_parts infoB
  go_enter Try.func8, Try.ntmps8
  go_wp2_with (first
    | (go_at_call 21; refine (disk_right _ _).mono ?_; rintro e w' ⟨rfl, rfl⟩)
    | (at_make; refine wpList_make_full _ rfl (.tmp 7) (.tmp 7) 57 rfl 0 5 i0 _ 1 Try.underlying57 hi0 hz0 hz1 .i64 .i64 _ _ (n * 64) rfl rfl (by omega) (by omega) (by rw [hz2]; omega) (by simp only [maxLen]; omega) (by omega) ?_; intro w1 hown1 hgrow1))
  go_ret
  have hk := (Kept.refl [] w).grown hgrow1 (fun _ h => by cases h)
  refine ⟨w1.heap.size, [w1.heap.size, w.heap.size], rfl, ⟨_, _, -1, ⟨D_new_ok n h, Blk.new _ _ _, ⟨rfl, by decide, by decide⟩, ?_, World.ownsRow_nil _ _ _ _⟩, rfl⟩, hk.alloc _, ?_⟩
  · have h2 := hown1.alloc (.cells #[.slice (some ⟨w.heap.size, 0, none⟩) (n * 64) (n * 64), .slice none 0 0, .int .i64 (-1), .bool false] 60)
    simp only [Value.cells, toList_madeCells_one] at h2
    simp only [flat_rep, zeros_bv, List.length_replicate, Nat.mul_comm 64 n]
    simpa using h2
  · intro x hx
    have := hk.size
    simp at hx
    omega

theorem disk_Sectors_nil (w : World) : Calls Try.prog 19 #[.pointer none] w fun e w' => e = .returned (.int .i64 0) ∧ w = w' := by
  go_enter Try.func19, Try.ntmps19
  go_wp2
  go_ret
  exact ⟨rfl, rfl⟩

set_option maxHeartbeats 400000 in
theorem disk_Sectors (w : World) (g : Nat) (F : List Nat) (d : D) (h : PD w g F d) :
    Calls Try.prog 19 #[.pointer (some ⟨g, 0, none⟩)] w fun e w' => e = .returned (.int .i64 (d.ss.length : Int)) ∧ w = w' := by
  obtain ⟨vB, vP, fu, ⟨ok, hg, _, hB, _⟩, _⟩ := h
  obtain ⟨A, c, rfl, _⟩ := own_slice hB
  have few := ok.few
  have c0 := hg.cell 0
  clear hB ok hg
  simp at c0
  go_enter Try.func19, Try.ntmps19
  go_wp2
  go_ret
  exact ⟨ret_val (by go_num), rfl⟩

set_option maxHeartbeats 400000 in
theorem disk_there (w : World) (g : Nat) (F : List Nat) (d : D) (h : PD w g F d) (at_ n : Int) :
    Calls Try.prog 35 #[.pointer (some ⟨g, 0, none⟩), .int .i64 at_, .int .i64 n] w fun e w' => e = .returned (.int .i64 (thereE d.ss.length at_ n)) ∧ w = w' := by
  have few := h.ok.few
  by_cases h1 : at_ < 0
  · go_enter Try.func35, Try.ntmps35
    go_wp2
    go_ret
    exact ⟨ret_val (by simp [thereE, h1]), rfl⟩
  by_cases h2 : n < 0
  · go_enter Try.func35, Try.ntmps35
    go_wp2
    go_ret
    exact ⟨ret_val (by simp [thereE, h2]), rfl⟩
  by_cases h3 : at_ > d.ss.length
  · go_enter Try.func35, Try.ntmps35
    go_wp2_with (go_at_call 19; refine (disk_Sectors _ _ _ _ h).mono ?_; rintro e w' ⟨rfl, rfl⟩)
    go_ret
    exact ⟨ret_val (by simp [thereE, h3]), rfl⟩
  by_cases h4 : n > d.ss.length - at_
  all_goals
    go_enter Try.func35, Try.ntmps35
    go_wp2_with (go_at_call 19; refine (disk_Sectors _ _ _ _ h).mono ?_; rintro e w' ⟨rfl, rfl⟩)
    go_ret
    exact ⟨ret_val (by simp [thereE, *]), rfl⟩

theorem PDx.lt {w : World} {g : Nat} {vB vP : Value} {fu : Int} {d : D} (h : PDx w g vB vP fu d) : ∀ x ∈ g :: (vB.ownBlock.toList ++ vP.ownBlock.toList), x < w.heap.size := by
  intro x hx
  simp only [List.mem_cons, List.mem_append, Option.mem_toList] at hx
  rcases hx with rfl | hx | hx
  · exact h.blk.lt
  · exact own_lt h.bytes x hx
  · exact own_lt h.pend x hx
theorem PDx.kept {w w' : World} {g : Nat} {vB vP : Value} {fu : Int} {d : D} {l : List Nat} (h : PDx w g vB vP fu d) (hk : Kept l w w') (hl : ∀ x ∈ g :: (vB.ownBlock.toList ++ vP.ownBlock.toList), x ∉ l) : PDx w' g vB vP fu d :=
  ⟨h.ok, h.blk.kept hk (hl g (by simp)), h.fuse, hk.owns h.bytes (fun k e => hl k (by simp [e])), hk.owns h.pend (fun k e => hl k (by simp [e]))⟩
theorem PD.lt {w : World} {g : Nat} {F : List Nat} {d : D} (h : PD w g F d) : ∀ x ∈ F, x < w.heap.size := by
  obtain ⟨vB, vP, fu, h, rfl⟩ := h
  exact h.lt
theorem PD.mem_self {w : World} {g : Nat} {F : List Nat} {d : D} (h : PD w g F d) : g ∈ F := by
  obtain ⟨vB, vP, fu, _, rfl⟩ := h
  simp
theorem PD.kept {w w' : World} {g : Nat} {F l : List Nat} {d : D} (h : PD w g F d) (hk : Kept l w w') (hl : ∀ x ∈ F, x ∉ l) : PD w' g F d := by
  obtain ⟨vB, vP, fu, h, rfl⟩ := h
  exact ⟨vB, vP, fu, h.kept hk hl, rfl⟩
theorem PD.setDead {w : World} {g : Nat} {F : List Nat} {d : D} (h : PD w g F d) (b : Bool) : PD (w.setCell ⟨g, 3, none⟩ (.bool b)) g F { d with dead := b } := by
  obtain ⟨vB, vP, fu, ⟨ok, hg, h1, hB, hP⟩, rfl⟩ := h
  have hs := hg.set_ 3 (.bool b)
  simp at hs
  exact ⟨vB, vP, fu, ⟨⟨ok.s64, ok.few, ok.p64, ok.pat, ok.fuse⟩, hs, h1, own_set hB (own_ne hB hg (by decide)) _, own_set hP (own_ne hP hg (by decide)) _⟩, rfl⟩
theorem PD.setFuse {w : World} {g : Nat} {F : List Nat} {d : D} (h : PD w g F d) (f n : Int) (hn : max n (-1) = f) (h1 : -9223372036854775808 ≤ n) (h2 : n ≤ 9223372036854775807) : PD (w.setCell ⟨g, 2, none⟩ (.int .i64 n)) g F { d with fuse := f } := by
  obtain ⟨vB, vP, fu, ⟨ok, hg, _, hB, hP⟩, rfl⟩ := h
  have hs := hg.set_ 2 (.int .i64 n)
  simp at hs
  exact ⟨vB, vP, n, ⟨⟨ok.s64, ok.few, ok.p64, ok.pat, by constructor <;> simp <;> omega⟩, hs, ⟨hn, h1, h2⟩, own_set hB (own_ne hB hg (by decide)) _, own_set hP (own_ne hP hg (by decide)) _⟩, rfl⟩
theorem PD.open {w : World} {g : Nat} {F : List Nat} {d : D} (h : PD w g F d) : ∃ A a B b fu, w.cell? ⟨g, 0, none⟩ = some (.slice A (64 * d.ss.length) a) ∧ w.cell? ⟨g, 1, none⟩ = some (.slice B d.ps.length b) ∧ w.cell? ⟨g, 2, none⟩ = some (.int .i64 fu) ∧
    w.cell? ⟨g, 3, none⟩ = some (.bool d.dead) ∧ (∀ i, w.frozen? ⟨g, i, none⟩ = false) ∧ max fu (-1) = d.fuse ∧ -9223372036854775808 ≤ fu ∧ fu ≤ 9223372036854775807 := by
  obtain ⟨vB, vP, fu, ⟨ok, hg, h1, hB, hP⟩, rfl⟩ := h
  obtain ⟨A, a, rfl, _⟩ := own_slice hB
  obtain ⟨B, b, rfl, _⟩ := own_slice hP
  exact ⟨A, a, B, b, fu, hg.cell 0, hg.cell 1, hg.cell 2, hg.cell 3, hg.frozen, h1.1, h1.2.1, h1.2.2⟩

set_option maxHeartbeats 400000 in
theorem disk_thing (w : World) (g : Nat) (F : List Nat) (d : D) (h : PD w g F d) :
    Calls Try.prog 29 #[.pointer (some ⟨g, 0, none⟩)] w fun e w' => e = .returned (.bool d.thing.1) ∧ PD w' g F d.thing.2 ∧ Kept [g] w w' := by
  obtain ⟨A, a, B, b, fu, _, _, c2, c3, fz, hf, hf1, hf2⟩ := h.open
  have f2 := fz 2
  have f3 := fz 3
  have Hf := Lib.hid hf
  clear hf fz
  by_cases h0 : fu = 0
  · subst h0
    have e0 : d.fuse = 0 := by rw [← Hf.out]; rfl
    have ed : d.thing = (false, { d with dead := true }) := by rw [D.thing, if_pos e0]
    have Ed := Lib.hid ed
    clear e0 ed Hf
    go_enter Try.func29, Try.ntmps29
    go_wp2
    go_ret
    rw [Ed.out]
    exact ⟨rfl, h.setDead true, (Kept.refl _ _).setCell (.inl (by simp)) _⟩
  · by_cases h1 : 0 < fu
    · have e0 : d.fuse = fu := by rw [← Hf.out]; omega
      have ed : d.thing = (!d.dead, { d with fuse := fu - 1 }) := by rw [D.thing, if_neg (by omega), if_pos (by omega), e0]
      have Ed := Lib.hid ed
      clear e0 ed Hf
      go_enter Try.func29, Try.ntmps29
      go_wp2
      go_ret
      rw [Ed.out]
      exact ⟨rfl, h.setFuse (fu - 1) (fu - 1) (by omega) (by omega) (by omega), (Kept.refl _ _).setCell (.inl (by simp)) _⟩
    · have e0 : d.fuse = -1 := by rw [← Hf.out]; omega
      have ed : d.thing = (!d.dead, d) := by rw [D.thing, if_neg (by omega), if_neg (by omega)]
      have Ed := Lib.hid ed
      clear e0 ed Hf
      go_enter Try.func29, Try.ntmps29
      go_wp2
      go_ret
      rw [Ed.out]
      exact ⟨rfl, h, Kept.refl _ _⟩

theorem disk_Fail (w : World) (g : Nat) (F : List Nat) (d : D) (h : PD w g F d) (n : Int) (h1 : -9223372036854775808 ≤ n) (h2 : n ≤ 9223372036854775807) :
    Calls Try.prog 15 #[.pointer (some ⟨g, 0, none⟩), .int .i64 n] w fun e w' => e = .returned (.tuple #[]) ∧ PD w' g F { d with fuse := max n (-1) } ∧ Kept [g] w w' := by
  obtain ⟨A, a, B, b, fu, c0, c1, c2, c3, fz, hf, hf1, hf2⟩ := h.open
  have f2 := fz 2
  clear hf fz
  go_enter Try.func15, Try.ntmps15
  go_wp2
  go_end0
  exact ⟨rfl, h.setFuse _ n rfl h1 h2, (Kept.refl _ _).setCell (.inl (by simp)) _⟩
theorem disk_Fail_nil (w : World) (n : Int) : Calls Try.prog 15 #[.pointer none, .int .i64 n] w fun e w' => e = .returned (.tuple #[]) ∧ w = w' := by
  go_enter Try.func15, Try.ntmps15
  go_wp2
  go_end0
  exact ⟨rfl, rfl⟩
end Go.Proofs.Ytdifolhkbkaamaa
