/- The program's disk, its walks (seventh part): Clone. -/
import Derived.Test.YtgdbafinncajfaaDiskL
import Derived.Lib.BufferMore
import Derived.Deep.RegionHeld3
import Derived.Deep.MidRow
namespace Go.Proofs.Ytgdbafinncajfaa
open Go.RowKit

theorem cloneB_nil (w : World) : Calls Try.prog 46 #[.slice none 0 0] w fun e w' => e = .returned (.slice none 0 0) ∧ w = w' := by
  have he := fun W => Lib.run_eql_slice_nil_nil (P := Try.prog) W (t := 72) 0 0 Try.underlying72
  go_enter Try.func46, Try.ntmps46
  go_wp2
  go_ret
  exact ⟨rfl, rfl⟩
set_option maxHeartbeats 400000 in
theorem cloneB (w : World) (b o n c : Nat) (xs : List Value) (hl : xs.length = n * 1) (h1 : ∀ u ∈ xs, u.oneCell' = true) (hc : ∀ j u, xs[j]? = some u → w.cell? ⟨b, o + j, none⟩ = some u) (_hb : b < w.heap.size) (hn : n * 1 ≤ 140737488355328) :
    Calls Try.prog 46 #[.slice (some ⟨b, o, none⟩) n c] w fun e w' => ∃ v, e = .returned v ∧ w'.ownsRow 0 5 1 v n xs ∧ Kept [] w w' ∧ ∀ k, v.ownBlock = some k → w.heap.size ≤ k := by
  have he := fun W => Lib.run_eql_slice_some_nil (P := Try.prog) W (t := 72) ⟨b, o, none⟩ n c Try.underlying72
  obtain ⟨i0, hi0, hz0, hz1, hz2⟩ := info_parts infoB
  have hown : (w.alloc (.cells #[] 5)).ownsRow 0 5 1 (.slice (some ⟨w.heap.size, 0, none⟩) 0 0) 0 [] := ⟨by simp, .inr ⟨w.heap.size, 0, #[], rfl, Nat.zero_le _, heap_alloc_new w _, Nat.le_refl _, Nat.zero_le _, by simp, by simp⟩⟩
  have Hrun := fun ty => run_app (P := Try.prog) (w.alloc (.cells #[] 5)) 72 ty 5 i0 _ 1 1 Try.underlying72 hi0 hz0 hz1 hz2 rfl (by omega) _ 0 [] hown (some ⟨b, o, none⟩) n c xs hl (fun h => by cases h) (fun _ => ⟨b, o, rfl, fun j u hu => ((Kept.refl [] w).alloc _).cell (hc j u hu) (by simp)⟩) h1 (by simp only [maxLen]; omega) (by omega)
  have HRun := Lib.hid Hrun
  clear Hrun hown hc h1 hl hn
  go_enter Try.func46, Try.ntmps46
  go_wp2_with (at_builtin; refine wpList_app rfl (.tmp 5) (.tmp 6) _ rfl _ _ rfl rfl (HRun.out _) ?_; rintro v' w' ⟨h2, h3, h4⟩)
  go_ret
  refine ⟨v', rfl, by simpa using h2, (((Kept.refl [] w).alloc _).grown h3 (fun k hk => by simp [Value.ownBlock] at hk; omega)), fun k hk => ?_⟩
  rcases h4 with h4 | h4 <;> rw [h4] at hk <;> simp [Value.ownBlock] at hk <;> omega

theorem cloneW_nil (w : World) : Calls Try.prog 47 #[.slice none 0 0] w fun e w' => e = .returned (.slice none 0 0) ∧ w = w' := by
  have he := fun W => Lib.run_eql_slice_nil_nil (P := Try.prog) W (t := 73) 0 0 Try.underlying73
  go_enter Try.func47, Try.ntmps47
  go_wp2
  go_ret
  exact ⟨rfl, rfl⟩
set_option maxHeartbeats 400000 in
theorem cloneW (w : World) (b o n c : Nat) (xs : List Value) (hl : xs.length = n * 2) (h1 : ∀ u ∈ xs, u.oneCell' = true) (hc : ∀ j u, xs[j]? = some u → w.cell? ⟨b, o + j, none⟩ = some u) (_hb : b < w.heap.size) (hn : n * 24 ≤ 140737488355328) :
    Calls Try.prog 47 #[.slice (some ⟨b, o, none⟩) n c] w fun e w' => ∃ v, e = .returned v ∧ w'.ownsRow 0 79 2 v n xs ∧ Kept [] w w' ∧ ∀ k, v.ownBlock = some k → w.heap.size ≤ k := by
  have he := fun W => Lib.run_eql_slice_some_nil (P := Try.prog) W (t := 73) ⟨b, o, none⟩ n c Try.underlying73
  obtain ⟨i0, hi0, hz0, hz1, hz2⟩ := info_parts infoW
  have hown : (w.alloc (.cells #[] 79)).ownsRow 0 79 2 (.slice (some ⟨w.heap.size, 0, none⟩) 0 0) 0 [] := ⟨by simp, .inr ⟨w.heap.size, 0, #[], rfl, Nat.zero_le _, heap_alloc_new w _, Nat.le_refl _, Nat.zero_le _, by simp, by simp⟩⟩
  have Hrun := fun ty => run_app (P := Try.prog) (w.alloc (.cells #[] 79)) 73 ty 79 i0 _ 2 24 Try.underlying73 hi0 hz0 hz1 hz2 rfl (by omega) _ 0 [] hown (some ⟨b, o, none⟩) n c xs hl (fun h => by cases h) (fun _ => ⟨b, o, rfl, fun j u hu => ((Kept.refl [] w).alloc _).cell (hc j u hu) (by simp)⟩) h1 (by simp only [maxLen]; omega) (by omega)
  have HRun := Lib.hid Hrun
  clear Hrun hown hc h1 hl hn
  go_enter Try.func47, Try.ntmps47
  go_wp2_with (at_builtin; refine wpList_app rfl (.tmp 5) (.tmp 6) _ rfl _ _ rfl rfl (HRun.out _) ?_; rintro v' w' ⟨h2, h3, h4⟩)
  go_ret
  refine ⟨v', rfl, by simpa using h2, (((Kept.refl [] w).alloc _).grown h3 (fun k hk => by simp [Value.ownBlock] at hk; omega)), fun k hk => ?_⟩
  rcases h4 with h4 | h4 <;> rw [h4] at hk <;> simp [Value.ownBlock] at hk <;> omega


-- one contract for nil and for what is owned
theorem cloneB_own (w : World) (A : Option Addr) (n c : Nat) (xs : List Value) (h : w.ownsRow 0 5 1 (.slice A n c) n xs) (h1 : ∀ u ∈ xs, u.oneCell' = true) (hn : n * 1 ≤ 140737488355328) :
    Calls Try.prog 46 #[.slice A n c] w fun e w' => ∃ A' c', e = .returned (.slice A' n c') ∧ w'.ownsRow 0 5 1 (.slice A' n c') n xs ∧ Kept [] w w' ∧ ∀ k, (Value.slice A' n c').ownBlock = some k → w.heap.size ≤ k := by
  rcases h.2 with ⟨h0, rfl⟩ | ⟨g, cap, cur, h0, _, hg, _⟩
  · injection h0 with e1 _ e3
    subst e1; subst e3
    refine (cloneB_nil w).mono ?_
    rintro e w' ⟨rfl, rfl⟩
    exact ⟨none, 0, rfl, h, Kept.refl _ _, fun k hk => by cases hk⟩
  · injection h0 with e1 _ e3
    subst e1; subst e3
    have hc : ∀ j u, xs[j]? = some u → w.cell? ⟨g, 0 + j, none⟩ = some u := fun j u hu => by have := h.cells (g := g) rfl j u hu; rwa [Addr.add_lit] at this
    refine (cloneB w g 0 n c xs h.1 h1 hc (own_lt h g rfl) hn).mono ?_
    rintro e w' ⟨v, rfl, h2, h3, h4⟩
    obtain ⟨A', c', rfl, _⟩ := own_slice h2
    exact ⟨A', c', rfl, h2, h3, h4⟩

-- one contract for nil and for what is owned
theorem cloneW_own (w : World) (A : Option Addr) (n c : Nat) (xs : List Value) (h : w.ownsRow 0 79 2 (.slice A n c) n xs) (h1 : ∀ u ∈ xs, u.oneCell' = true) (hn : n * 24 ≤ 140737488355328) :
    Calls Try.prog 47 #[.slice A n c] w fun e w' => ∃ A' c', e = .returned (.slice A' n c') ∧ w'.ownsRow 0 79 2 (.slice A' n c') n xs ∧ Kept [] w w' ∧ ∀ k, (Value.slice A' n c').ownBlock = some k → w.heap.size ≤ k := by
  rcases h.2 with ⟨h0, rfl⟩ | ⟨g, cap, cur, h0, _, hg, _⟩
  · injection h0 with e1 _ e3
    subst e1; subst e3
    refine (cloneW_nil w).mono ?_
    rintro e w' ⟨rfl, rfl⟩
    exact ⟨none, 0, rfl, h, Kept.refl _ _, fun k hk => by cases hk⟩
  · injection h0 with e1 _ e3
    subst e1; subst e3
    have hc : ∀ j u, xs[j]? = some u → w.cell? ⟨g, 0 + j, none⟩ = some u := fun j u hu => by have := h.cells (g := g) rfl j u hu; rwa [Addr.add_lit] at this
    refine (cloneW w g 0 n c xs h.1 h1 hc (own_lt h g rfl) hn).mono ?_
    rintro e w' ⟨v, rfl, h2, h3, h4⟩
    obtain ⟨A', c', rfl, _⟩ := own_slice h2
    exact ⟨A', c', rfl, h2, h3, h4⟩

theorem pcells_one (ps : List (Nat × List UInt8)) : ∀ u ∈ ps.flatMap pcells, u.oneCell' = true := by
  intro u hu
  obtain ⟨p, _, hp⟩ := List.mem_flatMap.1 hu
  simp [pcells] at hp
  rcases hp with rfl | rfl <;> rfl

theorem disk_Clone_nil (w : World) : Calls Try.prog 29 #[.pointer none] w fun e w' => e = .returned (.pointer none) ∧ w = w' := by
  go_enter Try.func29, Try.ntmps29
  go_wp2
  go_ret
  exact ⟨rfl, rfl⟩

set_option maxHeartbeats 1000000 in
theorem disk_Clone (w : World) (g : Nat) (F : List Nat) (d : D) (h : PD w g F d) (hps : d.ps.length ≤ 100000000) :
    Calls Try.prog 29 #[.pointer (some ⟨g, 0, none⟩)] w fun e w' => ∃ g' F', e = .returned (.pointer (some ⟨g', 0, none⟩)) ∧ PD w' g' F' d ∧ Kept [] w w' ∧ ∀ x ∈ F', w.heap.size ≤ x := by
  obtain ⟨vB, vP, fu, hx, hF⟩ := h
  obtain ⟨A, a, hvB, _⟩ := own_slice hx.bytes
  obtain ⟨B, b, hvP, _⟩ := own_slice hx.pend
  have few := hx.ok.few
  have c0 := hx.blk.cell 0
  have c1 := hx.blk.cell 1
  have c2 := hx.blk.cell 2
  have c3 := hx.blk.cell 3
  simp [hvB] at c0
  simp [hvP] at c1
  simp at c2 c3
  have hB := hx.bytes
  have hP := hx.pend
  rw [hvB] at hB
  rw [hvP] at hP
  have Hx := Lib.hid hx
  have HB := Lib.hid hB
  have HP := Lib.hid hP
  clear hx hvB hvP hF hB hP
  go_enter Try.func29, Try.ntmps29
  go_wp2_with fail
  go_region_held3 (fun w' => w'.cell? ⟨g, 0, none⟩ = some (.slice A (64 * d.ss.length) a) ∧ w'.cell? ⟨g, 1, none⟩ = some (.slice B d.ps.length b) ∧ w'.cell? ⟨g, 2, none⟩ = some (.int .i64 fu) ∧ w'.cell? ⟨g, 3, none⟩ = some (.bool d.dead))
    (first | go_keep | (go_split_ands; exact ⟨hk2.cell ‹_› (fun h => by cases h), hk2.cell ‹_› (fun h => by cases h), hk2.cell ‹_› (fun h => by cases h), hk2.cell ‹_› (fun h => by cases h)⟩) | (go_split_ands; exact ⟨hk1.cell ‹_› (fun h => by cases h), hk1.cell ‹_› (fun h => by cases h), hk1.cell ‹_› (fun h => by cases h), hk1.cell ‹_› (fun h => by cases h)⟩))
    (first | (go_at_call 46; refine (cloneB_own _ A _ a _ (HB.out.drew) (bv_one _) (by omega)).mono ?_; rintro e w1 ⟨A1, a1, rfl, ho1, hk1, hf1⟩)
           | (go_at_call 47; refine (cloneW_own _ B _ b _ (hk1.owns HP.out.drew (fun _ _ h => by cases h)) (pcells_one _) (by omega)).mono ?_; rintro e w2 ⟨B1, b1, rfl, ho2, hk2, hf2⟩))
  go_wp2
  go_ret
  have k1 : Kept [] w w1 := (Kept.refl [] w).drew.trans hk1
  have k2 : Kept [] w w2 := k1.trans hk2
  have o1 := hk2.owns ho1 (fun _ _ h => by cases h)
  refine ⟨w2.heap.size, _, rfl, ⟨_, _, fu, ⟨Hx.out.ok, Blk.new _ _ _, Hx.out.fuse, ((Kept.refl [] w2).alloc _).owns o1 (fun _ _ h => by cases h), ((Kept.refl [] w2).alloc _).owns ho2 (fun _ _ h => by cases h)⟩, rfl⟩, k2.alloc _, ?_⟩
  intro x hx
  simp only [List.mem_cons, List.mem_append, Option.mem_toList] at hx
  have s1 := k1.size
  have s2 := k2.size
  rcases hx with rfl | hx | hx
  · exact s2
  · exact hf1 x hx
  · have := hf2 x hx; omega
end Go.Proofs.Ytgdbafinncajfaa
