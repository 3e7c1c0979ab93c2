/- Dumps: the law DumpParses. -/
import Derived.Test.YtooplogodcadgaaDoorDvD
namespace Go.Proofs.YtooplogodcadgaaDoor
open Go.RowKit Go.Lib

theorem flat_ge : ∀ {xs : List Sl}, xs.length ≤ (xs.flatMap slotLines).length ∧ ∀ x ∈ xs, x.ents.length ≤ (xs.flatMap slotLines).length
  | [] => ⟨Nat.le_refl _, fun _ h => by cases h⟩
  | x :: xs => by
    obtain ⟨h1, h2⟩ := flat_ge (xs := xs)
    have hl : (slotLines x).length = x.ents.length + 1 := by simp [slotLines]
    rw [List.flatMap_cons, List.length_append, hl, List.length_cons]
    refine ⟨by omega, fun y hy => ?_⟩
    rcases List.mem_cons.1 hy with rfl | hy
    · omega
    · have := h2 y hy
      omega
theorem flat_le : ∀ {xs : List Sl}, (∀ x ∈ xs, x.ents.length ≤ 60) → (xs.flatMap slotLines).length ≤ xs.length * 61
  | [], _ => Nat.zero_le _
  | x :: xs, h => by
    have ih := flat_le (xs := xs) (fun y hy => h y (List.mem_cons_of_mem _ hy))
    have hl : (slotLines x).length = x.ents.length + 1 := by simp [slotLines]
    have hx := h x List.mem_cons_self
    rw [List.flatMap_cons, List.length_append, hl, List.length_cons]
    omega
theorem lines_parts {r : Rp} {l : List Bs} (h : linesD r = some l) : okH r = true ∧ (∀ x ∈ r.lines, okS x = true) ∧ l = headL r :: r.lines.flatMap slotLines := by
  unfold linesD at h
  split at h
  · rename_i hh
    injection h with h
    exact ⟨hh.1, List.all_eq_true.1 hh.2, h.symm⟩
  · cases h
theorem parse_small {r : Rp} {l : List Bs} (h : parseD l = some r) : r.lines.length ≤ l.length ∧ ∀ x ∈ r.lines, x.ents.length ≤ l.length := by
  obtain ⟨_, _, e⟩ := lines_parts (lines_parse h)
  obtain ⟨h1, h2⟩ := flat_ge (xs := r.lines)
  rw [e, List.length_cons]
  exact ⟨by omega, fun x hx => by have := h2 x hx; omega⟩
def resP (l : List Bs) : Rp := (parseD l).getD ⟨0, 0, 0, []⟩
def errP (l : List Bs) : Int := if (parseD l).isSome then 0 else 32
theorem resP_small (l : List Bs) : (resP l).lines.length ≤ l.length ∧ ∀ x ∈ (resP l).lines, x.ents.length ≤ l.length := by
  unfold resP
  cases h : parseD l with
  | none => exact ⟨Nat.zero_le _, fun _ h => by cases h⟩
  | some r => exact parse_small h
theorem ppost_is {T : TypeId} {l : List Bs} {w w' : World} {e : Ending} (h : PPost T 32 l w e w') : Kept [] w w' ∧ ∃ (AV : Option Addr) (cV : Nat) (ps : List Pr), e = .returned (.tuple #[repV (resP l).sec (resP l).org (resP l).chk (.slice AV ps.length cV), .int .i64 (errP l)]) ∧ ps.map (·.1) = (resP l).lines ∧ LRd w' AV ps := by
  obtain ⟨k, ⟨hno, rfl⟩ | ⟨r, V, ps, hy, rfl, hps, _, o⟩⟩ := h
  · refine ⟨k, none, 0, [], ?_, ?_, Rd.nil _ _ _ _, fun _ h => by cases h⟩
    · unfold resP errP
      rw [hno]
      rfl
    · unfold resP
      rw [hno]
      rfl
  · obtain ⟨AV, cV, rfl⟩ := o.slice
    refine ⟨k, AV, cV, ps, ?_, ?_, o.rd⟩
    · unfold resP errP
      rw [hy]
      rfl
    · unfold resP
      rw [hy]
      exact hps
theorem map_small {ps : List Pr} {xs : List Sl} {n : Nat} (h : ps.map (·.1) = xs) (hn : xs.length ≤ n) (he : ∀ x ∈ xs, x.ents.length ≤ n) : ps.length ≤ n ∧ ∀ p ∈ ps, p.1.ents.length ≤ n := by
  subst h
  rw [List.length_map] at hn
  exact ⟨hn, fun p hp => he p.1 (List.mem_map.2 ⟨p, hp, rfl⟩)⟩
set_option maxRecDepth 8000 in
set_option maxHeartbeats 4000000 in
theorem law_DumpParses (A : Option Addr) (c : Nat) (l : List Bs) (w : World) (hL : Laid w) (hT : TRd w A l) (hc : l.length ≤ c) (hn : l.length ≤ maxLen) (hs : ∀ x ∈ l, x.length ≤ maxLen) : Calls Tryd.prog 4 #[.slice A l.length c] w fun e w' => e = .returned (.bool true) ∧ Kept [] w w' := by
  have HT := Lib.hid hT
  have HLd := Lib.hid hL
  have HTx := Lib.hid (law_texts A c l w hT hn hs)
  unfold TextsPost at HTx
  have HAl : Hid (∀ V, Kept [] w V → Calls Tryd.prog 7 #[] V fun e w' => e = .returned (.bool true) ∧ Kept [] V w') := fun V k => dump_alive V (hL.kept k)
  clear hL hT hs
  go_enter Tryd.func4, Tryd.ntmps4
  go_wp2_with fail
  refine HTx.out.mono ?_
  rintro e w1 ⟨v, rfl, hv, rfl⟩
  cases v with
  | false =>
    clear hv
    go_wp2_with fail
    refine (HAl.out _ (Kept.refl _ _)).mono ?_
    rintro e w2 ⟨rfl, k2⟩
    replace k2 := Lib.hid k2
    go_wp2_with fail
    go_ret
    exact ⟨rfl, k2.out⟩
  | true =>
    obtain ⟨h60, h200⟩ := hv rfl
    have HP := Lib.hid (dump_Parse A c l w HLd.out HT.out hc (by omega) (fun x hx => by have := h200 x hx; omega))
    have HRP : Hid (∀ V, Kept [] w V → Calls Tryd.prog 14 #[.slice A l.length c] V (PPost 64 32 l V)) := fun V k => ref_Parse A c l V (HT.out.kept k) (by omega) (fun x hx => by have := h200 x hx; omega)
    obtain ⟨hsm1, hsm2⟩ := resP_small l
    replace hsm1 := Lib.hid hsm1
    replace hsm2 := Lib.hid hsm2
    replace h200 := Lib.hid h200
    replace h60 := Lib.hid h60
    clear hv HTx
    go_wp2_with fail
    refine HP.out.mono ?_
    rintro e w2 h2
    obtain ⟨k2, AV, cV, ps, rfl, hps, hV⟩ := ppost_is h2
    have K2 := Lib.hid k2
    obtain ⟨b1, b2⟩ := map_small hps hsm1.out hsm2.out
    replace hps := Lib.hid hps
    have HV := Lib.hid hV
    clear h2 k2 hV HP
    unfold repV
    go_wp2_with fail
    have kA := (Kept.refl [] w2).alloc (.cells #[.int .i64 (resP l).sec, .int .i64 (resP l).org, .int .i64 (resP l).chk, .slice AV ps.length cV] 26)
    have T4 := Blk.new w2 26 #[.int .i64 (resP l).sec, .int .i64 (resP l).org, .int .i64 (resP l).chk, .slice AV ps.length cV]
    refine (HRP.out _ (K2.out.alloc _)).mono ?_
    rintro e w3 h3
    obtain ⟨k3, AQ, cQ, qs, rfl, hqs, hQ⟩ := ppost_is h3
    have K3 := Lib.hid ((K2.out.alloc (.cells #[.int .i64 (resP l).sec, .int .i64 (resP l).org, .int .i64 (resP l).chk, .slice AV ps.length cV] 26)).trans k3)
    have HV3 := Lib.hid (HV.out.kept (kA.trans k3))
    have T5 := (T4.kept k3 (fun h => by cases h)).alloc (.cells #[.int .i64 (resP l).sec, .int .i64 (resP l).org, .int .i64 (resP l).chk, .slice AQ qs.length cQ] 36)
    have Q5 := Blk.new w3 36 #[.int .i64 (resP l).sec, .int .i64 (resP l).org, .int .i64 (resP l).chk, .slice AQ qs.length cQ]
    obtain ⟨u0, u1, u2, u3⟩ := blk4 T5
    obtain ⟨u4, u5, u6, u7⟩ := blk4 Q5
    have kB := Lib.hid (((Kept.refl [] w3).alloc (.cells #[.int .i64 (resP l).sec, .int .i64 (resP l).org, .int .i64 (resP l).chk, .slice AQ qs.length cQ] 36)).drew)
    have HOf := Lib.hid (law_of (resP l).sec (resP l).org (resP l).chk AV cV ps ((w3.alloc (.cells #[.int .i64 (resP l).sec, .int .i64 (resP l).org, .int .i64 (resP l).chk, .slice AQ qs.length cQ] 36)).drew) (HV3.out.kept kB.out) (by have := h60.out; omega))
    unfold OfPost repV at HOf
    have HQ3 := Lib.hid (hQ.kept kB.out)
    have hsame : ps.map (·.1) = qs.map (·.1) := hps.out.trans hqs.symm
    have HSa : Hid (∀ (B : Option Addr) (cB : Nat) (V : World), Kept [] ((w3.alloc (.cells #[.int .i64 (resP l).sec, .int .i64 (resP l).org, .int .i64 (resP l).chk, .slice AQ qs.length cQ] 36)).drew) V → LRd V B ps → Calls Tryd.prog 15 #[.agg #[.int .i64 (resP l).sec, .int .i64 (resP l).org, .int .i64 (resP l).chk, .slice B ps.length cB], .agg #[.int .i64 (resP l).sec, .int .i64 (resP l).org, .int .i64 (resP l).chk, .slice AQ qs.length cQ]] V fun e w' => e = .returned (.bool true) ∧ Kept [] V w') := fun B cB V k h => law_same (resP l).sec (resP l).org (resP l).chk B AQ cB cQ ps qs V h (HQ3.out.kept k) hsame (by have := h60.out; omega) (fun p hp => by have := b2 p hp; have := h60.out; omega)
    clear hsame hqs hQ h3 k3 kA T4 T5 Q5
    replace b2 := Lib.hid b2
    unfold repV
    go_wp2_with fail
    go_region_held3 (fun W => W.cell? ⟨w2.heap.size, 0, none⟩ = some (.int .i64 (resP l).sec) ∧ W.cell? ⟨w2.heap.size, 1, none⟩ = some (.int .i64 (resP l).org) ∧ W.cell? ⟨w2.heap.size, 2, none⟩ = some (.int .i64 (resP l).chk) ∧ W.cell? ⟨w2.heap.size, 3, none⟩ = some (.slice AV ps.length cV) ∧ W.cell? ⟨w3.heap.size, 0, none⟩ = some (.int .i64 (resP l).sec) ∧ W.cell? ⟨w3.heap.size, 1, none⟩ = some (.int .i64 (resP l).org) ∧ W.cell? ⟨w3.heap.size, 2, none⟩ = some (.int .i64 (resP l).chk) ∧ W.cell? ⟨w3.heap.size, 3, none⟩ = some (.slice AQ qs.length cQ)) (first | exact ⟨u0, u1, u2, u3, u4, u5, u6, u7⟩ | exact ⟨v0, v1, v2, v3, v4, v5, v6, v7⟩ | exact ⟨x0, x1, x2, x3, x4, x5, x6, x7⟩ | go_keep) (first | (go_at_call 10; refine HOf.out.mono ?_; rintro e w5 ⟨B, cB, rfl, hLB, k5⟩; have v0 := k5.cell u0 (fun h => by cases h); have v1 := k5.cell u1 (fun h => by cases h); have v2 := k5.cell u2 (fun h => by cases h); have v3 := k5.cell u3 (fun h => by cases h); have v4 := k5.cell u4 (fun h => by cases h); have v5 := k5.cell u5 (fun h => by cases h); have v6 := k5.cell u6 (fun h => by cases h); have v7 := k5.cell u7 (fun h => by cases h); have HB5 := Lib.hid hLB; have k5h := Lib.hid k5; clear hLB k5) | (go_at_call 15; refine (HSa.out B cB w5 k5h.out HB5.out).mono ?_; rintro e w6 ⟨rfl, k6⟩; have x0 := k6.cell v0 (fun h => by cases h); have x1 := k6.cell v1 (fun h => by cases h); have x2 := k6.cell v2 (fun h => by cases h); have x3 := k6.cell v3 (fun h => by cases h); have x4 := k6.cell v4 (fun h => by cases h); have x5 := k6.cell v5 (fun h => by cases h); have x6 := k6.cell v6 (fun h => by cases h); have x7 := k6.cell v7 (fun h => by cases h); have k6h := Lib.hid k6; clear k6))
    have K6 := Lib.hid (((K3.out.trans kB.out).trans k5h.out).trans k6h.out)
    go_wp2_with fail
    refine (HAl.out _ K6.out).mono ?_
    rintro e w7 ⟨rfl, k7⟩
    have K7 := Lib.hid (K6.out.trans k7)
    clear k7
    go_wp2_with fail
    go_ret
    exact ⟨rfl, K7.out⟩
end Go.Proofs.YtooplogodcadgaaDoor
