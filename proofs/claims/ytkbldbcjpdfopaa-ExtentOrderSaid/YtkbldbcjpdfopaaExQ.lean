/- Extents: the live question, whose answer is fixed. -/
import Derived.Test.YtkbldbcjpdfopaaExP
import Derived.StillTailTactics
namespace Go.Proofs.Ytkbldbcjpdfopaa
open Go.RowKit

theorem right_of_fits {r : Ex} {l : List Ex} (h : inB r.st = true ∧ inB r.len = true) (h2 : fitsL r r.st (srt l) = true) : rightB r l = true := rightB_iff.2 ((rightX.perm (srt_perm l)).1 ((fits_right (srt_sorted l) h).1 h2))
theorem rdX_blk {W : World} {g : Nat} {l : List Ex} (h : Blk W g 23 (l.flatMap exE).toArray) : RdX W.heap.size W (some ⟨g, 0, none⟩) l := by
  refine ⟨by rw [flatMap_len 2 exE exE_len], fun _ => ⟨g, 0, rfl, h.lt, fun j u hu => ?_⟩⟩
  rw [Nat.zero_add, h.cell j]
  simpa using hu
theorem rdX_nil (W : World) (n : Nat) : RdX n W none [] := Rd.nil _ _ _ _
theorem fitX_of {r : Ex} {l : List Ex} {n : Int} {g : List Ex} {x : Ex × Int} (h : rightB r l = true) (hg : gapsX r l = g) (hn : ¬ n < 1) (hx : (match g.find? (fun x => decide (n ≤ x.len)) with | some x => ((⟨x.st, n⟩ : Ex), (0 : Int)) | none => (⟨0, 0⟩, 111)) = x) : fitX r n l = x := by
  unfold fitX
  rw [hg, ← hx]
  refine if_neg ?_
  rintro (h2 | h2)
  · exact hn h2
  · rw [h] at h2
    cases h2
def TrueK (w : World) (e : Ending) (w' : World) : Prop := e = .returned (.bool true) ∧ Kept [] w w'
set_option maxRecDepth 4000 in
set_option maxHeartbeats 2000000 in
theorem ext_alive (w : World) : Calls Try.prog 6 #[] w (TrueK w) := by
  have q1 : rightB ⟨10, 20⟩ [⟨20, 6⟩, ⟨12, 5⟩] = true := right_of_fits (by decide) (by decide)
  have q2 : gapsX ⟨10, 20⟩ [⟨20, 6⟩, ⟨12, 5⟩] = [⟨10, 2⟩, ⟨17, 3⟩, ⟨26, 4⟩] := by decide
  have q3 : fitX ⟨10, 20⟩ 4 [⟨20, 6⟩, ⟨12, 5⟩] = (⟨26, 4⟩, 0) := fitX_of q1 q2 (by decide) (by decide)
  have q4 : fitX ⟨10, 20⟩ 21 [] = (⟨0, 0⟩, 111) := fitX_of (right_of_fits (by decide) (by decide)) (g := [⟨10, 20⟩]) (by decide) (by decide) (by decide)
  have q5 : freeX ⟨10, 20⟩ [⟨12, 5⟩] = 15 := by
    unfold freeX
    rw [if_pos (right_of_fits (by decide) (by decide))]
    decide
  have H1 := fun (W : World) (g : Nat) (h : Blk W g 23 #[.int .i64 20, .int .i64 6, .int .i64 12, .int .i64 5]) => ext_Fit W W.heap.size ⟨10, 20⟩ 4 (some ⟨g, 0, none⟩) 2 [⟨20, 6⟩, ⟨12, 5⟩] (Nat.le_refl _) (by simp) (rdX_blk h) (by simp [wfX])
  have H2 := fun (W : World) (g : Nat) (h : Blk W g 23 #[.int .i64 20, .int .i64 6, .int .i64 12, .int .i64 5]) => ext_Gaps W W.heap.size ⟨10, 20⟩ (some ⟨g, 0, none⟩) 2 [⟨20, 6⟩, ⟨12, 5⟩] (Nat.le_refl _) (by simp) (rdX_blk h) (by simp [wfX])
  have H3 := fun (W : World) => ext_Fit W W.heap.size ⟨10, 20⟩ 21 none 0 [] (Nat.le_refl _) (by simp) (rdX_nil _ _) (by simp)
  have H4 := fun (W : World) (g : Nat) (h : Blk W g 23 #[.int .i64 12, .int .i64 5]) => ext_Free W W.heap.size ⟨10, 20⟩ (some ⟨g, 0, none⟩) 1 [⟨12, 5⟩] (Nat.le_refl _) (by simp) (rdX_blk h) (by simp [wfX])
  unfold FitPost at H1 H3
  rw [q3] at H1
  rw [q4] at H3
  rw [q5] at H4
  unfold GapsPost at H2
  rw [q1, q2] at H2
  clear q1 q2 q3 q4 q5
  unfold exV at H1 H2 H3 H4
  dsimp only at H1 H2 H3 H4
  simp only [List.length_cons, List.length_nil, Nat.reduceAdd] at H1 H2 H3 H4
  replace H1 := Lib.hid H1
  replace H2 := Lib.hid H2
  replace H3 := Lib.hid H3
  replace H4 := Lib.hid H4
  go_enter Try.func6, Try.ntmps6
  go_wp2_with fail
  refine (H1.out _ (w.heap.size + 1) (blk_new' (by simp))).mono ?_
  rintro e w1 ⟨rfl, k1⟩
  have K1 := Lib.hid ((((Kept.refl [] w).alloc _).alloc _).trans k1)
  have R1 := Lib.hid ((((Blk.new w 23 #[.int .i64 10, .int .i64 20])).alloc _).kept k1 (fun h => by cases h))
  have hz1 := R1.out.lt
  have c10 := R1.out.cell 0
  have c11 := R1.out.cell 1
  clear k1
  go_wp2_with fail
  have k1 : Kept [] w1 ((w1.alloc (.cells #[.int .i64 26, .int .i64 4] 23)).alloc (.cells #[.int .i64 20, .int .i64 6, .int .i64 12, .int .i64 5] 23)) := ((Kept.refl [] w1).alloc _).alloc _
  refine (H2.out _ (w1.heap.size + 1) (blk_new' (by simp))).mono ?_
  rintro e w2 ⟨k2, ⟨h, _⟩ | ⟨_, A2, c2, rfl, ho⟩⟩
  · cases h
  have K2 := Lib.hid ((K1.out.trans k1).trans k2)
  have R2 := Lib.hid ((R1.out.kept k1 (fun h => by cases h)).kept k2 (fun h => by cases h))
  have X2 := Lib.hid (((Blk.new w1 23 #[.int .i64 26, .int .i64 4]).alloc _).kept k2 (fun h => by cases h))
  obtain ⟨b, rfl, d0, d1⟩ := EAt.at_ ho (k := 1) (by simp)
  have D0 := Lib.hid d0
  have D1 := Lib.hid d1
  clear c10 c11 k1 k2 ho d0 d1
  have c10 := R2.out.cell 0
  have c11 := R2.out.cell 1
  have hz2 := R2.out.lt
  have hz3 := X2.out.lt
  generalize w1.heap.size = x1 at *
  go_wp2_with fail
  refine (H3.out _).mono ?_
  rintro e w3 ⟨rfl, k3⟩
  have K3 := Lib.hid (K2.out.trans k3)
  have R3 := Lib.hid (R2.out.kept k3 (fun h => by cases h))
  have X3 := Lib.hid (X2.out.kept k3 (fun h => by cases h))
  have E0 := Lib.hid (k3.cell D0.out (fun h => by cases h))
  have E1 := Lib.hid (k3.cell D1.out (fun h => by cases h))
  clear c10 c11 k3 D0 D1 R2 X2
  have k4 : Kept [] w3 (w3.alloc (.cells #[.int .i64 0, .int .i64 0] 23)) := (Kept.refl [] w3).alloc _
  have p0 := k4.cell (X3.out.cell 0) (fun h => by cases h)
  have p1 := k4.cell (X3.out.cell 1) (fun h => by cases h)
  have p2 := k4.cell (R3.out.cell 0) (fun h => by cases h)
  have p3 := k4.cell (R3.out.cell 1) (fun h => by cases h)
  have p4 := k4.cell E0.out (fun h => by cases h)
  have p5 := k4.cell E1.out (fun h => by cases h)
  dsimp only [List.getElem_cons_succ, List.getElem_cons_zero] at p4 p5
  go_wp2_with fail
  refine (H4.out _ (w3.heap.size + 1) (blk_new' (by simp))).mono ?_
  rintro e w4 ⟨rfl, k4'⟩
  have K4 := Lib.hid (((K3.out.alloc _).alloc _).trans k4')
  clear k4' k4
  go_wp2_with fail
  go_ret
  exact ⟨rfl, K4.out⟩
end Go.Proofs.Ytkbldbcjpdfopaa
