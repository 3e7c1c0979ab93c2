/- Exceptions in runs: the live question, whose answer is fixed. -/
import Derived.Test.YtgbicbeofgpinaaRnL
import Derived.StillTailTactics
namespace Go.Proofs.Ytgbicbeofgpinaa
open Go.RowKit

theorem rdE_blk {W : World} {g : Nat} {l : List En} (h : Blk W g 36 (l.flatMap enE).toArray) : RdE W (some ⟨g, 0, none⟩) l := by
  refine ⟨by rw [flatMap_len 2 enE enE_len], fun _ => ⟨g, 0, rfl, h.lt, fun j u hu => ?_⟩⟩
  rw [Nat.zero_add, h.cell j]
  simpa using hu
theorem three {xs : List Rn} {a b c : List En} (h : xs.map (·.r) = [a, b, c]) : ∃ x y z, xs = [x, y, z] ∧ x.r = a ∧ y.r = b ∧ z.r = c := by
  match xs, h with
  | [x, y, z], h =>
    simp at h
    exact ⟨x, y, z, rfl, h.1, h.2.1, h.2.2⟩
theorem runs_Of_no (most : Int) (w : World) (A : Option Addr) (c : Nat) (l : List En) (hr : Hid (rightR most l = false)) (hA : RdE w A l) (hc : l.length ≤ c) (hn : l.length ≤ 8796093022208) (hmb : most ≤ 9223372036854775807) (ho : ∀ x ∈ l, x.org ≤ 9223372036854775807) :
    Calls Try.prog 7 #[.int .i64 most, .slice A l.length c] w fun e w' => e = .returned (.tuple #[.slice none 0 0, .int .i64 1]) ∧ Kept [] w w' := by
  refine (runs_Of most w A c l hA hc hn hmb ho).mono ?_
  rintro e w' (⟨_, h⟩ | ⟨h, _⟩)
  · exact h
  · rw [hr.out] at h
    cases h
def TrueK (w : World) (e : Ending) (w' : World) : Prop := e = .returned (.bool true) ∧ Kept [] w w'
set_option maxRecDepth 4000 in
set_option maxHeartbeats 2000000 in
theorem runs_alive (w : World) : Calls Try.prog 6 #[] w (TrueK w) := by
  have q1 : rightR 2 [⟨2, 0⟩, ⟨3, 5⟩, ⟨4, 0⟩, ⟨6, 0⟩] = true := by decide
  have q2 : runsR 2 [⟨2, 0⟩, ⟨3, 5⟩, ⟨4, 0⟩, ⟨6, 0⟩] = [[⟨2, 0⟩, ⟨3, 5⟩], [⟨4, 0⟩], [⟨6, 0⟩]] := by decide
  have q3 : rightR 9 [⟨2, 0⟩, ⟨3, 5⟩, ⟨4, 0⟩, ⟨6, 0⟩] = true := by decide
  have q4 : cutR 9 [⟨2, 0⟩, ⟨3, 5⟩, ⟨4, 0⟩, ⟨6, 0⟩] = 3 := by decide
  have q5 : rightR 2 [⟨3, 5⟩, ⟨2, 0⟩] = false := by decide
  replace q1 := Lib.hid q1
  replace q2 := Lib.hid q2
  replace q3 := Lib.hid q3
  replace q4 := Lib.hid q4
  replace q5 := Lib.hid q5
  go_enter Try.func6, Try.ntmps6
  go_wp2_with fail
  have B0 := Lib.hid (Blk.new w 36 #[.int .i64 2, .int .i64 0, .int .i64 3, .int .i64 5, .int .i64 4, .int .i64 0, .int .i64 6, .int .i64 0])
  have K0 := Lib.hid ((Kept.refl [] w).alloc (.cells #[.int .i64 2, .int .i64 0, .int .i64 3, .int .i64 5, .int .i64 4, .int .i64 0, .int .i64 6, .int .i64 0] 36))
  obtain ⟨W0, hW0⟩ : ∃ W0, W0 = w.alloc (.cells #[.int .i64 2, .int .i64 0, .int .i64 3, .int .i64 5, .int .i64 4, .int .i64 0, .int .i64 6, .int .i64 0] 36) := ⟨_, rfl⟩
  rw [← hW0] at B0 K0 ⊢
  clear hW0
  have R0 := Lib.hid (rdE_blk (l := [⟨2, 0⟩, ⟨3, 5⟩, ⟨4, 0⟩, ⟨6, 0⟩]) B0.out)
  refine (runs_Of 2 W0 (some ⟨w.heap.size, 0, none⟩) 4 [⟨2, 0⟩, ⟨3, 5⟩, ⟨4, 0⟩, ⟨6, 0⟩] R0.out (by simp) (by simp) (by omega) (by simp)).mono ?_
  rintro e w1 (⟨h, _⟩ | ⟨_, v, xs, rfl, hxs, ho, hx, k1⟩)
  · rw [q1.out] at h
    cases h
  rw [q2.out] at hxs
  obtain ⟨x, y, z, rfl, e1, e2, e3⟩ := three hxs
  obtain ⟨G, C, rfl, _⟩ := own_some ho (by simp)
  have c0 := own_cell1 ho 0 (rnV x) rfl
  have hx0 := (hx x (by simp)).1
  obtain ⟨xr, xg, xc⟩ := x
  dsimp only [rnV] at c0 hx0
  have e1' : xr = [⟨2, 0⟩, ⟨3, 5⟩] := e1
  subst e1'
  have cx := own_cellS hx0 3 (.int .i64 5) rfl
  clear hx0 hx hxs e1 e2 e3 ho
  simp only [List.length_cons, List.length_nil, Nat.reduceAdd] at c0 cx ⊢
  go_wp2_with fail
  have R1 := Lib.hid (R0.out.kept k1)
  refine (runs_First 9 w1 (some ⟨w.heap.size, 0, none⟩) 4 [⟨2, 0⟩, ⟨3, 5⟩, ⟨4, 0⟩, ⟨6, 0⟩] R1.out (by simp) (by simp) (by omega) (by simp)).mono ?_
  rintro e w2 (⟨h, _⟩ | ⟨_, h, _⟩ | ⟨_, _, u, rfl, hu, _, k2⟩)
  · rw [q3.out] at h
    cases h
  · cases h
  rw [q4.out] at hu
  obtain ⟨ur, ug, uc⟩ := u
  have e2' : ur = [⟨2, 0⟩, ⟨3, 5⟩, ⟨4, 0⟩] := hu
  subst e2'
  dsimp only [rnV]
  simp only [List.length_cons, List.length_nil, Nat.reduceAdd]
  have B2 := Lib.hid ((B0.out.kept k1 (fun h => by cases h)).kept k2 (fun h => by cases h))
  have b0 := B2.out.cell 0
  have b1 := B2.out.cell 1
  have b2 := B2.out.cell 2
  have b3 := B2.out.cell 3
  have c2 := k2.cell c0 (fun h => by cases h)
  have cx2 := k2.cell cx (fun h => by cases h)
  clear c0 cx hu
  go_wp2_with fail
  go_region_held3 (fun W => W.cell? ⟨w.heap.size, 2, none⟩ = some (.int .i64 3) ∧ W.cell? ⟨w.heap.size, 3, none⟩ = some (.int .i64 5) ∧ W.cell? ⟨w.heap.size, 0, none⟩ = some (.int .i64 2) ∧ W.cell? ⟨w.heap.size, 1, none⟩ = some (.int .i64 0)) (first | exact ⟨b2, b3, b0, b1⟩ | exact ⟨kk.cell b2 (fun h => by cases h), kk.cell b3 (fun h => by cases h), kk.cell b0 (fun h => by cases h), kk.cell b1 (fun h => by cases h)⟩ | go_keep) (first | (go_at_call 7; refine (runs_Of_no 2 _ (some ⟨w2.heap.size, 0, none⟩) 2 [⟨3, 5⟩, ⟨2, 0⟩] q5 (rdE_blk (Blk.new w2.drew _ _)) (by simp) (by simp) (by omega) (by simp)).mono ?_; rintro e w3 ⟨rfl, k3⟩; have kk : Kept [] w2 w3 := ((Kept.refl [] w2).drew.alloc _).trans k3))
  have c3 := kk.cell c2 (fun h => by cases h)
  have cx3 := kk.cell cx2 (fun h => by cases h)
  clear c2 cx2 b0 b1 b2 b3
  go_wp2_with fail
  go_ret
  exact ⟨rfl, ((K0.out.trans k1).trans k2).trans kk⟩
end Go.Proofs.Ytgbicbeofgpinaa
