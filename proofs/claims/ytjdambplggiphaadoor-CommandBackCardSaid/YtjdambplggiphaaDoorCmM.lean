/- Commands: the program's take. -/
import Derived.Test.YtjdambplggiphaaDoorCmL
namespace Go.Proofs.YtjdambplggiphaaDoor
open Go.RowKit Go.Lib

def idxF (f : UInt8) : Nat := if f = 105 then 1 else if f = 97 then 2 else 3
theorem cmd_number (b : Nat) (f : UInt8) (w : World) : Calls Tryd.prog 14 #[.pointer (some ⟨b, 0, none⟩), .int .i32 (f.toNat : Int)] w fun e w' => e = .returned (.pointer (some ⟨b, idxF f, none⟩)) ∧ w = w' := by
  by_cases h1 : f = 105
  · subst h1
    go_enter Tryd.func14, Tryd.ntmps14
    go_wp2_with fail
    go_ret
    exact ⟨rfl, rfl⟩
  · have n1 : (((f.toNat : Nat) : Int) == 105) = false := by
      rw [beq_eq_false_iff_ne]
      intro h
      exact h1 (UInt8.toNat_inj.1 (by
        have e : (105 : UInt8).toNat = 105 := rfl
        omega))
    by_cases h2 : f = 97
    · subst h2
      go_enter Tryd.func14, Tryd.ntmps14
      go_wp2_with fail
      go_ret
      exact ⟨rfl, rfl⟩
    · have n2 : (((f.toNat : Nat) : Int) == 97) = false := by
        rw [beq_eq_false_iff_ne]
        intro h
        exact h2 (UInt8.toNat_inj.1 (by
          have e : (97 : UInt8).toNat = 97 := rfl
          omega))
      have hi : Hid (idxF f = 3) := by rw [Hid, idxF, if_neg h1, if_neg h2]
      clear h1 h2
      go_enter Tryd.func14, Tryd.ntmps14
      go_wp2_with fail
      go_ret
      rw [hi.out]
      exact ⟨rfl, rfl⟩
def CTakePost (b : Nat) (c : Cm) (f : UInt8) (s : Bs) (w : World) (e : Ending) (w' : World) : Prop := Kept [b] w w' ∧ ∃ c' : Cm, e = .returned (.bool (takeL c f s).isSome) ∧ Blk w' b 23 (cmC c') ∧ ∀ c2, takeL c f s = some c2 → c' = c2
/-- with this number in its place -/
def putN (c : Cm) (f : UInt8) (n : Int) : Cm := if f = 105 then { c with id := n } else if f = 97 then { c with at_ := n } else { c with n := n }
theorem put_cells (c : Cm) (f : UInt8) (n : Int) : (cmC c).setIfInBounds (idxF f) (.int .i64 n) = cmC (putN c f n) := by
  unfold idxF putN
  by_cases h1 : f = 105
  · rw [if_pos h1, if_pos h1]
    rfl
  · rw [if_neg h1, if_neg h1]
    by_cases h2 : f = 97
    · rw [if_pos h2, if_pos h2]
      rfl
    · rw [if_neg h2, if_neg h2]
      rfl
theorem put_cell (c : Cm) (f : UInt8) : ∃ v, (cmC c)[idxF f]? = some (.int .i64 v) := by
  unfold idxF
  by_cases h1 : f = 105
  · rw [if_pos h1]
    exact ⟨_, rfl⟩
  · rw [if_neg h1]
    by_cases h2 : f = 97
    · rw [if_pos h2]
      exact ⟨_, rfl⟩
    · rw [if_neg h2]
      exact ⟨_, rfl⟩
theorem take_put {c : Cm} {f : UInt8} {s : Bs} (hf : f ≠ 100) : takeL c f s = (numL s mostN).map fun (v : Nat) => putN c f (v : Int) := by
  unfold takeL putN
  rw [if_neg hf]
set_option maxRecDepth 8000 in
set_option maxHeartbeats 4000000 in
theorem cmd_take (w0 : World) (hL : Laid w0) (b : Nat) (hb0 : w0.heap.size ≤ b) (c : Cm) (f : UInt8) (s : Bs) (w : World) (k0 : Kept [] w0 w) (hB : Blk w b 23 (cmC c)) (hs : s.length ≤ 1000000) : Calls Tryd.prog 20 #[.pointer (some ⟨b, 0, none⟩), .int .i32 (f.toNat : Int), .string ⟨s.toArray⟩] w (CTakePost b c f s w) := by
  by_cases hd : f = 100
  · have ht : takeL c f s = (bytL s).map fun d => { c with data := d } := if_pos hd
    have HP : Hid (∀ w', Kept [b] w w' → Blk w' b 23 (cmC { c with data := (bytL s).getD [] }) → CTakePost b c f s w (.returned (.bool (bytL s).isSome)) w') := fun w' k hb => by
      refine ⟨k, { c with data := (bytL s).getD [] }, ?_, hb, fun c2 h => ?_⟩
      · rw [ht, Option.isSome_map]
      · rw [ht] at h
        obtain ⟨d, hb, rfl⟩ := Option.map_eq_some_iff.1 h
        rw [hb]
        rfl
    have HBy := Lib.hid (fun w => cmd_bytes s w hs)
    unfold BytPost at HBy
    subst hd
    clear ht
    have HB := Lib.hid hB
    have hbl := hB.lt
    clear hB
    generalize CTakePost b c 100 s w = Q at *
    generalize (bytL s).getD [] = d at *
    generalize (bytL s).isSome = ok at *
    go_enter Tryd.func20, Tryd.ntmps20
    go_wp2_with fail
    refine (HBy.out _).mono ?_
    rintro e w1 ⟨rfl, k1⟩
    have HB1 := Lib.hid (HB.out.kept k1 (fun h => by cases h))
    have c4 := HB1.out.cell 4
    have f4 := HB1.out.frozen 4
    unfold cmC at c4
    simp only [List.getElem?_toArray, List.getElem?_cons_zero, List.getElem?_cons_succ] at c4
    have K1 : Hid (Kept [b] w w1) := k1.mono (fun x hx => by cases hx)
    clear k1
    go_wp2_with fail
    exact HP.out _ (K1.out.setCell (.inl (by simp)) _) (HB1.out.set_ 4 _)
  · have hdb : (((f.toNat : Nat) : Int) == 100) = false := by
      rw [beq_eq_false_iff_ne]
      intro h
      exact hd (UInt8.toNat_inj.1 (by
        have e : (100 : UInt8).toNat = 100 := rfl
        omega))
    have ht := take_put (c := c) (s := s) hd
    have HPN : Hid (∀ w' c', numL s mostN = none → Kept [b] w w' → Blk w' b 23 (cmC c') → CTakePost b c f s w (.returned (.bool false)) w') := fun w' c' hn k hb => by
      refine ⟨k, c', ?_, hb, fun c2 h => ?_⟩
      · rw [ht, hn]
        rfl
      · rw [ht, hn] at h
        cases h
    have HPY : Hid (∀ w' (v : Nat), numL s mostN = some v → Kept [b] w w' → Blk w' b 23 (cmC (putN c f (v : Int))) → CTakePost b c f s w (.returned (.bool true)) w') := fun w' v hn k hb => by
      refine ⟨k, _, ?_, hb, fun c2 h => ?_⟩
      · rw [ht, hn]
        rfl
      · rw [ht, hn] at h
        injection h with h
    have HAt := Lib.hid (fun w (h : Laid w) => lib_Atoi s hs w h)
    have HIt := Lib.hid (fun n h0 h1 w (h : Laid w) => lib_Itoa n h0 h1 w h)
    have HNu := Lib.hid (fun w => cmd_number b f w)
    have HPC := Lib.hid (fun n => put_cells c f n)
    obtain ⟨ov, hov⟩ := put_cell c f
    have HB := Lib.hid hB
    have hbl := hB.lt
    have hcx : Hid (∀ V, Blk V b 23 (cmC c) → V.cell? ⟨b, idxF f, none⟩ = some (.int .i64 ov)) := fun V h => by rw [h.cell, hov]
    clear hB ht hd
    generalize CTakePost b c f s w = Q at *
    generalize idxF f = ix at *
    go_enter Tryd.func20, Tryd.ntmps20
    go_wp2_with fail
    refine (HAt.out _ (hL.kept k0)).mono ?_
    rintro e w1 ⟨n, ev, rfl, hE, k1⟩
    have HB1 := Lib.hid (HB.out.kept k1 (fun h => by cases h))
    have K1 : Hid (Kept [b] w w1) := k1.mono (fun x hx => by cases hx)
    have K01 := Lib.hid (k0.trans k1)
    have HE := Lib.hid hE
    clear hE k1
    go_wp2_with fail
    refine (HNu.out _).mono ?_
    rintro e w2 ⟨rfl, rfl⟩
    have c4 := hcx.out _ HB1.out
    have f4 := HB1.out.frozen ix
    have KS : Hid (Kept [b] w (w1.setCell ⟨b, ix, none⟩ (.int .i64 n))) := K1.out.setCell (.inl (by simp)) _
    have KS0 : Hid (Kept [] w0 (w1.setCell ⟨b, ix, none⟩ (.int .i64 n))) := K01.out.setCell (.inr hb0) _
    have HBS : Hid (Blk (w1.setCell ⟨b, ix, none⟩ (.int .i64 n)) b 23 (cmC (putN c f n))) := by
      have h := HB1.out.set_ ix (.int .i64 n)
      rw [HPC.out] at h
      exact h
    rcases HE.out with ⟨hok, rfl⟩ | ⟨hbad, tp, pp, rfl⟩
    · have HG := Lib.hid (good_num (most := mostN) hok (by decide))
      obtain ⟨vb0, vb1⟩ := Lib.atoiAll_bounds hok
      have hgd : goodN s mostN n = (decide (0 ≤ n) && decide (n ≤ (mostN : Int)) && decide (itoa n = s)) := rfl
      have HGD := Lib.hid hgd
      clear hok hgd
      by_cases g1 : 0 ≤ n
      · by_cases g2 : n ≤ 2147483647
        · go_wp2_with fail
          refine (HIt.out n vb0 vb1 _ (hL.kept KS0.out)).mono ?_
          rintro e w3 ⟨rfl, k3⟩
          have K3 := Lib.hid (KS.out.nil_trans k3)
          have HB3 := Lib.hid (HBS.out.kept k3 (fun h => by cases h))
          clear k3
          by_cases g3 : itoa n = s
          · have hy : Hid (numL s mostN = some n.toNat) := (HG.out.1.1 (by rw [HGD.out, decide_eq_true g1, decide_eq_true g3, show decide (n ≤ (mostN : Int)) = true from decide_eq_true g2]; rfl)).1
            have HB4 : Hid (Blk w3 b 23 (cmC (putN c f ((n.toNat : Nat) : Int)))) := by
              rw [Int.toNat_of_nonneg g1]
              exact HB3
            rw [g3]
            go_wp2_with fail
            exact HPY.out _ _ hy.out K3.out HB4.out
          · have hn : Hid (numL s mostN = none) := HG.out.2.1 (by rw [HGD.out, decide_eq_false g3, Bool.and_false])
            have g3b : (itoa n == s) = false := by simpa using g3
            go_wp2_with fail
            exact HPN.out _ _ hn.out K3.out HB3.out
        · have hn : Hid (numL s mostN = none) := HG.out.2.1 (by rw [HGD.out, show decide (n ≤ (mostN : Int)) = false from decide_eq_false g2, Bool.and_false, Bool.false_and])
          go_wp2_with fail
          exact HPN.out _ _ hn.out KS.out HBS.out
      · have hn : Hid (numL s mostN = none) := HG.out.2.1 (by rw [HGD.out, decide_eq_false g1, Bool.false_and, Bool.false_and])
        go_wp2_with fail
        exact HPN.out _ _ hn.out KS.out HBS.out
    · have hn : Hid (numL s mostN = none) := bad_num hbad (by decide)
      clear hbad
      go_wp2_with fail
      exact HPN.out _ _ hn.out KS.out HBS.out
end Go.Proofs.YtjdambplggiphaaDoor
