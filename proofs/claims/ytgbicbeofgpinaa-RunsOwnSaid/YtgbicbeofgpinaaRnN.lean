/- Exceptions in runs: the law: all runs, and the first one, are as the document says. -/
import Derived.Test.YtgbicbeofgpinaaRnM
namespace Go.Proofs.Ytgbicbeofgpinaa
open Go.RowKit

/-- two lists of lists are found one -/
theorem same_R_yes (w : World) (A B : Option Addr) (ca cb n1 n2 : Nat) (xs ys : List Rn) (h : Hid (xs.map (·.r) = ys.map (·.r))) (hA : w.ownsRow n1 22 1 (.slice A xs.length ca) xs.length (xs.map rnV)) (hB : w.ownsRow n2 22 1 (.slice B ys.length cb) ys.length (ys.map rnV))
    (hX : ∀ x ∈ xs, RnOk n1 x w) (hY : ∀ x ∈ ys, RnOk n2 x w) (hn : xs.length ≤ 1000000) (hm : ∀ x ∈ xs, x.r.length ≤ 1000000) :
    Calls Try.prog 11 #[.slice A xs.length ca, .slice B ys.length cb] w (TrueK w) :=
  (same_R w A B ca cb n1 n2 xs ys hA hB hX hY hn hm).mono fun _ _ k => ⟨by rw [k.1, decide_eq_true h.out], k.2.kept⟩
theorem same_E_yes (w : World) (A B : Option Addr) (ca cb : Nat) (la lb : List En) (h : Hid (la = lb)) (hA : RdE w A la) (hB : RdE w B lb) (hn : la.length ≤ 1000000) :
    Calls Try.prog 12 #[.slice A la.length ca, .slice B lb.length cb] w (TrueK w) :=
  (same_E w A B ca cb la lb hA hB hn).mono fun _ _ k => ⟨by rw [k.1, decide_eq_true h.out], k.2.kept⟩
theorem runs_le (most : Int) (l : List En) {xs : List Rn} (h : xs.map (·.r) = runsR most l) : xs.length ≤ l.length ∧ ∀ x ∈ xs, x.r.length ≤ l.length := by
  have h4 := congrArg List.length (runs_flat most _ l (Nat.le_refl _))
  have h5 := runs_ne most _ l (Nat.le_refl _)
  rw [← h] at h4 h5
  clear h
  rw [← h4]
  clear h4
  induction xs with
  | nil => exact ⟨by simp, fun x h => by cases h⟩
  | cons x xs ih =>
    have := ih (fun r hr => h5 r (List.mem_cons_of_mem _ hr))
    have h7 := List.length_pos_iff.2 (h5 x.r (List.mem_cons_self ..))
    refine ⟨by simp only [List.map_cons, List.flatten_cons, List.length_append, List.length_cons]; omega, fun y hy => ?_⟩
    simp only [List.map_cons, List.flatten_cons, List.length_append]
    rcases List.mem_cons.1 hy with rfl | hy
    · omega
    · have := this.2 y hy
      omega
theorem RnOk.down {n₀ n₁ : Nat} {x : Rn} {W : World} (h : RnOk n₀ x W) (hn : n₁ ≤ n₀) : RnOk n₁ x W := ⟨own_down h.1 hn, h.2⟩
/-- the answer in one form -/
def errR (most : Int) (l : List En) : Int := if rightR most l = true then 0 else 1
def allR (most : Int) (l : List En) : List (List En) := if rightR most l = true then runsR most l else []
def firstR (most : Int) (l : List En) : List En := if rightR most l = true then l.take (cutR most l) else []
theorem ofU {most : Int} {l : List En} {w w' : World} {e : Ending} (h : OfPost most l w e w') : ∃ (A : Option Addr) (c : Nat) (xs : List Rn), e = .returned (.tuple #[.slice A xs.length c, .int .i64 (errR most l)]) ∧ Hid (w'.ownsRow w.heap.size 22 1 (.slice A xs.length c) xs.length (xs.map rnV)) ∧ Hid (xs.map (·.r) = allR most l) ∧ Hid (∀ x ∈ xs, RnOk w.heap.size x w') ∧ Hid (Kept [] w w') ∧ xs.length ≤ l.length ∧ Hid (∀ x ∈ xs, x.r.length ≤ l.length) := by
  unfold errR allR
  rcases h with ⟨hr, rfl, k⟩ | ⟨hr, v, xs, rfl, h1, h2, h3, k⟩
  · refine ⟨none, 0, [], ?_, World.ownsRow_nil _ _ _ _, ?_, (fun _ h => by cases h), k, Nat.zero_le _, (fun _ h => by cases h)⟩
    · rw [hr]; rfl
    · rw [Hid, hr]; rfl
  · obtain ⟨A, c, rfl, _⟩ := own_slice h2
    have hb := runs_le most l h1
    refine ⟨A, c, xs, ?_, h2, ?_, h3, k, hb.1, hb.2⟩
    · rw [if_pos hr]
    · rw [Hid, if_pos hr]; exact h1
theorem firstU {most : Int} {l : List En} {w w' : World} {e : Ending} (h : FirstPost most l w e w') : ∃ (A : Option Addr) (c : Nat) (r : List En), e = .returned (.tuple #[.slice A r.length c, .int .i64 (errR most l)]) ∧ Hid (RdE w' A r) ∧ Hid (r = firstR most l) ∧ Hid (Kept [] w w') ∧ r.length ≤ l.length := by
  unfold errR firstR
  rcases h with ⟨hr, rfl, k⟩ | ⟨hr, rfl, rfl, k⟩ | ⟨hr, hne, x, rfl, hx, h3, k⟩
  · refine ⟨none, 0, [], ?_, Rd.nil _ _ _ _, ?_, k, Nat.zero_le _⟩
    · rw [hr]; rfl
    · rw [Hid, hr]; rfl
  · refine ⟨none, 0, [], ?_, Rd.nil _ _ _ _, ?_, k, Nat.zero_le _⟩
    · rw [if_pos hr]; rfl
    · rw [Hid, if_pos hr]; rfl
  · refine ⟨_, x.c, x.r, ?_, h3.rd, ?_, k, ?_⟩
    · rw [if_pos hr]; rfl
    · rw [Hid, if_pos hr]; exact hx
    · rw [hx, List.length_take]; omega
set_option maxRecDepth 4000 in
set_option maxHeartbeats 2000000 in
theorem runs_tell (most : Int) (w : World) (A : Option Addr) (c : Nat) (l : List En) (hA : RdE w A l) (hc : l.length ≤ c) (hm : l.length ≤ maxLen) (hmb : most ≤ 9223372036854775807) (ho : ∀ x ∈ l, x.org ≤ 9223372036854775807) :
    Calls Try.prog 3 #[.int .i64 most, .slice A l.length c] w (TrueK w) := by
  unfold maxLen at hm
  by_cases hn : l.length ≤ 100
  · have hA0 := Lib.hid hA
    have hn0 : l.length ≤ 1000000 := by omega
    clear hA
    have hO := Lib.hid ho
    clear ho
    go_enter Try.func3, Try.ntmps3
    go_wp2_with fail
    refine (runs_Of most w A c l hA0.out hc (by omega) hmb hO.out).mono ?_
    intro e w1 h
    obtain ⟨A1, c1, xs, rfl, HO1, HS1, HX1, K1, hl1, hb1⟩ := ofU h
    clear h
    go_wp2_with fail
    refine (ref_Of most w1 A c l (hA0.out.kept K1.out) hn0 hO.out).mono ?_
    intro e w2 h
    obtain ⟨A2, c2, ys, rfl, HO2, HS2, HX2, K2, hl2, hb2⟩ := ofU h
    clear h
    have K02 := Lib.hid (K1.out.trans K2.out)
    have P1 := Lib.hid (K2.out.owns HO1.out (fun _ _ h => by cases h))
    have P2 : Hid (∀ x ∈ xs, RnOk w.heap.size x w2) := fun x hx => (HX1.out x hx).kept K2.out (fun h => by cases h)
    go_wp2_with fail
    refine (runs_First most w2 A c l (hA0.out.kept K02.out) hc (by omega) hmb hO.out).mono ?_
    intro e w3 h
    obtain ⟨A3, c3, u, rfl, HU, HU2, K3, hlu⟩ := firstU h
    clear h
    have K03 := Lib.hid (K02.out.trans K3.out)
    go_wp2_with fail
    refine (ref_First most w3 A c l (hA0.out.kept K03.out) hn0 hO.out).mono ?_
    intro e w4 h
    obtain ⟨A4, c4, v, rfl, HV, HV2, K4, hlv⟩ := firstU h
    clear h
    have K04 := Lib.hid (K03.out.trans K4.out)
    have K24 := Lib.hid (K3.out.trans K4.out)
    have HE : Hid (u = v) := HU2.out.trans HV2.out.symm
    have HR : Hid (xs.map (·.r) = ys.map (·.r)) := HS1.out.trans HS2.out.symm
    have hxs : xs.length ≤ 1000000 := by omega
    have hus : u.length ≤ 1000000 := by omega
    go_wp2_with fail
    refine (same_R_yes w4 A1 A2 c1 c2 _ _ xs ys HR (K24.out.owns P1.out (fun _ _ h => by cases h)) (K24.out.owns HO2.out (fun _ _ h => by cases h)) (fun x hx => (P2.out x hx).kept K24.out (fun h => by cases h)) (fun x hx => (HX2.out x hx).kept K24.out (fun h => by cases h)) hxs (fun x hx => Nat.le_trans (hb1.out x hx) hn0)).mono ?_
    rintro e w5 ⟨rfl, k5⟩
    have K05 := Lib.hid (K04.out.trans k5)
    have U5 := Lib.hid ((HU.out.kept K4.out).kept k5)
    have V5 := Lib.hid (HV.out.kept k5)
    clear k5
    go_wp2_with fail
    refine (runs_alive w5).mono ?_
    rintro e w6 ⟨rfl, k6⟩
    have K06 := Lib.hid (K05.out.trans k6)
    have U6 := Lib.hid (U5.out.kept k6)
    have V6 := Lib.hid (V5.out.kept k6)
    clear k6
    go_wp2_with fail
    refine (same_E_yes w6 A3 A4 c3 c4 u v HE U6.out V6.out hus).mono ?_
    rintro e w7 ⟨rfl, k7⟩
    go_wp2_with fail
    go_ret
    exact ⟨rfl, K06.out.trans k7⟩
  · go_enter Try.func3, Try.ntmps3
    go_wp2_with (go_at_call 6; refine (runs_alive _).mono ?_; rintro e w1 ⟨rfl, k1⟩)
    go_ret
    exact ⟨rfl, k1⟩
end Go.Proofs.Ytgbicbeofgpinaa
