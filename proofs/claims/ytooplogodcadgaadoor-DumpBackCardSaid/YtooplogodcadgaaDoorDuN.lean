/- Dumps: the program's words: end, number. -/
import Derived.Test.YtooplogodcadgaaDoorDuM
namespace Go.Proofs.YtooplogodcadgaaDoor
open Go.RowKit Go.Lib

def badV : PanicEntry := { v := .iface 67 (.agg #[]), recovered := false }
def EndPost (ws : List Bs) (w : World) (e : Ending) (w' : World) : Prop := ((ws = [] ∧ e = .returned (.tuple #[])) ∨ (ws ≠ [] ∧ e = .panicked [badV])) ∧ w = w'
theorem dump_end (R : Nat) (ws : List Bs) (w : World) (h : WAt w R ws) (hn : ws.length ≤ 1000000) : Calls Tryd.prog 35 #[.pointer (some ⟨R, 0, none⟩)] w (EndPost ws w) := by
  obtain ⟨A, c, hB, hw⟩ := h
  have hc := hB.cell 0
  simp only [List.getElem?_toArray, List.getElem?_cons_zero] at hc
  cases ws with
  | nil =>
    have HF : Hid (EndPost [] w (.returned (.tuple #[])) w) := ⟨.inl ⟨rfl, rfl⟩, rfl⟩
    generalize EndPost [] w = Q at *
    rw [List.length_nil] at hc
    clear hw
    go_enter Tryd.func35, Tryd.ntmps35
    go_wp2_with fail
    go_end0
    exact HF.out
  | cons x t =>
    have HF : Hid (EndPost (x :: t) w (.panicked [badV]) w) := ⟨.inr ⟨(fun h => by cases h), rfl⟩, rfl⟩
    generalize EndPost (x :: t) w = Q at *
    rw [List.length_cons] at hc hn
    have hl1 : (0 : Int) < (t.length : Int) + 1 := by omega
    clear hw
    go_enter Tryd.func35, Tryd.ntmps35
    go_wp2_with fail
    exact ⟨rfl, HF.out⟩
def NumberPost (R : Nat) (ws : List Bs) (w : World) (e : Ending) (w' : World) : Prop := Kept [R] w w' ∧ ((numP (ws.headD []) = none ∧ e = .panicked [badV]) ∨ ∃ n : Int, numP (ws.headD []) = some n ∧ e = .returned (.int .i64 n) ∧ WAt w' R ws.tail)
set_option maxRecDepth 4000 in
set_option maxHeartbeats 2000000 in
theorem dump_number (R : Nat) (ws : List Bs) (w : World) (hL : ∀ V, Kept [R] w V → Laid V) (h : WAt w R ws) (hn : ws.length ≤ 1000000) (hx : (ws.headD []).length ≤ 1000000) : Calls Tryd.prog 34 #[.pointer (some ⟨R, 0, none⟩)] w (NumberPost R ws w) := by
  have HNo : Hid (∀ w', numP (ws.headD []) = none → Kept [R] w w' → NumberPost R ws w (.panicked [badV]) w') := fun w' h k => ⟨k, .inl ⟨h, rfl⟩⟩
  have HYes : Hid (∀ w' (n : Int), numP (ws.headD []) = some n → Kept [R] w w' → WAt w' R ws.tail → NumberPost R ws w (.returned (.int .i64 n)) w') := fun w' n h k a => ⟨k, .inr ⟨n, h, rfl, a⟩⟩
  have HNx := Lib.hid (dump_next R ws w h hn)
  unfold NextPost at HNx
  generalize NumberPost R ws w = Q at *
  generalize ws.headD [] = x at *
  generalize ws.tail = t at *
  have HL := Lib.hid hL
  clear hL h
  go_enter Tryd.func34, Tryd.ntmps34
  go_wp2_with fail
  refine HNx.out.mono ?_
  rintro e w1 ⟨rfl, a1, k1⟩
  have A1 := Lib.hid a1
  have K1 := Lib.hid k1
  clear a1 k1 HNx
  go_wp2_with fail
  refine (lib_Atoi x hx w1 (HL.out w1 K1.out)).mono ?_
  rintro e w2 ⟨n, ev, rfl, hend, k2⟩
  have K2 := Lib.hid (K1.out.trans (k2.mono (fun _ h => by cases h)))
  have A2 := Lib.hid (A1.out.kept k2)
  clear k2
  unfold AtoiEnd at hend
  rcases hend with ⟨hok, rfl⟩ | ⟨hno, tt, pp, rfl⟩
  · obtain ⟨g1, g2⟩ := good_num (most := m32) hok (by decide)
    have HGT : Hid (in32 n = true → itoa n = x → numP x = some n) := fun h1 h2 => by
      obtain ⟨b0, b1⟩ := in32_iff.1 h1
      obtain ⟨c1, c2⟩ := g1.1 (by
        unfold goodN
        rw [decide_eq_true b0, decide_eq_true (show n ≤ (m32 : Int) from b1), decide_eq_true h2]
        rfl)
      unfold numP
      rw [c1]
      show some ((n.toNat : Nat) : Int) = some n
      rw [show ((n.toNat : Nat) : Int) = n by omega]
    have HGF : Hid (¬ (in32 n = true ∧ itoa n = x) → numP x = none) := fun h => by
      have : goodN x m32 n = false := by
        rw [Bool.eq_false_iff]
        intro hg
        unfold goodN at hg
        simp only [Bool.and_eq_true, decide_eq_true_eq] at hg
        exact h ⟨in32_iff.2 ⟨hg.1.1, hg.1.2⟩, hg.2⟩
      unfold numP
      rw [g2.1 this]
      rfl
    clear g1 g2 hok
    have HIn := Lib.hid (dump_in (w2.alloc (.cells #[.int .i64 n] 3)) w2.heap.size 1 [n] (IAt.new w2 [n]) (by simp))
    unfold InPost at HIn
    have hal : [n].all in32 = in32 n := by simp
    rw [hal] at HIn
    clear hal
    cases hi : in32 n with
    | false =>
      have hv := Lib.hid (HGF.out (by rw [hi]; simp))
      rw [hi] at HIn
      clear hi HGT HGF
      go_wp2_with fail
      refine HIn.out.mono ?_
      rintro e w3 ⟨rfl, rfl⟩
      go_wp2_with fail
      exact ⟨rfl, HNo.out _ hv.out (K2.out.alloc _)⟩
    | true =>
      have hb := in32_iff.1 hi
      have HIt := Lib.hid (fun V (hV : Laid V) => lib_Itoa n (by omega) (by omega) V hV)
      rw [hi] at HIn
      by_cases he : itoa n = x
      · have hv := Lib.hid (HGT.out hi he)
        rw [he] at HIt
        clear hi HGT HGF hb he
        go_wp2_with fail
        refine HIn.out.mono ?_
        rintro e w3 ⟨rfl, rfl⟩
        go_wp2_with fail
        refine (HIt.out _ (HL.out _ (K2.out.alloc _))).mono ?_
        rintro e w4 ⟨rfl, k4⟩
        have K4 := Lib.hid ((K2.out.alloc _).trans (k4.mono (fun _ h => by cases h)))
        have A4 := Lib.hid ((A2.out.kept ((Kept.refl [] w2).alloc _)).kept k4)
        clear k4
        go_wp2_with fail
        exact HYes.out _ n hv.out K4.out A4.out
      · have hv := Lib.hid (HGF.out (fun h => he h.2))
        have d1 := bs_ne he
        have e1 : (itoa n == x) = false := by simpa using he
        replace he := Lib.hid he
        clear hi HGT HGF hb
        generalize itoa n = ix at *
        go_wp2_with fail
        refine HIn.out.mono ?_
        rintro e w3 ⟨rfl, rfl⟩
        go_wp2_with fail
        refine (HIt.out _ (HL.out _ (K2.out.alloc _))).mono ?_
        rintro e w4 ⟨rfl, k4⟩
        have K4 := Lib.hid ((K2.out.alloc _).trans (k4.mono (fun _ h => by cases h)))
        clear k4
        have d2 := he.out
        go_wp2_with fail
        exact ⟨rfl, HNo.out _ hv.out K4.out⟩
  · have hv : Hid (numP x = none) := by
      rw [Hid, numP, bad_num hno (by decide)]
      rfl
    clear hno
    go_wp2_with fail
    exact ⟨rfl, HNo.out _ hv.out K2.out⟩
end Go.Proofs.YtooplogodcadgaaDoor
