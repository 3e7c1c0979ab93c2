/- Exceptions in runs: the document's order, and all its runs. -/
import Derived.Test.YtgbicbeofgpinaaRnF
import Derived.Test.YtgbicbeofgpinaaRnG
import Derived.Deep.QuietTactic
namespace Go.Proofs.Ytgbicbeofgpinaa
open Go.RowKit

/-- are the first ones right? -/
theorem rise_snoc : ∀ (last : Int) (L : List En) (y : En), riseB last (L ++ [y]) = (riseB last L && decide ((match L.getLast? with | some z => z.org | none => last) < y.org))
  | last, [], y => by
    show (decide (last < y.org) && true) = (true && decide (last < y.org))
    rw [Bool.and_true, Bool.true_and]
  | last, x :: t, y => by
    rw [List.cons_append, riseB, riseB, rise_snoc x.org t y, Bool.and_assoc]
    cases t with
    | nil => rfl
    | cons z t =>
      obtain ⟨u, hu⟩ : ∃ u, (z :: t).getLast? = some u := ⟨_, List.getLast?_eq_some_getLast (by simp)⟩
      rw [List.getLast?_cons_cons, hu]
theorem rise_take (l : List En) (k : Nat) (hk : k < l.length) : riseB (-1) (l.take (k + 1)) = (riseB (-1) (l.take k) && (if k = 0 then decide (-1 < l[k].org) else decide ((l[k - 1]'(by omega)).org < l[k].org))) := by
  rw [List.take_succ_eq_append_getElem hk, rise_snoc]
  congr 1
  by_cases h : k = 0
  · subst h
    rfl
  · rw [if_neg h]
    have : (l.take k).getLast? = some (l[k - 1]'(by omega)) := by
      rw [List.getLast?_eq_getElem?, List.length_take, Nat.min_eq_left (by omega), List.getElem?_take_of_lt (by omega), List.getElem?_eq_getElem]
    rw [this]
theorem rise_pre (l : List En) (k : Nat) (h : riseB (-1) (l.take k) = false) : riseB (-1) l = false := by
  by_cases hk : l.length ≤ k
  · rwa [List.take_of_length_le hk] at h
  · have key : ∀ (j : Nat), k ≤ j → j ≤ l.length → riseB (-1) (l.take j) = false := by
      intro j
      induction j with
      | zero => intro h1 _; obtain rfl : k = 0 := by omega
                exact h
      | succ j ih =>
        intro h1 h2
        by_cases e : k = j + 1
        · subst e
          exact h
        · rw [rise_take l j (by omega), ih (by omega) (by omega)]
          rfl
    have := key l.length (by omega) (Nat.le_refl _)
    rwa [List.take_length] at this
theorem rise_all : ∀ (last : Int) (l : List En), riseB last l = true → ∀ x ∈ l, last < x.org
  | _, [], _, x, hx => by cases hx
  | last, y :: t, h, x, hx => by
    simp only [riseB, Bool.and_eq_true, decide_eq_true_eq] at h
    rcases List.mem_cons.1 hx with rfl | hx
    · exact h.1
    · have := rise_all _ t h.2 x hx
      omega
theorem rise_neg (l : List En) (k : Nat) (hk : k < l.length) (h : l[k].org < 0) : riseB (-1) l = false := by
  by_cases hr : riseB (-1) l = true
  · have := rise_all _ _ hr l[k] (List.getElem_mem _)
    omega
  · simpa using hr
set_option maxHeartbeats 2000000 in
theorem ref_Right (most : Int) (w : World) (A : Option Addr) (c : Nat) (l : List En) (hA : RdE w A l) (hn : l.length ≤ 1000000) :
    Calls Try.prog 16 #[.int .i64 most, .slice A l.length c] w fun e w' => e = .returned (.bool (rightR most l)) ∧ Kept [] w w' := by
  have HS : Hid (∀ k, (hk : k < l.length) → ∃ b o, A = some ⟨b, o, none⟩ ∧ w.cell? ⟨b, o + k * 2, none⟩ = some (.int .i64 l[k].org) ∧ ∀ (j : Nat), j < l.length → w.cell? ⟨b, o + j * 2, none⟩ = some (.int .i64 (l[j]?.getD ⟨0, 0⟩).org)) := fun k hk => by
    obtain ⟨b, o, e, _, hc⟩ := hA.at_ (by omega)
    exact ⟨b, o, e, (hc k hk).1, fun j hj => by rw [List.getElem?_eq_getElem hj]; exact (hc j hj).1⟩
  clear hA
  go_enter Try.func16, Try.ntmps16
  go_wp2_with fail
  go_loopw [5] (fun i W => ∃ k : Nat, k ≤ l.length ∧ i = .int .i64 k ∧ Hid (riseB (-1) (l.take k) = true) ∧ Hid (Kept [] w W)) (fun i _ => l.length - (intOf i).toNat)
  case atStart => exact ⟨0, Nat.zero_le _, rfl, rfl, Kept.refl _ _⟩
  case round =>
    obtain ⟨k, hk, rfl, HR, HK⟩ := hrel
    by_cases hlt : k < l.length
    · obtain ⟨b, o, rfl, h0, h1⟩ := HS.out k hlt
      have c0 := HK.out.cell h0 (fun h => by cases h)
      have HT := Lib.hid (rise_take l k hlt)
      have HP := Lib.hid (rise_pre l (k + 1))
      have hlti : (k : Int) < (l.length : Int) := by omega
      by_cases hz : k = 0
      · subst hz
        clear h0 h1
        generalize l[0] = x at *
        simp only [Nat.zero_mul, Nat.add_zero] at c0
        have HG : Hid (riseB (-1) (l.take 1) = decide (-1 < x.org)) := by
          rw [Hid, HT.out, HR.out]
          simp
        by_cases hx : x.org < 0
        · have HF : Hid (rightR most l = false) := by
            rw [Hid, rightR, HP.out (by rw [HG.out]; simp; omega)]
            rfl
          clear HP HT HG HS
          go_wp2_with fail
          go_quiet (fail)
          go_wp2_with fail
          go_ret
          rw [HF.out]
          exact ⟨rfl, HK.out.drewN nq⟩
        · have HF : Hid (riseB (-1) (l.take 1) = true) := by
            rw [Hid, HG.out]
            simp
            omega
          clear HP HT HG HS
          go_wp2_with fail
          have hx3 : ¬ x.org < 0 := by omega
          go_quiet (fail)
          go_wp2_with fail
          go_roundw
          case rel => exact ⟨1, by omega, by go_num, HF.out, HK.out.drewN nq⟩
          case measure => simp [intOf]; omega
      · have hz1 : (0 : Int) < (k : Int) := by omega
        have hz2 : 0 < k := by omega
        have hz3 : 1 ≤ k := by omega
        have hi0 : (0 : Int) ≤ (k : Int) - 1 := by omega
        have hi1 : (k : Int) - 1 < (l.length : Int) := by omega
        have hi4 : (0 : Int) ≤ (k : Int) := by omega
        have hi5 : (1 : Int) ≤ (k : Int) := by omega
        have hmi : ((k : Int) - 1).toNat = k - 1 := by omega
        have hwm : IntKind.i64.wrap ((k : Int) - 1) = (k : Int) - 1 := IntWalk.i64_in _ (by omega)
        have hp := h1 (k - 1) (by omega)
        rw [List.getElem?_eq_getElem (by omega)] at hp
        simp only [Option.getD_some] at hp
        have cp := HK.out.cell hp (fun h => by cases h)
        have HG : Hid (riseB (-1) (l.take (k + 1)) = decide ((l[k - 1]'(by omega)).org < l[k].org)) := by
          rw [Hid, HT.out, HR.out, if_neg hz]
          simp
        clear h0 h1 hp
        obtain ⟨y, hyy⟩ : ∃ y, Hid (l[k] = y) := ⟨_, Lib.hid rfl⟩
        obtain ⟨x, hxx⟩ : ∃ x, Hid (l[k - 1]'(by omega) = x) := ⟨_, Lib.hid rfl⟩
        rw [hyy.out, hxx.out] at HG
        rw [hyy.out] at c0
        rw [hxx.out] at cp
        by_cases hx : y.org < 0
        · have HF : Hid (rightR most l = false) := by
            rw [Hid, rightR, rise_neg l k hlt (by rw [hyy.out]; exact hx)]
            rfl
          clear HP HT HG HS
          go_wp2_with fail
          go_quiet (fail)
          go_wp2_with fail
          go_ret
          rw [HF.out]
          exact ⟨rfl, HK.out.drewN nq⟩
        · by_cases hxy : y.org ≤ x.org
          · have HF : Hid (rightR most l = false) := by
              rw [Hid, rightR, HP.out (by rw [HG.out]; simp; omega)]
              rfl
            clear HP HT HG HS
            go_wp2_with fail
            go_quiet (fail)
            go_wp2_with fail
            go_ret
            rw [HF.out]
            exact ⟨rfl, HK.out.drewN nq⟩
          · have HF : Hid (riseB (-1) (l.take (k + 1)) = true) := by
              rw [Hid, HG.out]
              simp
              omega
            clear HP HT HG HS
            go_wp2_with fail
            go_quiet (fail)
            go_wp2_with fail
            go_roundw
            case rel => exact ⟨k + 1, by omega, by go_num, HF.out, HK.out.drewN nq⟩
            case measure => simp [intOf]; omega
    · obtain rfl : k = l.length := by omega
      have HF : Hid (rightR most l = decide (1 ≤ most)) := by
        have := HR.out
        rw [List.take_length] at this
        rw [Hid, rightR, this]
        simp
      go_wp2_with fail
      go_ret
      rw [HF.out]
      exact ⟨rfl, HK.out⟩
end Go.Proofs.Ytgbicbeofgpinaa
