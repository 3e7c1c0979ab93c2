/- Tables: the document's: New, Put, Drop, Copy; whether two lists of numbers are one. -/
import Derived.Test.YtfidgmpeiabhiaaTbP
namespace Go.Proofs.Ytfidgmpeiabhiaa
open Go.RowKit Go.Maps

def RfPost (n₀ : Nat) (v : Value) (r : Int × Int) (p' : List Int) (W : World) (e : Ending) (w' : World) : Prop :=
  e = .returned (.tuple #[.int .i64 r.1, .int .i64 r.2]) ∧ DtAt n₀ w' v p' ∧ Kept v.ownBlock.toList W w'
theorem rf_Drop (W : World) (n₀ : Nat) (A : Option Addr) (c : Nat) (p : List Int) (o : Int) (h : DtAt n₀ W (.slice A p.length c) p) (hn : p.length ≤ 1048576) :
    Calls Try.prog 24 #[.slice A p.length c, .int .i64 o] W (RfPost n₀ (.slice A p.length c) (dropI o p) (dropP o p) W) := by
  have HF := Lib.hid (rf_Find W n₀ A c p o h hn)
  have HT := Lib.hid h
  cases hq : fnd o p with
  | none =>
    have h1 : Hid (fndN o p = -1) := by rw [Hid, fndN, hq]
    have hi : Hid (dropI o p = (0, 161)) := by rw [Hid, dropI, hq]
    have hp : Hid (dropP o p = p) := by rw [Hid, dropP, hq]
    clear h hq
    go_enter Try.func24, Try.ntmps24
    go_wp2_with (go_at_call 26; refine HF.out.mono ?_; rintro e w1 ⟨rfl, rfl⟩; rw [h1.out])
    refine bodyPost_ret (results_tmp2 rfl _ _ _) rfl ?_
    refine ⟨?_, by rw [hp.out]; exact HT.out, Kept.refl _ _⟩
    rw [hi.out]
    rfl
  | some i =>
    have ho0 : 0 ≤ o := by
      rcases Int.lt_or_le o 0 with h0 | h0
      · rw [fnd, if_neg (by omega)] at hq
        cases hq
      · exact h0
    have hf : findP o p = some i := by rw [fnd, if_pos ho0] at hq; exact hq
    obtain ⟨hil, hif, _⟩ := findP_some hf
    have h1 : Hid (fndN o p = (i : Int)) := by rw [Hid, fndN, hq]
    have hi : Hid (dropI o p = ((i : Int), 0)) := by rw [Hid, dropI, hq]
    have hp : Hid (dropP o p = p.set i (-1)) := by rw [Hid, dropP, hq]
    obtain ⟨g, _, e1, _⟩ := own_some h (by omega)
    injection e1 with e1 _ e2
    subst e1
    subst e2
    have d0 := own_cellS h i (iv p[i]) (by simp [hil])
    have f0 := own_frozen h i
    rw [Nat.zero_add] at d0
    rw [hif] at d0
    have HP := Lib.hid (own_put h (k := i) (.int .i64 (-1)))
    have hili : (i : Int) < (p.length : Int) := by omega
    clear h hq hf
    go_enter Try.func24, Try.ntmps24
    go_wp2_with (go_at_call 26; refine HF.out.mono ?_; rintro e w1 ⟨rfl, rfl⟩; rw [h1.out])
    refine bodyPost_ret (results_tmp2 rfl _ _ _) rfl ?_
    refine ⟨?_, ?_, (Kept.refl _ _).setCell (.inl (by simp [Value.ownBlock])) _⟩
    · rw [hi.out]
      rfl
    · rw [hp.out, DtAt, List.length_set, List.map_set]
      exact HP.out
set_option maxHeartbeats 1000000 in
theorem rf_Put (W : World) (n₀ : Nat) (A : Option Addr) (c : Nat) (p : List Int) (o : Int) (h : DtAt n₀ W (.slice A p.length c) p) (hok : Tok p) (hn : p.length ≤ 1048576) :
    Calls Try.prog 25 #[.slice A p.length c, .int .i64 o] W (RfPost n₀ (.slice A p.length c) (putI o p) (putP o p) W) := by
  have HF := Lib.hid (rf_Find W n₀ A c p o h hn)
  have HT := Lib.hid h
  by_cases hr : rightB o = true
  · have hr2 := hr
    simp only [rightB, Bool.and_eq_true, decide_eq_true_eq] at hr2
    obtain ⟨hr3, hr4⟩ := hr2
    have hfn : fnd o p = findP o p := if_pos hr3
    have hge : ¬ o < 0 := by omega
    have hle : ¬ 2147483646 < o := by omega
    cases hq : findP o p with
    | some i =>
      have h1 : Hid (fndN o p = (i : Int)) := by rw [Hid, fndN, hfn, hq]
      have hi : Hid (putI o p = ((i : Int), 0)) := by rw [Hid, putI, hr, hq]; rfl
      have hp : Hid (putP o p = p) := by rw [Hid, putP, hr, hq]; rfl
      clear h hq hfn hr
      go_enter Try.func25, Try.ntmps25
      go_wp2_with (go_at_call 26; refine HF.out.mono ?_; rintro e w1 ⟨rfl, rfl⟩; rw [h1.out])
      refine bodyPost_ret (results_tmp2 rfl _ _ _) rfl ?_
      refine ⟨?_, by rw [hp.out]; exact HT.out, Kept.refl _ _⟩
      rw [hi.out]
      rfl
    | none =>
      have h1 : Hid (fndN o p = -1) := by rw [Hid, fndN, hfn, hq]
      have HI : Hid (∀ i, findP (-1) p = some i → putI o p = ((i : Int), 0) ∧ putP o p = p.set i o) := fun i hi => ⟨by rw [putI, hr, hq, hi]; rfl, by rw [putP, hr, hq, hi]; rfl⟩
      have HN2 : Hid (findP (-1) p = none → putI o p = (0, 111) ∧ putP o p = p) := fun hi => ⟨by rw [putI, hr, hq, hi]; rfl, by rw [putP, hr, hq, hi]; rfl⟩
      have HS := h.at_
      have HK := Lib.hid hok
      clear hq hfn hr h hok
      go_enter Try.func25, Try.ntmps25
      go_wp2_with (go_at_call 26; refine HF.out.mono ?_; rintro e w1 ⟨rfl, rfl⟩; rw [h1.out])
      go_loop [6] (fun i => ∃ k : Nat, k ≤ p.length ∧ i = .int .i64 k ∧ Hid (∀ j, (hj : j < p.length) → j < k → p[j] ≠ -1)) (fun i => p.length - (intOf i).toNat)
      case atStart => exact ⟨0, Nat.zero_le _, rfl, fun j _ h => by omega⟩
      case round =>
        obtain ⟨k, hk, rfl, HN⟩ := hrel
        by_cases hlt : k < p.length
        · obtain ⟨b, rfl, c0⟩ := HS.out k hlt
          have hlo := HK.out.lo p[k] (List.getElem_mem _)
          obtain ⟨y, hy⟩ : ∃ y, Hid (p[k] = y) := ⟨_, Lib.hid rfl⟩
          rw [hy.out] at c0 hlo
          by_cases hy0 : y < 0
          · have hf : findP (-1) p = some k := findP_of hlt (by rw [hy.out]; omega) fun j hj => HN.out j (by omega) hj
            obtain ⟨hi, hp⟩ := HI.out k hf
            replace hi := Lib.hid hi
            replace hp := Lib.hid hp
            have f0 := own_frozen HT.out k
            have HP := Lib.hid (own_put HT.out (k := k) (.int .i64 o))
            clear hf
            have hki : (k : Int) < (p.length : Int) := by omega
            go_wp2_with fail
            refine bodyPost_ret (results_tmp2 rfl _ _ _) rfl ?_
            refine ⟨?_, ?_, (Kept.refl _ _).setCell (.inl (by simp [Value.ownBlock])) _⟩
            · rw [hi.out]
              rfl
            · rw [hp.out, DtAt, List.length_set, List.map_set]
              exact HP.out
          · have hno : Hid (∀ j, (hj : j < p.length) → j < k + 1 → p[j] ≠ -1) := fun j hj hjk => by
              rcases Nat.lt_or_ge j k with h1 | h1
              · exact HN.out j hj h1
              · obtain rfl : j = k := by omega
                rw [hy.out]
                omega
            go_wp2_with fail
            go_round
            case rel => exact ⟨k + 1, by omega, by go_num, hno.out⟩
            case measure => simp [intOf]; omega
        · obtain rfl : k = p.length := by omega
          have hf : findP (-1) p = none := findP_no fun z hz e => by
            obtain ⟨j, hj, rfl⟩ := List.getElem_of_mem hz
            exact HN.out j hj hj e
          obtain ⟨hi, hp⟩ := HN2.out hf
          replace hi := Lib.hid hi
          replace hp := Lib.hid hp
          clear hf
          go_wp2_with fail
          refine bodyPost_ret (results_tmp2 rfl _ _ _) rfl ?_
          refine ⟨?_, by rw [hp.out]; exact HT.out, Kept.refl _ _⟩
          rw [hi.out]
          rfl
  · have hr : rightB o = false := by simpa using hr
    have hi : Hid (putI o p = (0, 1)) := by rw [Hid, putI, hr]; rfl
    have hp : Hid (putP o p = p) := by rw [Hid, putP, hr]; rfl
    have hcase : o < 0 ∨ 2147483646 < o := by
      rcases Int.lt_or_le o 0 with h0 | h0
      · exact .inl h0
      · refine .inr ?_
        rcases Int.lt_or_le 2147483646 o with h1 | h1
        · exact h1
        · simp [rightB, h0, h1] at hr
    clear h hr
    by_cases h0 : o < 0
    · clear hcase
      go_enter Try.func25, Try.ntmps25
      go_wp2_with fail
      refine bodyPost_ret (results_tmp2 rfl _ _ _) rfl ?_
      refine ⟨?_, by rw [hp.out]; exact HT.out, Kept.refl _ _⟩
      rw [hi.out]
      rfl
    · have h2 : 2147483646 < o := by omega
      clear hcase
      go_enter Try.func25, Try.ntmps25
      go_wp2_with fail
      refine bodyPost_ret (results_tmp2 rfl _ _ _) rfl ?_
      refine ⟨?_, by rw [hp.out]; exact HT.out, Kept.refl _ _⟩
      rw [hi.out]
      rfl
end Go.Proofs.Ytfidgmpeiabhiaa
