/- Tables: Index; Put; Drop. -/
import Derived.Test.YtfidgmpeiabhiaaTbB
namespace Go.Proofs.Ytfidgmpeiabhiaa
open Go.RowKit Go.Maps Go.ChangeMaps

def idxI (x : Int) (p : List Int) : Int := match findP x p with | some i => (i : Int) | none => -1
theorem slices_Index (W : World) (base c : Nat) (A : Option Addr) (p : List Int) (x : Int) (h : W.ownsRow base 3 1 (.slice A p.length c) p.length (p.map iv)) (hn : p.length ≤ 1048576) :
    Calls Try.prog 37 #[.slice A p.length c, .int .i64 x] W fun e w' => e = .returned (.int .i64 (idxI x p)) ∧ W = w' := by
  have HS : Hid (∀ k, (hk : k < p.length) → ∃ b, A = some ⟨b, 0, none⟩ ∧ W.cell? ⟨b, k, none⟩ = some (.int .i64 p[k])) := fun k hk => by
    obtain ⟨b, _, e, _⟩ := own_some h (by omega)
    injection e with e _ e2
    subst e
    subst e2
    have := h.cells (g := b) rfl k (iv p[k]) (by simp [hk])
    rw [Addr.add_lit, Nat.zero_add] at this
    exact ⟨b, rfl, this⟩
  clear h
  go_enter Try.func37, Try.ntmps37
  go_wp2_with fail
  go_loop [8] (fun i => ∃ k : Nat, k ≤ p.length ∧ i = .int .i64 k ∧ Hid (∀ j, (hj : j < p.length) → j < k → p[j] ≠ x)) (fun i => p.length - (intOf i).toNat)
  case atStart => exact ⟨0, Nat.zero_le _, rfl, fun j _ h => by omega⟩
  case round =>
    obtain ⟨k, hk, rfl, HN⟩ := hrel
    by_cases hlt : k < p.length
    · obtain ⟨b, rfl, c0⟩ := HS.out k hlt
      obtain ⟨y, hy⟩ : ∃ y, Hid (p[k] = y) := ⟨_, Lib.hid rfl⟩
      rw [hy.out] at c0
      by_cases hx : x = y
      · subst hx
        have hf : Hid (idxI x p = (k : Int)) := by
          rw [Hid, idxI, findP_of hlt hy.out fun j hj => HN.out j (by omega) hj]
        go_wp2_with fail
        go_ret
        exact ⟨by rw [hf.out]; rfl, rfl⟩
      · go_wp2_with fail
        go_round
        case rel =>
          refine ⟨k + 1, by omega, by go_num, fun j hj hjk => ?_⟩
          rcases Nat.lt_or_ge j k with h | h
          · exact HN.out j hj h
          · obtain rfl : j = k := by omega
            rw [hy.out]
            exact fun e => hx e.symm
        case measure => simp [intOf]; omega
    · obtain rfl : k = p.length := by omega
      have hf : Hid (idxI x p = -1) := by
        rw [Hid, idxI, findP_no fun z hz => by
          obtain ⟨j, hj, rfl⟩ := List.getElem_of_mem hz
          exact HN.out j hj hj]
      go_wp2_with fail
      go_ret
      exact ⟨by rw [hf.out]; rfl, rfl⟩
/-- what Put tells -/
def putI (o : Int) (p : List Int) : Int × Int := if rightB o = false then (0, 1) else match findP o p with | some i => ((i : Int), 0) | none => match findP (-1) p with | some i => ((i : Int), 0) | none => (0, 111)
def putP (o : Int) (p : List Int) : List Int := if rightB o = false then p else match findP o p with | some _ => p | none => match findP (-1) p with | some i => p.set i o | none => p
theorem putP_len (o : Int) (p : List Int) : (putP o p).length = p.length := by
  unfold putP
  split
  · rfl
  · split
    · rfl
    · split
      · simp
      · rfl
theorem putP_ok {o : Int} {p : List Int} (h : Tok p) : Tok (putP o p) := by
  unfold putP
  split
  · exact h
  · rename_i hr
    split
    · exact h
    · rename_i hn
      split
      · rename_i i hi
        exact h.put (by simpa using hr) hn (findP_some hi).1
      · exact h
theorem MapAt.put {W : World} {bm : Nat} {p : List Int} {o : Int} {i : Nat} {n : Nat} {D : DataW Unit} (hown : W.ownsMap Try.prog 3 (plainElem Try.prog 3) bm (n + 1) (D.put (.int .i64 o) (.lit (.int .i64 (i : Int))))) (hn : n = lenP p) (ht : Tidy D)
    (hs : Maps.size D = lenP p) (h1 : ∀ o : Int, (Lit.int .i64 o).wf = true → Maps.has D (.int .i64 o) = (decide (0 ≤ o) && (findP o p).isSome)) (h2 : ∀ (o : Int) (i : Nat) (z : DataW Unit), 0 ≤ o → findP o p = some i → D.atKey (.int .i64 o) z = .lit (.int .i64 i))
    (ho : rightB o = true) (hno : findP o p = none) (hi : findP (-1) p = some i) : MapAt W bm (p.set i o) := by
  obtain ⟨hil, hif, _⟩ := findP_some hi
  have hr := ho
  simp only [rightB, Bool.and_eq_true, decide_eq_true_eq] at hr
  have hw : (Lit.int .i64 o).wf = true := wfI (by omega)
  have hk : WideAt.IsKeyLit (.int .i64 o) := lawI.key (keyOf_int_mk Try.underlying3 hw)
  have hnone : Maps.has D (.int .i64 o) = false := by rw [h1 o hw, hno]; simp
  have hls : lenP (p.set i o) = lenP p + 1 := by
    have := lenP_set hil o
    rw [hif, if_neg (by omega), if_pos hr.1] at this
    omega
  refine ⟨n + 1, _, hown, by omega, ?_, fun x hx => ?_, fun x j z hx0 hx => ?_⟩
  · rw [size_put ht, hnone, hs]
    simp
    omega
  · by_cases hxo : x = o
    · subst hxo
      rw [has_put_same ht.isMap hk, find_put hno hil hif x hr.1, if_pos rfl]
      simp [hr.1]
    · rw [has_put_other (by intro e; injection e with _ e; exact hxo e), h1 x hx]
      by_cases h0 : 0 ≤ x
      · rw [find_put hno hil hif x h0, if_neg hxo]
      · simp [h0]
  · rw [find_put hno hil hif x hx0] at hx
    by_cases hxo : x = o
    · subst hxo
      rw [if_pos rfl] at hx
      injection hx with hx
      subst hx
      exact atKey_put_same ht.isMap hk _ _
    · rw [if_neg hxo] at hx
      rw [atKey_put_other (by intro e; injection e with _ e; exact hxo e)]
      exact h2 x j z hx0 hx
end Go.Proofs.Ytfidgmpeiabhiaa
