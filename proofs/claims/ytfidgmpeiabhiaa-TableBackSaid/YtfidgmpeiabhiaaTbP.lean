/- Tables: the document's: New, Pages, Len, Find, Put, Drop, Copy; whether two lists of numbers are one. -/
import Derived.Test.YtfidgmpeiabhiaaTbN
namespace Go.Proofs.Ytfidgmpeiabhiaa
open Go.RowKit Go.Maps

/-- the document's table -/
def DtAt (n₀ : Nat) (W : World) (v : Value) (p : List Int) : Prop := W.ownsRow n₀ 3 1 v p.length (p.map iv)
theorem DtAt.at_ {n₀ : Nat} {W : World} {A : Option Addr} {c : Nat} {p : List Int} (h : DtAt n₀ W (.slice A p.length c) p) : Hid (∀ k, (hk : k < p.length) → ∃ b, A = some ⟨b, 0, none⟩ ∧ W.cell? ⟨b, k, none⟩ = some (.int .i64 p[k])) := fun k hk => by
  obtain ⟨b, _, e, _⟩ := own_some h (by omega)
  injection e with e _ e2
  subst e
  subst e2
  have := own_cellS h k (iv p[k]) (by simp [hk])
  rw [Nat.zero_add] at this
  exact ⟨b, rfl, this⟩
theorem rf_Pages (W : World) (A : Option Addr) (c n : Nat) (hn : n ≤ 1048576) : Calls Try.prog 32 #[.slice A n c] W fun e w' => e = .returned (.int .i64 (((n + 12) / 13 : Nat) : Int)) ∧ W = w' := by
  have e1 : (((n + 12) / 13 : Nat) : Int) = ((n : Int) + 12) / 13 := by omega
  rw [e1]
  go_enter Try.func32, Try.ntmps32
  go_wp2_with fail
  go_ret
  exact ⟨rfl, rfl⟩
theorem rf_Len (W : World) (n₀ : Nat) (A : Option Addr) (c : Nat) (p : List Int) (h : DtAt n₀ W (.slice A p.length c) p) (hn : p.length ≤ 1048576) :
    Calls Try.prog 27 #[.slice A p.length c] W fun e w' => e = .returned (.int .i64 (lenP p)) ∧ W = w' := by
  have HS := h.at_
  clear h
  go_enter Try.func27, Try.ntmps27
  go_wp2_with fail
  go_loop [3, 4] (fun v i => ∃ k m : Nat, k ≤ p.length ∧ i = .int .i64 k ∧ v = .int .i64 m ∧ m ≤ k ∧ Hid (lenP (p.take k) = m)) (fun _ i => p.length - (intOf i).toNat)
  case atStart => exact ⟨0, 0, Nat.zero_le _, rfl, rfl, Nat.le_refl _, rfl⟩
  case round =>
    obtain ⟨k, m, hk, rfl, rfl, hmk, HE⟩ := hrel
    by_cases hlt : k < p.length
    · obtain ⟨b, rfl, c0⟩ := HS.out k hlt
      have hT := List.take_succ_eq_append_getElem hlt
      have hL : lenP (p.take (k + 1)) = m + if 0 ≤ p[k] then 1 else 0 := by
        rw [hT, lenP, List.countP_append, ← HE.out, lenP]
        simp [List.countP_cons]
      generalize p[k] = y at *
      clear hT
      by_cases hy : 0 ≤ y
      · rw [if_pos hy] at hL
        replace hL := Lib.hid hL
        go_wp2_with fail
        go_round
        case rel => exact ⟨k + 1, m + 1, by omega, by go_num, by go_num, by omega, hL.out⟩
        case measure => simp [intOf]; omega
      · rw [if_neg hy] at hL
        replace hL := Lib.hid hL
        go_wp2_with fail
        go_round
        case rel => exact ⟨k + 1, m, by omega, by go_num, rfl, by omega, hL.out⟩
        case measure => simp [intOf]; omega
    · obtain rfl : k = p.length := by omega
      have hE := HE.out
      rw [List.take_length] at hE
      replace hE := Lib.hid hE
      go_wp2_with fail
      go_ret
      exact ⟨by rw [hE.out]; rfl, rfl⟩
def fndN (o : Int) (p : List Int) : Int := match fnd o p with | some i => (i : Int) | none => -1
theorem rf_Find (W : World) (n₀ : Nat) (A : Option Addr) (c : Nat) (p : List Int) (o : Int) (h : DtAt n₀ W (.slice A p.length c) p) (hn : p.length ≤ 1048576) :
    Calls Try.prog 26 #[.slice A p.length c, .int .i64 o] W fun e w' => e = .returned (.int .i64 (fndN o p)) ∧ W = w' := by
  have HS := h.at_
  clear h
  go_enter Try.func26, Try.ntmps26
  go_wp2_with fail
  go_loop [5] (fun i => ∃ k : Nat, k ≤ p.length ∧ i = .int .i64 k ∧ Hid (∀ j, (hj : j < p.length) → j < k → ¬ (p[j] = o ∧ 0 ≤ o))) (fun i => p.length - (intOf i).toNat)
  case atStart => exact ⟨0, Nat.zero_le _, rfl, fun j _ h => by omega⟩
  case round =>
    obtain ⟨k, hk, rfl, HN⟩ := hrel
    by_cases hlt : k < p.length
    · obtain ⟨b, rfl, c0⟩ := HS.out k hlt
      obtain ⟨y, hy⟩ : ∃ y, Hid (p[k] = y) := ⟨_, Lib.hid rfl⟩
      rw [hy.out] at c0
      have hno : ¬ (y = o ∧ 0 ≤ o) → ∀ j, (hj : j < p.length) → j < k + 1 → ¬ (p[j] = o ∧ 0 ≤ o) := fun h j hj hjk => by
        rcases Nat.lt_or_ge j k with h1 | h1
        · exact HN.out j hj h1
        · obtain rfl : j = k := by omega
          rw [hy.out]
          exact h
      replace hno := Lib.hid hno
      by_cases hx : y = o
      · subst hx
        by_cases h0 : 0 ≤ y
        · have hf : Hid (fndN y p = (k : Int)) := by
            rw [Hid, fndN, fnd, if_pos h0, findP_of hlt hy.out fun j hj e => HN.out j (by omega) hj ⟨e, h0⟩]
          go_wp2_with fail
          go_ret
          exact ⟨by rw [hf.out]; rfl, rfl⟩
        · go_wp2_with fail
          go_round
          case rel => exact ⟨k + 1, by omega, by go_num, hno.out (fun h => h0 h.2)⟩
          case measure => simp [intOf]; omega
      · go_wp2_with fail
        go_round
        case rel => exact ⟨k + 1, by omega, by go_num, hno.out (fun h => hx h.1)⟩
        case measure => simp [intOf]; omega
    · obtain rfl : k = p.length := by omega
      have hf : Hid (fndN o p = -1) := by
        rw [Hid, fndN, fnd]
        by_cases h0 : 0 ≤ o
        · rw [if_pos h0, findP_no fun z hz e => by
            obtain ⟨j, hj, rfl⟩ := List.getElem_of_mem hz
            exact HN.out j hj hj ⟨e, h0⟩]
        · rw [if_neg h0]
      go_wp2_with fail
      go_ret
      exact ⟨by rw [hf.out]; rfl, rfl⟩
end Go.Proofs.Ytfidgmpeiabhiaa
