/- Tables: whether two lists of exceptions are one; what no table at all answers. -/
import Derived.Test.YtfidgmpeiabhiaaTbU
namespace Go.Proofs.Ytfidgmpeiabhiaa
open Go.RowKit Go.Maps

def EAt (n₀ : Nat) (W : World) (A : Option Addr) (c : Nat) (l : List En) : Prop := W.ownsRow n₀ 55 2 (.slice A l.length c) l.length (l.flatMap enE)
theorem EAt.at_ {n₀ : Nat} {W : World} {A : Option Addr} {c : Nat} {l : List En} (h : EAt n₀ W A c l) : Hid (∀ k, (hk : k < l.length) → ∃ b, A = some ⟨b, 0, none⟩ ∧ W.cell? ⟨b, k * 2, none⟩ = some (.int .i64 l[k].org) ∧ W.cell? ⟨b, k * 2 + 1, none⟩ = some (.int .i64 l[k].idx)) := fun k hk => by
  obtain ⟨b, _, e, _⟩ := own_some h (by omega)
  injection e with e _ e2
  subst e
  subst e2
  have h0 := own_cellS h (k * 2 + 0) (.int .i64 l[k].org) (by rw [flatMap_at 2 enE enE_len l k 0 hk (by omega)]; rfl)
  have h1 := own_cellS h (k * 2 + 1) (.int .i64 l[k].idx) (by rw [flatMap_at 2 enE enE_len l k 1 hk (by omega)]; rfl)
  rw [Nat.zero_add] at h0 h1
  exact ⟨b, rfl, h0, h1⟩
set_option maxHeartbeats 1000000 in
theorem same_E (w : World) (A B : Option Addr) (ca cb n1 n2 : Nat) (la lb : List En) (hA : EAt n1 w A ca la) (hB : EAt n2 w B cb lb) (hn : la.length ≤ 1048576) (he : Hid (la = lb)) :
    Calls Try.prog 28 #[.slice A la.length ca, .slice B lb.length cb] w fun e w' => e = .returned (.bool true) ∧ Dr w w' := by
  have e2 := he.out
  subst e2
  have HA := hA.at_
  have HB := hB.at_
  clear hA hB
  go_enter Try.func28, Try.ntmps28
  go_wp2_with fail
  go_loopw [5] (fun i W => ∃ k : Nat, k ≤ la.length ∧ i = .int .i64 k ∧ Hid (Dr w W)) (fun i _ => la.length - (intOf i).toNat)
  case atStart => exact ⟨0, Nat.zero_le _, rfl, Dr.refl _⟩
  case round =>
    obtain ⟨k, hk, rfl, HK⟩ := hrel
    by_cases hlt : k < la.length
    · obtain ⟨b, rfl, h0, h1⟩ := HA.out k hlt
      obtain ⟨b', rfl, h2, h3⟩ := HB.out k hlt
      have c0 := HK.out.kept.cell h0 (fun h => by cases h)
      have c1 := HK.out.kept.cell h1 (fun h => by cases h)
      have c2 := HK.out.kept.cell h2 (fun h => by cases h)
      have c3 := HK.out.kept.cell h3 (fun h => by cases h)
      clear h0 h1 h2 h3
      generalize la[k] = ax at *
      obtain ⟨xo, xi⟩ := ax
      dsimp only at c0 c1 c2 c3
      have hi : (k : Int) < (la.length : Int) := by omega
      go_wp2_with fail
      go_quiet (fail)
      go_wp2_with fail
      go_roundw
      case rel => exact ⟨k + 1, by omega, by go_num, HK.out.drewN nq⟩
      case measure => simp [intOf]; omega
    · obtain rfl : k = la.length := by omega
      go_wp2_with fail
      go_ret
      exact ⟨rfl, HK.out⟩
theorem nil_Find (W : World) (o : Int) : Calls Try.prog 17 #[.pointer none, .int .i64 o] W fun e w' => e = .returned (.tuple #[.int .i64 0, .bool false]) ∧ W = w' := by
  go_enter Try.func17, Try.ntmps17
  go_wp2_with fail
  refine bodyPost_ret (results_tmp2 rfl _ _ _) rfl ?_
  exact ⟨rfl, rfl⟩
theorem nil_Put (W : World) (o : Int) : Calls Try.prog 16 #[.pointer none, .int .i64 o] W fun e w' => e = .returned (.tuple #[.int .i64 0, .int .i64 1]) ∧ W = w' := by
  go_enter Try.func16, Try.ntmps16
  go_wp2_with fail
  refine bodyPost_ret (results_tmp2 rfl _ _ _) rfl ?_
  exact ⟨rfl, rfl⟩
theorem nil_Drop (W : World) (o : Int) : Calls Try.prog 18 #[.pointer none, .int .i64 o] W fun e w' => e = .returned (.tuple #[.int .i64 0, .int .i64 1]) ∧ W = w' := by
  go_enter Try.func18, Try.ntmps18
  go_wp2_with fail
  refine bodyPost_ret (results_tmp2 rfl _ _ _) rfl ?_
  exact ⟨rfl, rfl⟩
theorem nil_Page (W : World) (o : Int) : Calls Try.prog 19 #[.pointer none, .int .i64 o] W fun e w' => e = .returned (.tuple #[.slice none 0 0, .int .i64 1]) ∧ W = w' := by
  go_enter Try.func19, Try.ntmps19
  go_wp2_with fail
  refine bodyPost_ret (results_tmp2 rfl _ _ _) rfl ?_
  exact ⟨rfl, rfl⟩
theorem nil_Len (W : World) : Calls Try.prog 20 #[.pointer none] W fun e w' => e = .returned (.int .i64 0) ∧ W = w' := by
  go_enter Try.func20, Try.ntmps20
  go_wp2_with fail
  go_ret
  exact ⟨rfl, rfl⟩
theorem nil_Left (W : World) : Calls Try.prog 21 #[.pointer none] W fun e w' => e = .returned (.int .i64 0) ∧ W = w' := by
  go_enter Try.func21, Try.ntmps21
  go_wp2_with fail
  go_ret
  exact ⟨rfl, rfl⟩
theorem nil_All (W : World) : Calls Try.prog 22 #[.pointer none] W fun e w' => e = .returned (.slice none 0 0) ∧ W = w' := by
  go_enter Try.func22, Try.ntmps22
  go_wp2_with fail
  go_ret
  exact ⟨rfl, rfl⟩
theorem nil_Clone (W : World) : Calls Try.prog 14 #[.pointer none] W fun e w' => e = .returned (.pointer none) ∧ W = w' := by
  go_enter Try.func14, Try.ntmps14
  go_wp2_with fail
  go_ret
  exact ⟨rfl, rfl⟩
end Go.Proofs.Ytfidgmpeiabhiaa
