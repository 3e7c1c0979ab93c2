/- Exceptions in runs: whether they are in order; a copy of some. -/
import Derived.Test.YtgbicbeofgpinaaRnA
import Derived.Test.YtgbicbeofgpinaaCopy
import Derived.Test.YtgbicbeofgpinaaRange
import Derived.IntWalk
namespace Go.Proofs.Ytgbicbeofgpinaa
open Go.RowKit

def enE (x : En) : List Value := [.int .i64 x.org, .int .i64 x.idx]
theorem enE_len (x : En) : (enE x).length = 2 := rfl
/-- exceptions lie there -/
def RdE (w : World) (A : Option Addr) (l : List En) : Prop := Rd w w.heap.size 2 A l.length (l.flatMap enE)
theorem RdE.at_ {w : World} {A : Option Addr} {l : List En} (h : RdE w A l) (hl : 0 < l.length) : ∃ b o, A = some ⟨b, o, none⟩ ∧ b < w.heap.size ∧ ∀ k, (hk : k < l.length) → w.cell? ⟨b, o + k * 2, none⟩ = some (.int .i64 l[k].org) ∧ w.cell? ⟨b, o + k * 2 + 1, none⟩ = some (.int .i64 l[k].idx) := by
  obtain ⟨b, o, e, hb, hc⟩ := h.2 hl
  refine ⟨b, o, e, hb, fun k hk => ⟨?_, ?_⟩⟩
  · have := hc (k * 2 + 0) (.int .i64 l[k].org) (by rw [flatMap_at 2 enE enE_len l k 0 hk (by omega)]; rfl)
    simpa using this
  · have := hc (k * 2 + 1) (.int .i64 l[k].idx) (by rw [flatMap_at 2 enE enE_len l k 1 hk (by omega)]; rfl)
    rw [show o + (k * 2 + 1) = o + k * 2 + 1 by omega] at this
    exact this
theorem RdE.kept {w w' : World} {A : Option Addr} {l : List En} (h : RdE w A l) (k : Kept [] w w') : RdE w' A l := by
  have h2 : Rd w' w.heap.size 2 A l.length (l.flatMap enE) := Rd.kept h k (Nat.le_refl _) (fun _ h => by cases h)
  exact ⟨h2.1, fun hn => by
    obtain ⟨b, o, e, hlt, hc⟩ := h2.2 hn
    exact ⟨b, o, e, Nat.lt_of_lt_of_le hlt k.size, hc⟩⟩
set_option maxHeartbeats 1000000 in
theorem runs_right (most : Int) (w : World) (A : Option Addr) (c : Nat) (l : List En) (hA : RdE w A l) (hn : l.length ≤ 8796093022208) :
    Calls Try.prog 13 #[.int .i64 most, .slice A l.length c] w fun e w' => e = .returned (.bool (rightR most l)) ∧ Kept [] w w' := by
  have HS : Hid (∀ k, (hk : k < l.length) → ∃ b o, A = some ⟨b, o, none⟩ ∧ w.cell? ⟨b, o + k * 2, none⟩ = some (.int .i64 l[k].org) ∧ w.cell? ⟨b, o + k * 2 + 1, none⟩ = some (.int .i64 l[k].idx)) := fun k hk => by
    obtain ⟨b, o, e, _, hc⟩ := hA.at_ (by omega)
    exact ⟨b, o, e, hc k hk⟩
  clear hA
  go_enter Try.func13, Try.ntmps13
  go_wp2_with fail
  go_loopw [5, 10] (fun v i W => ∃ (k : Nat) (last : Int), k ≤ l.length ∧ v = .int .i64 last ∧ i = .int .i64 k ∧ Hid (riseB (-1) l = riseB last (l.drop k)) ∧ Hid (Kept [] w W)) (fun _ i _ => l.length - (intOf i).toNat)
  case atStart => exact ⟨0, -1, Nat.zero_le _, rfl, rfl, rfl, Kept.refl _ _⟩
  case round =>
    obtain ⟨k, last, hk, rfl, rfl, HR, HK⟩ := hrel
    by_cases hlt : k < l.length
    · obtain ⟨b, o, rfl, h0, h1⟩ := HS.out k hlt
      have c0 := HK.out.cell h0 (fun h => by cases h)
      have c1 := HK.out.cell h1 (fun h => by cases h)
      have HD : Hid (l.drop k = l[k] :: l.drop (k + 1)) := List.drop_eq_getElem_cons hlt
      clear h0 h1
      generalize l[k] = x at *
      obtain ⟨xo, xi⟩ := x
      by_cases hx : xo ≤ last
      · have HF : Hid (rightR most l = false) := by
          rw [Hid, rightR, HR.out, HD.out]
          simp [riseB]
          omega
        go_wp2_with fail
        go_ret
        rw [HF.out]
        exact ⟨rfl, HK.out.alloc _⟩
      · have HR2 : Hid (riseB (-1) l = riseB xo (l.drop (k + 1))) := by
          rw [Hid, HR.out, HD.out]
          simp [riseB]
          omega
        go_wp2_with fail
        go_roundw
        case rel => exact ⟨k + 1, xo, by omega, rfl, by go_num, HR2.out, HK.out.alloc _⟩
        case measure => simp [intOf]; omega
    · obtain rfl : k = l.length := by omega
      have HF : Hid (rightR most l = decide (1 ≤ most)) := by
        rw [Hid, rightR, HR.out, List.drop_length]
        simp [riseB]
      go_wp2_with fail
      go_ret
      rw [HF.out]
      exact ⟨rfl, HK.out⟩
end Go.Proofs.Ytgbicbeofgpinaa
