/- The laws' own small functions: Fits; what a slice of acts holds. -/
import Derived.Test.YtgdbafinncajfaaLawA
namespace Go.Proofs.Ytgdbafinncajfaa
open Go.RowKit

/-! what the laws' slices of acts hold -/
structure Act where
  kind : Nat
  at_ : Int
  n : Int
  data : List UInt8
  Ak : Option Addr
  kl : List Bool
  ck : Nat
/-- a slice of bools below block B -/
def KeepRd (w : World) (B : Nat) (A : Option Addr) (kl : List Bool) : Prop :=
  kl.length ≤ maxLen ∧ ∀ i, (hi : i < kl.length) → ∃ b o, A = some ⟨b, o, none⟩ ∧ b < B ∧ w.cell? ⟨b, o + i, none⟩ = some (.bool kl[i])
/-- what one act can hold -/
structure Act.ok (w : World) (B : Nat) (a : Act) : Prop where
  kind : a.kind ≤ 255
  at1 : -9223372036854775808 ≤ a.at_
  at2 : a.at_ ≤ 9223372036854775807
  n1 : -9223372036854775808 ≤ a.n
  n2 : a.n ≤ 9223372036854775807
  data : a.data.length ≤ maxLen
  keep : KeepRd w B a.Ak a.kl
/-- a slice of acts below block B -/
def ActsRd (w : World) (B : Nat) (A : Option Addr) (l : List Act) : Prop :=
  l.length ≤ maxLen ∧ ∀ i, (hi : i < l.length) → Act.ok w B l[i] ∧ ∃ b o, A = some ⟨b, o, none⟩ ∧ b < B ∧
    w.cell? ⟨b, o + i * 5, none⟩ = some (.int .u8 (l[i].kind : Int)) ∧
    w.cell? ⟨b, o + i * 5 + 1, none⟩ = some (.int .i64 l[i].at_) ∧
    w.cell? ⟨b, o + i * 5 + 2, none⟩ = some (.int .i64 l[i].n) ∧
    w.cell? ⟨b, o + i * 5 + 3, none⟩ = some (.string ⟨l[i].data.toArray⟩) ∧
    w.cell? ⟨b, o + i * 5 + 4, none⟩ = some (.slice l[i].Ak l[i].kl.length l[i].ck)
theorem KeepRd.below {w w' : World} {B : Nat} {A : Option Addr} {kl : List Bool} (h : KeepRd w B A kl) (hb : Below B w w') : KeepRd w' B A kl :=
  ⟨h.1, fun i hi => by
    obtain ⟨b, o, e, hlt, hc⟩ := h.2 i hi
    exact ⟨b, o, e, hlt, (hb.cell hlt).trans hc⟩⟩
theorem Act.ok.below {w w' : World} {B : Nat} {a : Act} (h : Act.ok w B a) (hb : Below B w w') : Act.ok w' B a :=
  ⟨h.kind, h.at1, h.at2, h.n1, h.n2, h.data, h.keep.below hb⟩
theorem ActsRd.below {w w' : World} {B : Nat} {A : Option Addr} {l : List Act} (h : ActsRd w B A l) (hb : Below B w w') : ActsRd w' B A l :=
  ⟨h.1, fun i hi => by
    obtain ⟨hok, b, o, e, hlt, c0, c1, c2, c3, c4⟩ := h.2 i hi
    exact ⟨hok.below hb, b, o, e, hlt, (hb.cell hlt).trans c0, (hb.cell hlt).trans c1, (hb.cell hlt).trans c2, (hb.cell hlt).trans c3, (hb.cell hlt).trans c4⟩⟩

def smallB (a : Act) : Bool := decide (a.data.length ≤ 1000) && decide (a.kl.length ≤ 200)
def fitsB (l : List Act) : Bool := decide (l.length ≤ 60) && l.all smallB
theorem fits_bad {l : List Act} {i : Nat} (hi : i < l.length) (h : smallB l[i] = false) : fitsB l = false := by
  cases h1 : fitsB l
  · rfl
  · unfold fitsB at h1
    rw [Bool.and_eq_true, List.all_eq_true] at h1
    rw [h1.2 _ (List.getElem_mem hi)] at h
    cases h
theorem fits_end {l : List Act} {k : Nat} (hk : k = min l.length 61) (h : ∀ i, i < k → (hi : i < l.length) → smallB l[i] = true) : fitsB l = decide ((l.length : Int) ≤ 60) := by
  by_cases h60 : l.length ≤ 60
  · have : l.all smallB = true := by
      rw [List.all_eq_true]
      intro x hx
      obtain ⟨i, hi, rfl⟩ := List.mem_iff_getElem.1 hx
      exact h i (by omega) hi
    simp [fitsB, this, h60]
    omega
  · simp [fitsB, h60]
    omega
theorem fits_of {l : List Act} (h : fitsB l = true) : l.length ≤ 60 ∧ ∀ i, (hi : i < l.length) → l[i].data.length ≤ 1000 ∧ l[i].kl.length ≤ 200 := by
  unfold fitsB at h
  simp only [Bool.and_eq_true, List.all_eq_true, decide_eq_true_eq, smallB] at h
  exact ⟨h.1, fun i hi => h.2 _ (List.getElem_mem hi)⟩

structure FitsInv (l : List Act) (k : Int) : Prop where
  lo : 0 ≤ k
  hi : k ≤ l.length
  top : k ≤ 61
  all : ∀ i : Nat, (i : Int) < k → (hi : i < l.length) → smallB l[i] = true

set_option maxHeartbeats 2000000 in
theorem fits_run (w : World) (B : Nat) (A : Option Addr) (c : Nat) (l : List Act) (h : ActsRd w B A l) :
    Calls Try.prog 16 #[.slice A l.length c] w fun e w' => e = .returned (.bool (fitsB l)) ∧ w = w' := by
  have hl := h.1
  unfold maxLen at hl
  have H := Lib.hid h
  clear h
  go_enter Try.func16, Try.ntmps16
  go_wp2_with fail
  go_loop [3] (fun i => ∃ k : Nat, k ≤ 61 ∧ k ≤ l.length ∧ i = .int .i64 k ∧ Hid (∀ i, i < k → (hi : i < l.length) → smallB l[i] = true)) (fun i => 61 - (intOf i).toNat)
  case atStart => exact ⟨0, by omega, by omega, rfl, fun i hi => by omega⟩
  case round =>
    obtain ⟨k, hk61, hkl, rfl, HL⟩ := hrel
    by_cases hlt : k < l.length
    · by_cases h60 : k ≤ 60
      · obtain ⟨hok, b, o, rfl, _, _, _, _, c3, c4⟩ := H.out.2 k hlt
        have hd := hok.data
        have hkk := hok.keep.1
        unfold maxLen at hkk hd
        by_cases hs1 : 1000 < l[k].data.length
        · have HB : Hid (fitsB l = false) := fits_bad hlt (by simp [smallB]; omega)
          go_wp2
          go_ret
          exact ⟨by rw [HB.out]; rfl, rfl⟩
        · by_cases hs2 : 200 < l[k].kl.length
          · have HB : Hid (fitsB l = false) := fits_bad hlt (by simp [smallB]; omega)
            go_wp2
            go_ret
            exact ⟨by rw [HB.out]; rfl, rfl⟩
          · have HN : Hid (∀ i, i < k + 1 → (hi : i < l.length) → smallB l[i] = true) := fun i hi hi2 => by
              rcases Nat.lt_or_ge i k with h1 | h1
              · exact HL.out i h1 hi2
              · have : i = k := by omega
                subst this
                simp [smallB]; omega
            go_wp2
            go_round
            case rel => exact ⟨k + 1, by omega, by omega, by go_num, HN⟩
            case measure => simp [intOf]; omega
      · have HE : Hid (fitsB l = decide ((l.length : Int) ≤ 60)) := fits_end (k := k) (by omega) HL.out
        go_wp2
        go_ret
        exact ⟨by rw [HE.out]; rfl, rfl⟩
    · have HE : Hid (fitsB l = decide ((l.length : Int) ≤ 60)) := fits_end (k := k) (by omega) HL.out
      go_wp2
      go_ret
      exact ⟨by rw [HE.out]; rfl, rfl⟩
end Go.Proofs.Ytgdbafinncajfaa
