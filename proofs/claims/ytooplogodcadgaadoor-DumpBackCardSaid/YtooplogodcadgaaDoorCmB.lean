/- Dumps: the document's figures (CmB of Command, without forms). -/
import Derived.Test.YtooplogodcadgaaDoorCopy
import Derived.Test.YtooplogodcadgaaDoorCmA
import Derived.IntWalk
import Derived.WalkMore
namespace Go.Proofs.YtooplogodcadgaaDoor
open Go.RowKit Go.Lib

theorem bs_ne {a b : Bs} (h : a ≠ b) : ((⟨a.toArray⟩ : ByteArray) = ⟨b.toArray⟩) = False := by
  refine eq_false fun e => h ?_
  injection e with e
  have := congrArg Array.toList e
  simpa using this
theorem conv_one (b : UInt8) (w : World) : (convert 93 9 (.slice (some ⟨w.heap.size, 0, none⟩) 1 1)).run Tryd.prog (w.alloc (.cells #[.int .u8 (b.toNat : Int)] 5)) = .ok (.string ⟨[b].toArray⟩) (w.alloc (.cells #[.int .u8 (b.toNat : Int)] 5)) := by
  have hrd : Rd (w.alloc (.cells #[.int .u8 (b.toNat : Int)] 5)) (w.heap.size + 1) 1 (some ⟨w.heap.size, 0, none⟩) 1 ([b].map bv) := ⟨rfl, fun _ => ⟨_, 0, rfl, by omega, fun j u hu => by
    rw [(Blk.new w 5 #[.int .u8 (b.toNat : Int)]).cell]
    simpa [bv] using hu⟩⟩
  exact conv_bytes (P := Tryd.prog) (c := 1) 93 5 Tryd.underlying93 Tryd.underlying5 hrd (fun _ => .inr ⟨_, _, rfl⟩) 9 Tryd.underlying9
theorem list_append (a b : Bs) : (⟨a.toArray⟩ : ByteArray) ++ ⟨b.toArray⟩ = ⟨(a ++ b).toArray⟩ := by
  apply ByteArray.ext
  rw [ByteArray.data_append]
  simp
theorem dec_len : ∀ (k n : Nat), n < 10 ^ (k + 1) → (decDigits n).length ≤ k + 1
  | 0, n, h => by
    rw [decDigits, dif_pos (by omega)]
    simp
  | k + 1, n, h => by
    rw [decDigits]
    split
    · simp
    · rw [List.length_append, List.length_singleton]
      have := dec_len k (n / 10) (by rw [Nat.pow_succ] at h; omega)
      omega
def FigPost (n : Nat) (w : World) (e : Ending) (w' : World) : Prop := e = .returned (.string ⟨(decDigits n).toArray⟩) ∧ Kept [] w w'
set_option maxRecDepth 8000 in
/-- figures, by the document -/
theorem ref_Figures : ∀ (n : Nat), n ≤ 9223372036854775807 → ∀ w : World, Calls Tryd.prog 31 #[.int .i64 (n : Int)] w (FigPost n w) := by
  intro n
  induction n using Nat.strongRecOn with
  | ind n ih =>
    intro hn w
    obtain ⟨d, hd⟩ : ∃ d, d = n % 10 := ⟨_, rfl⟩
    obtain ⟨q, hq⟩ : ∃ q, q = n / 10 := ⟨_, rfl⟩
    obtain ⟨b, hb⟩ : ∃ b, b = UInt8.ofNat (48 + d) := ⟨_, rfl⟩
    have hd10 : d < 10 := by omega
    have hbn : b.toNat = 48 + d := by rw [hb]; exact dig_toNat hd10
    have hb2 := b.toNat_lt
    have hw1 : IntKind.i64.wrap (48 + (d : Int)) = (b.toNat : Int) := by rw [show 48 + (d : Int) = (b.toNat : Int) by omega]; exact IntWalk.i64_in _ (by omega)
    have hw2 : IntKind.u8.wrap (b.toNat : Int) = (b.toNat : Int) := IntWalk.u8_in _ (by omega)
    obtain ⟨x, hx⟩ : ∃ x : Int, x = (n : Int) := ⟨_, rfl⟩
    have hm : x.tmod 10 = (d : Int) := by
      rw [hx, Int.tmod_eq_emod_of_nonneg (by omega)]
      omega
    have hdv : x.tdiv 10 = (q : Int) := by
      rw [hx, Int.tdiv_eq_ediv_of_nonneg (by omega)]
      omega
    have hcv := conv_one b w
    rw [← hx]
    by_cases h : n < 10
    · have hx10 : ¬ (10 : Int) ≤ x := by omega
      have hdd : Hid (decDigits n = [b]) := by rw [Hid, decDigits, dif_pos h, hb, hd, Nat.mod_eq_of_lt h]
      clear ih hx hq hd h hn hb hbn
      go_enter Tryd.func31, Tryd.ntmps31
      go_wp2_with fail
      go_ret
      unfold FigPost
      rw [hdd.out]
      exact ⟨rfl, (Kept.refl _ _).alloc _⟩
    · have hx10 : (10 : Int) ≤ x := by omega
      have hdd : Hid (decDigits n = decDigits q ++ [b]) := by rw [Hid, decDigits, dif_neg h, hb, hd, hq]
      have hq63 : IntKind.i64.wrap (q : Int) = (q : Int) := IntWalk.i64_in _ (by omega)
      have HQ := Lib.hid (ih q (by omega) (by omega))
      unfold FigPost at HQ ⊢
      have hla := list_append (decDigits q) [b]
      have hdl := dec_len 18 q (by omega)
      clear ih hx hq hd h hn hb hbn
      rw [hdd.out]
      generalize decDigits q = dq at *
      go_enter Tryd.func31, Tryd.ntmps31
      go_wp2_with fail
      refine (HQ.out _).mono ?_
      rintro e w1 ⟨rfl, k1⟩
      have K1 := Lib.hid (((Kept.refl [] w).alloc _).trans k1)
      clear k1
      go_wp2_with fail
      go_ret
      exact ⟨rfl, K1.out⟩
end Go.Proofs.YtooplogodcadgaaDoor
