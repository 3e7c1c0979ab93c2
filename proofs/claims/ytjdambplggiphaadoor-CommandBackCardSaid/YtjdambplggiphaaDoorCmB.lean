/- Commands: the document's forms, figures, numbers. -/
import Derived.Test.YtjdambplggiphaaDoorCopy
import Derived.Test.YtjdambplggiphaaDoorCmA
import Derived.IntWalk
import Derived.WalkMore
namespace Go.Proofs.YtjdambplggiphaaDoor
open Go.RowKit Go.Lib

theorem bs_ne {a b : Bs} (h : a ≠ b) : ((⟨a.toArray⟩ : ByteArray) = ⟨b.toArray⟩) = False := by
  refine eq_false fun e => h ?_
  injection e with e
  have := congrArg Array.toList e
  simpa using this
def FormPost (op : Bs) (w : World) (e : Ending) (w' : World) : Prop := e = .returned (.tuple #[.string ⟨((frm op).getD []).toArray⟩, .bool (frm op).isSome]) ∧ w = w'
theorem ref_form (op : Bs) (w : World) : Calls Tryd.prog 16 #[.string ⟨op.toArray⟩] w (FormPost op w) := by
  by_cases h1 : op = [114, 101, 97, 100]
  · subst h1
    go_enter Tryd.func16, Tryd.ntmps16
    go_wp2_with fail
    go_ret2
    exact ⟨rfl, rfl⟩
  · by_cases h2 : op = [119, 114, 105, 116, 101]
    · subst h2
      go_enter Tryd.func16, Tryd.ntmps16
      go_wp2_with fail
      go_ret2
      exact ⟨rfl, rfl⟩
    · by_cases h3 : op = [99, 114, 101, 97, 116, 101]
      · subst h3
        go_enter Tryd.func16, Tryd.ntmps16
        go_wp2_with fail
        go_ret2
        exact ⟨rfl, rfl⟩
      · by_cases h4 : op = [100, 101, 108, 101, 116, 101]
        · subst h4
          go_enter Tryd.func16, Tryd.ntmps16
          go_wp2_with fail
          go_ret2
          exact ⟨rfl, rfl⟩
        · by_cases h5 : op = [109, 101, 114, 103, 101]
          · subst h5
            go_enter Tryd.func16, Tryd.ntmps16
            go_wp2_with fail
            go_ret2
            exact ⟨rfl, rfl⟩
          · by_cases h6 : op = [115, 116, 101, 112]
            · subst h6
              go_enter Tryd.func16, Tryd.ntmps16
              go_wp2_with fail
              go_ret2
              exact ⟨rfl, rfl⟩
            · have hf : Hid (frm op = none) := by
                rw [Hid, frm, if_neg h1, if_neg h2, if_neg h3, if_neg h4, if_neg h5, if_neg h6]
              have e1 : (op == [114, 101, 97, 100]) = false := by simpa using h1
              have d1 : ¬ op = [114, 101, 97, 100] := h1
              have e2 : (op == [119, 114, 105, 116, 101]) = false := by simpa using h2
              have d2 : ¬ op = [119, 114, 105, 116, 101] := h2
              have e3 : (op == [99, 114, 101, 97, 116, 101]) = false := by simpa using h3
              have d3 : ¬ op = [99, 114, 101, 97, 116, 101] := h3
              have e4 : (op == [100, 101, 108, 101, 116, 101]) = false := by simpa using h4
              have d4 : ¬ op = [100, 101, 108, 101, 116, 101] := h4
              have e5 : (op == [109, 101, 114, 103, 101]) = false := by simpa using h5
              have d5 : ¬ op = [109, 101, 114, 103, 101] := h5
              have e6 : (op == [115, 116, 101, 112]) = false := by simpa using h6
              have d6 : ¬ op = [115, 116, 101, 112] := h6
              clear h1 h2 h3 h4 h5 h6
              go_enter Tryd.func16, Tryd.ntmps16
              go_wp2_with fail
              go_ret2
              unfold FormPost
              rw [hf.out]
              exact ⟨rfl, rfl⟩
def figI (c : UInt8) : Int := match figN c with | some v => v | none => -1
set_option maxRecDepth 4000 in
theorem ref_figure (c : UInt8) (w : World) : Calls Tryd.prog 42 #[.int .u8 (c.toNat : Int)] w fun e w' => e = .returned (.int .i64 (figI c)) ∧ w = w' := by
  have hb := c.toNat_lt
  by_cases h1 : 48 ≤ c.toNat ∧ c.toNat ≤ 57
  · have hf : Hid (figI c = (c.toNat : Int) - 48) := by
      rw [Hid, figI, figN, if_pos h1]
      dsimp only
      omega
    generalize c.toNat = n at *
    have g1 : (48 : Int) ≤ (n : Int) := by omega
    have g2 : (n : Int) ≤ 57 := by omega
    have hw : IntKind.u8.wrap ((n : Int) - 48) = (n : Int) - 48 := IntWalk.u8_in _ (by omega)
    have hw2 : IntKind.i64.wrap ((n : Int) - 48) = (n : Int) - 48 := IntWalk.i64_in _ (by omega)
    clear h1
    go_enter Tryd.func42, Tryd.ntmps42
    go_wp2_with fail
    go_ret
    rw [hf.out]
    exact ⟨rfl, rfl⟩
  · by_cases h2 : 97 ≤ c.toNat ∧ c.toNat ≤ 102
    · have hf : Hid (figI c = (c.toNat : Int) - 87) := by
        rw [Hid, figI, figN, if_neg h1, if_pos h2]
        dsimp only
        omega
      generalize c.toNat = n at *
      have g1 : (48 : Int) ≤ (n : Int) := by omega
      have g2 : ¬ (n : Int) ≤ 57 := by omega
      have g3 : (97 : Int) ≤ (n : Int) := by omega
      have g4 : (n : Int) ≤ 102 := by omega
      have hw : IntKind.u8.wrap ((n : Int) - 97) = (n : Int) - 97 := IntWalk.u8_in _ (by omega)
      have hw2 : IntKind.i64.wrap ((n : Int) - 97) = (n : Int) - 97 := IntWalk.i64_in _ (by omega)
      have hw3 : IntKind.i64.wrap ((n : Int) - 97 + 10) = (n : Int) - 87 := by rw [show (n : Int) - 97 + 10 = (n : Int) - 87 by omega]; exact IntWalk.i64_in _ (by omega)
      clear h1 h2
      go_enter Tryd.func42, Tryd.ntmps42
      go_wp2_with fail
      go_ret
      rw [hf.out]
      exact ⟨rfl, rfl⟩
    · have hf : Hid (figI c = -1) := by
        rw [Hid, figI, figN, if_neg h1, if_neg h2]
      generalize c.toNat = n at *
      rcases (show n < 48 ∨ (48 ≤ n ∧ 57 < n ∧ n < 97) ∨ 102 < n by omega) with h3 | ⟨h3, h4, h5⟩ | h3
      · have g1 : ¬ (48 : Int) ≤ (n : Int) := by omega
        have g2 : ¬ (97 : Int) ≤ (n : Int) := by omega
        clear h1 h2
        go_enter Tryd.func42, Tryd.ntmps42
        go_wp2_with fail
        go_ret
        rw [hf.out]
        exact ⟨rfl, rfl⟩
      · have g1 : (48 : Int) ≤ (n : Int) := by omega
        have g2 : ¬ (n : Int) ≤ 57 := by omega
        have g3 : ¬ (97 : Int) ≤ (n : Int) := by omega
        clear h1 h2
        go_enter Tryd.func42, Tryd.ntmps42
        go_wp2_with fail
        go_ret
        rw [hf.out]
        exact ⟨rfl, rfl⟩
      · have g1 : (48 : Int) ≤ (n : Int) := by omega
        have g2 : ¬ (n : Int) ≤ 57 := by omega
        have g3 : (97 : Int) ≤ (n : Int) := by omega
        have g4 : ¬ (n : Int) ≤ 102 := by omega
        clear h1 h2
        go_enter Tryd.func42, Tryd.ntmps42
        go_wp2_with fail
        go_ret
        rw [hf.out]
        exact ⟨rfl, rfl⟩
theorem conv_one (b : UInt8) (w : World) : (convert 50 9 (.slice (some ⟨w.heap.size, 0, none⟩) 1 1)).run Tryd.prog (w.alloc (.cells #[.int .u8 (b.toNat : Int)] 5)) = .ok (.string ⟨[b].toArray⟩) (w.alloc (.cells #[.int .u8 (b.toNat : Int)] 5)) := by
  have hrd : Rd (w.alloc (.cells #[.int .u8 (b.toNat : Int)] 5)) (w.heap.size + 1) 1 (some ⟨w.heap.size, 0, none⟩) 1 ([b].map bv) := ⟨rfl, fun _ => ⟨_, 0, rfl, by omega, fun j u hu => by
    rw [(Blk.new w 5 #[.int .u8 (b.toNat : Int)]).cell]
    simpa [bv] using hu⟩⟩
  exact conv_bytes (P := Tryd.prog) (c := 1) 50 5 Tryd.underlying50 Tryd.underlying5 hrd (fun _ => .inr ⟨_, _, rfl⟩) 9 Tryd.underlying9
theorem list_append (a b : Bs) : (⟨a.toArray⟩ : ByteArray) ++ ⟨b.toArray⟩ = ⟨(a ++ b).toArray⟩ := by
  apply ByteArray.ext
  rw [ByteArray.data_append]
  simp
theorem dec_len : ∀ (k n : Nat), n < 10 ^ (k + 1) → (decDigits n).length ≤ k + 1
  | 0, n, h => by
    rw [decDigits, dif_pos (by omega)]
    simp
  | k + 1, n, h => by
    rw [decDigits]
    split
    · simp
    · rw [List.length_append, List.length_singleton]
      have := dec_len k (n / 10) (by rw [Nat.pow_succ] at h; omega)
      omega
def FigPost (n : Nat) (w : World) (e : Ending) (w' : World) : Prop := e = .returned (.string ⟨(decDigits n).toArray⟩) ∧ Kept [] w w'
set_option maxRecDepth 8000 in
/-- figures, by the document -/
theorem ref_Figures : ∀ (n : Nat), n ≤ 9223372036854775807 → ∀ w : World, Calls Tryd.prog 17 #[.int .i64 (n : Int)] w (FigPost n w) := by
  intro n
  induction n using Nat.strongRecOn with
  | ind n ih =>
    intro hn w
    obtain ⟨d, hd⟩ : ∃ d, d = n % 10 := ⟨_, rfl⟩
    obtain ⟨q, hq⟩ : ∃ q, q = n / 10 := ⟨_, rfl⟩
    obtain ⟨b, hb⟩ : ∃ b, b = UInt8.ofNat (48 + d) := ⟨_, rfl⟩
    have hd10 : d < 10 := by omega
    have hbn : b.toNat = 48 + d := by rw [hb]; exact dig_toNat hd10
    have hb2 := b.toNat_lt
    have hw1 : IntKind.i64.wrap (48 + (d : Int)) = (b.toNat : Int) := by rw [show 48 + (d : Int) = (b.toNat : Int) by omega]; exact IntWalk.i64_in _ (by omega)
    have hw2 : IntKind.u8.wrap (b.toNat : Int) = (b.toNat : Int) := IntWalk.u8_in _ (by omega)
    obtain ⟨x, hx⟩ : ∃ x : Int, x = (n : Int) := ⟨_, rfl⟩
    have hm : x.tmod 10 = (d : Int) := by
      rw [hx, Int.tmod_eq_emod_of_nonneg (by omega)]
      omega
    have hdv : x.tdiv 10 = (q : Int) := by
      rw [hx, Int.tdiv_eq_ediv_of_nonneg (by omega)]
      omega
    have hcv := conv_one b w
    rw [← hx]
    by_cases h : n < 10
    · have hx10 : ¬ (10 : Int) ≤ x := by omega
      have hdd : Hid (decDigits n = [b]) := by rw [Hid, decDigits, dif_pos h, hb, hd, Nat.mod_eq_of_lt h]
      clear ih hx hq hd h hn hb hbn
      go_enter Tryd.func17, Tryd.ntmps17
      go_wp2_with fail
      go_ret
      unfold FigPost
      rw [hdd.out]
      exact ⟨rfl, (Kept.refl _ _).alloc _⟩
    · have hx10 : (10 : Int) ≤ x := by omega
      have hdd : Hid (decDigits n = decDigits q ++ [b]) := by rw [Hid, decDigits, dif_neg h, hb, hd, hq]
      have hq63 : IntKind.i64.wrap (q : Int) = (q : Int) := IntWalk.i64_in _ (by omega)
      have HQ := Lib.hid (ih q (by omega) (by omega))
      unfold FigPost at HQ ⊢
      have hla := list_append (decDigits q) [b]
      have hdl := dec_len 18 q (by omega)
      clear ih hx hq hd h hn hb hbn
      rw [hdd.out]
      generalize decDigits q = dq at *
      go_enter Tryd.func17, Tryd.ntmps17
      go_wp2_with fail
      refine (HQ.out _).mono ?_
      rintro e w1 ⟨rfl, k1⟩
      have K1 := Lib.hid (((Kept.refl [] w).alloc _).trans k1)
      clear k1
      go_wp2_with fail
      go_ret
      exact ⟨rfl, K1.out⟩
end Go.Proofs.YtjdambplggiphaaDoor
