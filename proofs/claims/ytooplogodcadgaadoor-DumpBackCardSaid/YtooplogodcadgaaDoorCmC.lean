/- Commands: the document's numbers and words. -/
import Derived.Test.YtooplogodcadgaaDoorCmB
namespace Go.Proofs.YtooplogodcadgaaDoor
open Go.RowKit Go.Lib

def numI (s : Bs) (most : Nat) : Int := match numL s most with | some v => v | none => 0
def NumPost (s : Bs) (most : Nat) (w : World) (e : Ending) (w' : World) : Prop := e = .returned (.tuple #[.int .i64 (numI s most), .bool (numL s most).isSome]) ∧ w = w'
theorem NumPost.no {s : Bs} {most : Nat} {w : World} (h : numL s most = none) : NumPost s most w (.returned (.tuple #[.int .i64 0, .bool false])) w := by
  unfold NumPost numI
  rw [h]
  exact ⟨rfl, rfl⟩
theorem NumPost.yes {s : Bs} {most v : Nat} {w : World} (h : numL s most = some v) : NumPost s most w (.returned (.tuple #[.int .i64 (v : Int), .bool true])) w := by
  unfold NumPost numI
  rw [h]
  exact ⟨rfl, rfl⟩
theorem num_not_dig {s : Bs} {most k acc : Nat} (hk : k < s.length) (h : dval 0 s = dval acc (s.drop k)) (hd : ¬ isDig s[k]) : numL s most = none := by
  unfold numL
  split
  · rfl
  · rw [h, List.drop_eq_getElem_cons hk, dval, if_neg hd]
theorem num_great {s : Bs} {most k acc : Nat} (h : dval 0 s = dval acc (s.drop k)) (hm : most < acc) : numL s most = none := by
  unfold numL
  split
  · rfl
  · rw [h]
    cases hv : dval acc (s.drop k) with
    | none => rfl
    | some v =>
      have := dval_ge hv
      dsimp only
      rw [if_neg (by omega)]
theorem dval_step {s : Bs} {k acc : Nat} (hk : k < s.length) (h : dval 0 s = dval acc (s.drop k)) (hd : isDig s[k]) : dval 0 s = dval (10 * acc + (s[k].toNat - 48)) (s.drop (k + 1)) := by
  rw [h, List.drop_eq_getElem_cons hk, dval, if_pos hd]
set_option maxRecDepth 4000 in
set_option maxHeartbeats 1000000 in
theorem ref_Number (s : Bs) (most : Nat) (w : World) (hm : most ≤ 100000000000) (hs : s.length ≤ 140737488351232) : Calls Tryd.prog 38 #[.string ⟨s.toArray⟩, .int .i64 (most : Int)] w (NumPost s most w) := by
  have HNo := Lib.hid (fun (h : numL s most = none) => NumPost.no (w := w) h)
  have HYes := Lib.hid (fun v (h : numL s most = some v) => NumPost.yes (w := w) h)
  by_cases hnil : s = []
  · subst hnil
    have hn : Hid (numL [] most = none) := by simp [Hid, numL]
    generalize NumPost [] most w = Q at *
    go_enter Tryd.func38, Tryd.ntmps38
    go_wp2_with fail
    exact HNo.out hn.out
  · have hpos := List.length_pos_iff.2 hnil
    have hie : List.isEmpty s = false := by simpa using hnil
    have hb0 : ∀ h, (⟨s.toArray⟩ : ByteArray)[0]'h = s[0] := fun _ => rfl
    have hhd : s.head? = some s[0] := by rw [List.head?_eq_getElem?, List.getElem?_eq_getElem hpos]
    by_cases h1 : 1 < s.length
    · have h1i : (1 : Int) < (s.length : Int) := by omega
      by_cases h48 : s[0].toNat = 48
      · have hn : Hid (numL s most = none) := by
          rw [Hid, numL, if_pos]
          right
          refine ⟨h1, ?_⟩
          rw [hhd]
          congr 1
          exact UInt8.toNat_inj.1 h48
        have h48i : (((s[0].toNat : Nat) : Int) == 48) = true := by rw [h48]; rfl
        clear hhd
        generalize NumPost s most w = Q at *
        go_enter Tryd.func38, Tryd.ntmps38
        go_wp2_with fail
        exact HNo.out hn.out
      · have HCan : Hid (∀ v, dval 0 s = some v → v ≤ most → numL s most = some v) := fun v hv hvm => by
          unfold numL
          rw [if_neg, hv]
          · dsimp only
            rw [if_pos hvm]
          · rintro (h | ⟨_, h2⟩)
            · exact hnil h
            · rw [hhd] at h2
              injection h2 with h2
              rw [h2] at h48
              exact h48 rfl
        have h48i : (((s[0].toNat : Nat) : Int) == 48) = false := by rw [beq_eq_false_iff_ne]; omega
        clear hhd
        generalize NumPost s most w = Q at *
        have H00 : ∀ h, (⟨s.toArray⟩ : ByteArray)[0]'h = s[0] := hb0
        go_enter Tryd.func38, Tryd.ntmps38
        go_wp2_with fail
        clear hb0 H00 h48 h48i
        go_loopw [6, 7] (fun a i V => ∃ (k acc : Nat), k ≤ s.length ∧ acc ≤ most ∧ i = .int .i64 k ∧ a = .int .i64 (acc : Int) ∧ Hid (dval 0 s = dval acc (s.drop k)) ∧ V = w) (fun _ i _ => s.length - (intOf i).toNat)
        case atStart => exact ⟨0, 0, Nat.zero_le _, Nat.zero_le _, rfl, rfl, rfl, rfl⟩
        case round =>
          obtain ⟨k, acc, hk, ham, rfl, rfl, HE, rfl⟩ := hrel
          by_cases hlt : k < s.length
          · have hb : (⟨s.toArray⟩ : ByteArray)[k]'hlt = s[k] := rfl
            have hki : (k : Int) < (s.length : Int) := by omega
            have HN1 := Lib.hid (num_not_dig (most := most) hlt HE.out)
            have HN2 := Lib.hid (dval_step hlt HE.out)
            have hbl := s[k].toNat_lt
            unfold isDig at HN1 HN2
            generalize s[k] = c at *
            obtain ⟨cn, hcn⟩ : ∃ cn, c.toNat = cn := ⟨_, rfl⟩
            rw [hcn] at HN1 HN2 hbl
            by_cases h1 : cn < 48
            · have h1i : (cn : Int) < 48 := by omega
              have hn := Lib.hid (HN1.out (by omega))
              go_wp2_with fail
              exact HNo.out hn.out
            · by_cases h2 : 57 < cn
              · have h1i : ¬ (cn : Int) < 48 := by omega
                have h2i : (57 : Int) < (cn : Int) := by omega
                have hn := Lib.hid (HN1.out (by omega))
                go_wp2_with fail
                exact HNo.out hn.out
              · have h1i : ¬ (cn : Int) < 48 := by omega
                have h2i : ¬ (57 : Int) < (cn : Int) := by omega
                obtain ⟨d, rfl⟩ : ∃ d, cn = 48 + d := ⟨cn - 48, by omega⟩
                obtain ⟨x, hx⟩ : ∃ x : Int, x = ((48 + d : Nat) : Int) := ⟨_, rfl⟩
                rw [← hx] at h1i h2i
                have hcx : (c.toNat : Int) = x := by rw [hcn, hx]
                obtain ⟨nx, hnx⟩ : ∃ nx, nx = 10 * acc + d := ⟨_, rfl⟩
                have hw1 : IntKind.u8.wrap (x - 48) = (d : Int) := by rw [show x - 48 = (d : Int) by omega]; exact IntWalk.u8_in _ (by omega)
                have hw2 : IntKind.i64.wrap (d : Int) = (d : Int) := IntWalk.i64_in _ (by omega)
                have hw3 : IntKind.i64.wrap (10 * (acc : Int)) = 10 * (acc : Int) := IntWalk.i64_in _ (by omega)
                have hw4 : IntKind.i64.wrap (10 * (acc : Int) + (d : Int)) = (nx : Int) := by rw [show 10 * (acc : Int) + (d : Int) = (nx : Int) by omega]; exact IntWalk.i64_in _ (by omega)
                have HE2 : Hid (dval 0 s = dval nx (s.drop (k + 1))) := by
                  rw [Hid, HN2.out (by omega), hnx, show 48 + d - 48 = d by omega]
                clear hx hnx hcn HN1 HN2
                by_cases h3 : most < nx
                · have h3i : (most : Int) < (nx : Int) := by omega
                  have hn := Lib.hid (num_great HE2.out h3)
                  go_wp2_with fail
                  exact HNo.out hn.out
                · have h3i : ¬ (most : Int) < (nx : Int) := by omega
                  go_wp2_with fail
                  go_roundw
                  case rel => exact ⟨k + 1, nx, by omega, by omega, by go_num, rfl, HE2, trivial⟩
                  case measure => simp [intOf]; omega
          · obtain rfl : k = s.length := by omega
            have hv : Hid (numL s most = some acc) := HCan.out acc (by rw [HE.out, List.drop_length]; rfl) ham
            go_wp2_with fail
            exact HYes.out acc hv.out
    · have h1i : ¬ (1 : Int) < (s.length : Int) := by omega
      have HCan : Hid (∀ v, dval 0 s = some v → v ≤ most → numL s most = some v) := fun v hv hvm => by
        unfold numL
        rw [if_neg, hv]
        · dsimp only
          rw [if_pos hvm]
        · rintro (h | ⟨h2, _⟩)
          · exact hnil h
          · exact h1 h2
      clear hhd hb0
      generalize NumPost s most w = Q at *
      go_enter Tryd.func38, Tryd.ntmps38
      go_wp2_with fail
      go_loopw [6, 7] (fun a i V => ∃ (k acc : Nat), k ≤ s.length ∧ acc ≤ most ∧ i = .int .i64 k ∧ a = .int .i64 (acc : Int) ∧ Hid (dval 0 s = dval acc (s.drop k)) ∧ V = w) (fun _ i _ => s.length - (intOf i).toNat)
      case atStart => exact ⟨0, 0, Nat.zero_le _, Nat.zero_le _, rfl, rfl, rfl, rfl⟩
      case round =>
        obtain ⟨k, acc, hk, ham, rfl, rfl, HE, rfl⟩ := hrel
        by_cases hlt : k < s.length
        · have hb : (⟨s.toArray⟩ : ByteArray)[k]'hlt = s[k] := rfl
          have hki : (k : Int) < (s.length : Int) := by omega
          have HN1 := Lib.hid (num_not_dig (most := most) hlt HE.out)
          have HN2 := Lib.hid (dval_step hlt HE.out)
          have hbl := s[k].toNat_lt
          unfold isDig at HN1 HN2
          generalize s[k] = c at *
          obtain ⟨cn, hcn⟩ : ∃ cn, c.toNat = cn := ⟨_, rfl⟩
          rw [hcn] at HN1 HN2 hbl
          by_cases h1 : cn < 48
          · have h1i : (cn : Int) < 48 := by omega
            have hn := Lib.hid (HN1.out (by omega))
            go_wp2_with fail
            exact HNo.out hn.out
          · by_cases h2 : 57 < cn
            · have h1i : ¬ (cn : Int) < 48 := by omega
              have h2i : (57 : Int) < (cn : Int) := by omega
              have hn := Lib.hid (HN1.out (by omega))
              go_wp2_with fail
              exact HNo.out hn.out
            · have h1i : ¬ (cn : Int) < 48 := by omega
              have h2i : ¬ (57 : Int) < (cn : Int) := by omega
              obtain ⟨d, rfl⟩ : ∃ d, cn = 48 + d := ⟨cn - 48, by omega⟩
              obtain ⟨x, hx⟩ : ∃ x : Int, x = ((48 + d : Nat) : Int) := ⟨_, rfl⟩
              rw [← hx] at h1i h2i
              have hcx : (c.toNat : Int) = x := by rw [hcn, hx]
              obtain ⟨nx, hnx⟩ : ∃ nx, nx = 10 * acc + d := ⟨_, rfl⟩
              have hw1 : IntKind.u8.wrap (x - 48) = (d : Int) := by rw [show x - 48 = (d : Int) by omega]; exact IntWalk.u8_in _ (by omega)
              have hw2 : IntKind.i64.wrap (d : Int) = (d : Int) := IntWalk.i64_in _ (by omega)
              have hw3 : IntKind.i64.wrap (10 * (acc : Int)) = 10 * (acc : Int) := IntWalk.i64_in _ (by omega)
              have hw4 : IntKind.i64.wrap (10 * (acc : Int) + (d : Int)) = (nx : Int) := by rw [show 10 * (acc : Int) + (d : Int) = (nx : Int) by omega]; exact IntWalk.i64_in _ (by omega)
              have HE2 : Hid (dval 0 s = dval nx (s.drop (k + 1))) := by
                rw [Hid, HN2.out (by omega), hnx, show 48 + d - 48 = d by omega]
              clear hx hnx hcn HN1 HN2
              by_cases h3 : most < nx
              · have h3i : (most : Int) < (nx : Int) := by omega
                have hn := Lib.hid (num_great HE2.out h3)
                go_wp2_with fail
                exact HNo.out hn.out
              · have h3i : ¬ (most : Int) < (nx : Int) := by omega
                go_wp2_with fail
                go_roundw
                case rel => exact ⟨k + 1, nx, by omega, by omega, by go_num, rfl, HE2, trivial⟩
                case measure => simp [intOf]; omega
        · obtain rfl : k = s.length := by omega
          have hv : Hid (numL s most = some acc) := HCan.out acc (by rw [HE.out, List.drop_length]; rfl) ham
          go_wp2_with fail
          exact HYes.out acc hv.out
end Go.Proofs.YtooplogodcadgaaDoor
