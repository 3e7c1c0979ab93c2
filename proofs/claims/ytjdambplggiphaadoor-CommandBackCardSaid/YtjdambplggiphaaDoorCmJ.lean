/- Commands: a figure's place among the figures. -/
import Derived.Test.YtjdambplggiphaaDoorCmI
import Derived.Deep.RegionWith
import Derived.Deep.RegionWith
import Derived.Deep.RegionWith
import Derived.Deep.RegionWith
import Derived.Deep.RegionWith
import Derived.Laws.Runes
import Derived.Scope
import Derived.Laws.RangeAny
import Derived.Lib.OthersKept
namespace Go.Proofs.YtjdambplggiphaaDoor
open Go.RowKit Go.Lib

def figsL : Bs := [48, 49, 50, 51, 52, 53, 54, 55, 56, 57, 97, 98, 99, 100, 101, 102]
theorem figs_low (i : Nat) (h : i < figsL.length) : figsL[i].toNat < 128 := by
  have : ∀ i : Fin 16, (figsL[i.val]'(i.isLt)).toNat < 128 := by decide
  exact this ⟨i, h⟩
theorem index_high {l : Bs} {b : UInt8} (h : ∀ x ∈ l, x ≠ b) : indexByte l b = -1 := by
  induction l with
  | nil => rfl
  | cons x t ih =>
    have h1 : (x == b) = false := by simpa using h x (List.mem_cons_self ..)
    unfold indexByte
    rw [h1, ih (fun y hy => h y (List.mem_cons_of_mem _ hy))]
    rfl
set_option maxRecDepth 8000 in
set_option maxHeartbeats 4000000 in
theorem lib_IndexRune_high (r : Int) (h0 : 128 ≤ r) (h1 : r ≤ 2147483647) (w : World) : Calls Tryd.prog 39 #[.string ⟨figsL.toArray⟩, .int .i32 r] w fun e w' => e = .returned (.int .i64 (-1)) ∧ Kept [] w w' := by
  have g0 : (0 : Int) ≤ r := by omega
  have g1 : ¬ r < 128 := by omega
  have HV := Tryd.utf8_ValidRune r
  by_cases hq : r = 65533
  · subst hq
    clear HV h0 h1 g0 g1
    have hfl : ∀ i, (h : i < (⟨figsL.toArray⟩ : ByteArray).size) → ((⟨figsL.toArray⟩ : ByteArray)[i]'h).toNat < 128 := fun i h => figs_low i h
    have hfs : (⟨figsL.toArray⟩ : ByteArray).size = 16 := rfl
    generalize (⟨figsL.toArray⟩ : ByteArray) = fb at *
    go_enter Tryd.func39, Tryd.ntmps39
    go_wp2_with fail
    go_loopw [5] (fun _ V => ∃ pos, pos ≤ 16 ∧ V = w.iter fb pos) (fun _ V => 16 - V.iterPos w.heap.size)
    case atStart => exact ⟨0, by omega, rfl⟩
    case round =>
      obtain ⟨pos, hp, rfl⟩ := hrel
      by_cases hlt : pos < fb.size
      · have hnx := fun ty => run_next_ascii (P := Tryd.prog) w fb pos ty hlt (hfl pos hlt)
        have hc := hfl pos hlt
        generalize (fb[pos]'hlt).toNat = cn at *
        have hcb : ((cn : Int) == 65533) = false := by
          rw [beq_eq_false_iff_ne]
          omega
        go_wp2_with fail
        refine ⟨⟨pos + 1, by omega, rfl⟩, ?_⟩
        rw [World.iterPos_iter, World.iterPos_iter]
        omega
      · have hnx := fun ty => run_next_end (P := Tryd.prog) w fb pos ty hlt
        go_wp2_with fail
        go_ret
        exact ⟨rfl, (Kept.refl _ _).alloc _⟩
  · have hqb : (r == 65533) = false := by simpa using hq
    by_cases hv : Lib.validRune r = true
    · have hv2 : Utf8.valid r = true := by
        unfold Lib.validRune at hv
        unfold Utf8.valid
        simp at hv ⊢
        omega
      obtain ⟨e1, e2, e3⟩ := encode_facts r hv2 h0
      rw [hv] at HV
      obtain ⟨en, hen0⟩ : ∃ en, Utf8.encode r = en := ⟨_, rfl⟩
      rw [hen0] at e1 e2 e3
      clear hv hv2
      rcases (show en.size = 2 ∨ en.size = 3 ∨ en.size = 4 by omega) with hsz | hsz | hsz
      · have hl : 1 < en.size := by omega
        have hen : (en[1]'hl).toNat ≥ 128 := by
          have h := e3 (by omega)
          have e4 : en.size - 1 = 1 := by omega
          simpa only [e4] using h
        generalize hx : en[1]'hl = x at *
        have hxi : ((49 : Int) == ((x.toNat : Nat) : Int)) = false := by
          rw [beq_eq_false_iff_ne]
          omega
        have hxl := x.toNat_lt
        have hIB := Tryd.strings_IndexByte ⟨#[50, 51, 52, 53, 54, 55, 56, 57, 97, 98, 99, 100, 101, 102]⟩ ((x.toNat : Nat) : Int)
        rw [show indexByte (⟨#[50, 51, 52, 53, 54, 55, 56, 57, 97, 98, 99, 100, 101, 102]⟩ : ByteArray).data.toList ((x.toNat : Nat) : Int).toNat.toUInt8 = -1 from index_high (fun y hy e => by
          have hy2 : y.toNat < 128 := by
            have : ∀ z ∈ ([50, 51, 52, 53, 54, 55, 56, 57, 97, 98, 99, 100, 101, 102] : Bs), z.toNat < 128 := by decide
            exact this y hy
          rw [e, Int.toNat_natCast] at hy2
          have e5 : (x.toNat.toUInt8).toNat = x.toNat := by simp
          omega)] at hIB
        have hsl : (⟨#[48, 49, 50, 51, 52, 53, 54, 55, 56, 57, 97, 98, 99, 100, 101, 102]⟩ : ByteArray).extract 2 16 = ⟨#[50, 51, 52, 53, 54, 55, 56, 57, 97, 98, 99, 100, 101, 102]⟩ := by decide +kernel
        have hix : ∀ h, (⟨#[48, 49, 50, 51, 52, 53, 54, 55, 56, 57, 97, 98, 99, 100, 101, 102]⟩ : ByteArray)[1]'h = 49 := fun _ => rfl
        have hxj : ((49 : Int) != ((x.toNat : Nat) : Int)) = true := by rw [bne, hxi]; rfl
        have hwr : IntKind.i64.wrap 2 = 2 := by decide
        clear e1 e2 e3
        unfold figsL
        go_enter Tryd.func39, Tryd.ntmps39
        go_wp2_with fail
        refine (HV _).mono ?_
        rintro e w1 ⟨rfl, rfl⟩
        go_wp2_with fail
        refine wp_scope_straight ?_
        go_wp2_with fail
        go_loopw [9] (fun i V => i = .int .i64 1 ∧ V = w1) (fun _ _ => 0)
        case atStart => exact ⟨rfl, rfl⟩
        case round =>
          obtain ⟨rfl, rfl⟩ := hrel
          go_wp2_with fail
          refine wp_scope_straight ?_
          go_wp2_with fail
          go_quiet (fail)
          go_wp2_with fail
          go_region_with ((go_at_call 53; refine (hIB _).mono ?_; rintro e w3 ⟨rfl, rfl⟩))
          go_wp2_with fail
          dsimp only [Exit.noGoto]
          go_wp2_with fail
          dsimp only [Exit.noGoto]
          go_wp2_with fail
          go_ret
          exact ⟨rfl, (Kept.refl _ _).drewN _⟩
      · have hl : 2 < en.size := by omega
        have hen : (en[2]'hl).toNat ≥ 128 := by
          have h := e3 (by omega)
          have e4 : en.size - 1 = 2 := by omega
          simpa only [e4] using h
        generalize hx : en[2]'hl = x at *
        have hxi : ((50 : Int) == ((x.toNat : Nat) : Int)) = false := by
          rw [beq_eq_false_iff_ne]
          omega
        have hxl := x.toNat_lt
        have hIB := Tryd.strings_IndexByte ⟨#[51, 52, 53, 54, 55, 56, 57, 97, 98, 99, 100, 101, 102]⟩ ((x.toNat : Nat) : Int)
        rw [show indexByte (⟨#[51, 52, 53, 54, 55, 56, 57, 97, 98, 99, 100, 101, 102]⟩ : ByteArray).data.toList ((x.toNat : Nat) : Int).toNat.toUInt8 = -1 from index_high (fun y hy e => by
          have hy2 : y.toNat < 128 := by
            have : ∀ z ∈ ([51, 52, 53, 54, 55, 56, 57, 97, 98, 99, 100, 101, 102] : Bs), z.toNat < 128 := by decide
            exact this y hy
          rw [e, Int.toNat_natCast] at hy2
          have e5 : (x.toNat.toUInt8).toNat = x.toNat := by simp
          omega)] at hIB
        have hsl : (⟨#[48, 49, 50, 51, 52, 53, 54, 55, 56, 57, 97, 98, 99, 100, 101, 102]⟩ : ByteArray).extract 3 16 = ⟨#[51, 52, 53, 54, 55, 56, 57, 97, 98, 99, 100, 101, 102]⟩ := by decide +kernel
        have hix : ∀ h, (⟨#[48, 49, 50, 51, 52, 53, 54, 55, 56, 57, 97, 98, 99, 100, 101, 102]⟩ : ByteArray)[2]'h = 50 := fun _ => rfl
        have hxj : ((50 : Int) != ((x.toNat : Nat) : Int)) = true := by rw [bne, hxi]; rfl
        have hwr : IntKind.i64.wrap 3 = 3 := by decide
        clear e1 e2 e3
        unfold figsL
        go_enter Tryd.func39, Tryd.ntmps39
        go_wp2_with fail
        refine (HV _).mono ?_
        rintro e w1 ⟨rfl, rfl⟩
        go_wp2_with fail
        refine wp_scope_straight ?_
        go_wp2_with fail
        go_loopw [9] (fun i V => i = .int .i64 2 ∧ V = w1) (fun _ _ => 0)
        case atStart => exact ⟨rfl, rfl⟩
        case round =>
          obtain ⟨rfl, rfl⟩ := hrel
          go_wp2_with fail
          refine wp_scope_straight ?_
          go_wp2_with fail
          go_quiet (fail)
          go_wp2_with fail
          go_region_with ((go_at_call 53; refine (hIB _).mono ?_; rintro e w3 ⟨rfl, rfl⟩))
          go_wp2_with fail
          dsimp only [Exit.noGoto]
          go_wp2_with fail
          dsimp only [Exit.noGoto]
          go_wp2_with fail
          go_ret
          exact ⟨rfl, (Kept.refl _ _).drewN _⟩
      · have hl : 3 < en.size := by omega
        have hen : (en[3]'hl).toNat ≥ 128 := by
          have h := e3 (by omega)
          have e4 : en.size - 1 = 3 := by omega
          simpa only [e4] using h
        generalize hx : en[3]'hl = x at *
        have hxi : ((51 : Int) == ((x.toNat : Nat) : Int)) = false := by
          rw [beq_eq_false_iff_ne]
          omega
        have hxl := x.toNat_lt
        have hIB := Tryd.strings_IndexByte ⟨#[52, 53, 54, 55, 56, 57, 97, 98, 99, 100, 101, 102]⟩ ((x.toNat : Nat) : Int)
        rw [show indexByte (⟨#[52, 53, 54, 55, 56, 57, 97, 98, 99, 100, 101, 102]⟩ : ByteArray).data.toList ((x.toNat : Nat) : Int).toNat.toUInt8 = -1 from index_high (fun y hy e => by
          have hy2 : y.toNat < 128 := by
            have : ∀ z ∈ ([52, 53, 54, 55, 56, 57, 97, 98, 99, 100, 101, 102] : Bs), z.toNat < 128 := by decide
            exact this y hy
          rw [e, Int.toNat_natCast] at hy2
          have e5 : (x.toNat.toUInt8).toNat = x.toNat := by simp
          omega)] at hIB
        have hsl : (⟨#[48, 49, 50, 51, 52, 53, 54, 55, 56, 57, 97, 98, 99, 100, 101, 102]⟩ : ByteArray).extract 4 16 = ⟨#[52, 53, 54, 55, 56, 57, 97, 98, 99, 100, 101, 102]⟩ := by decide +kernel
        have hix : ∀ h, (⟨#[48, 49, 50, 51, 52, 53, 54, 55, 56, 57, 97, 98, 99, 100, 101, 102]⟩ : ByteArray)[3]'h = 51 := fun _ => rfl
        have hxj : ((51 : Int) != ((x.toNat : Nat) : Int)) = true := by rw [bne, hxi]; rfl
        have hwr : IntKind.i64.wrap 4 = 4 := by decide
        clear e1 e2 e3
        unfold figsL
        go_enter Tryd.func39, Tryd.ntmps39
        go_wp2_with fail
        refine (HV _).mono ?_
        rintro e w1 ⟨rfl, rfl⟩
        go_wp2_with fail
        refine wp_scope_straight ?_
        go_wp2_with fail
        go_loopw [9] (fun i V => i = .int .i64 3 ∧ V = w1) (fun _ _ => 0)
        case atStart => exact ⟨rfl, rfl⟩
        case round =>
          obtain ⟨rfl, rfl⟩ := hrel
          go_wp2_with fail
          refine wp_scope_straight ?_
          go_wp2_with fail
          go_quiet (fail)
          go_wp2_with fail
          go_region_with ((go_at_call 53; refine (hIB _).mono ?_; rintro e w3 ⟨rfl, rfl⟩))
          go_wp2_with fail
          dsimp only [Exit.noGoto]
          go_wp2_with fail
          dsimp only [Exit.noGoto]
          go_wp2_with fail
          go_ret
          exact ⟨rfl, (Kept.refl _ _).drewN _⟩
    · have hv : Lib.validRune r = false := by simpa using hv
      rw [hv] at HV
      unfold figsL
      go_enter Tryd.func39, Tryd.ntmps39
      go_wp2_with fail
      refine (HV _).mono ?_
      rintro e w1 ⟨rfl, rfl⟩
      go_wp2_with fail
      go_ret
      exact ⟨rfl, Kept.refl _ _⟩
end Go.Proofs.YtjdambplggiphaaDoor
