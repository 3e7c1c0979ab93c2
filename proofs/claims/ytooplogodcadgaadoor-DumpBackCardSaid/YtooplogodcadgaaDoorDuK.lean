/- Dumps: what the library tells of a text whose first sign # is replaced. -/
import Derived.Test.YtooplogodcadgaaDoorDuJ
import Derived.Lib.IndexLaws
namespace Go.Proofs.YtooplogodcadgaaDoor
open Go.RowKit Go.Lib

theorem byte_of_first {c : UInt8} : ∀ {a t : Bs}, c ∉ a → indexByte (a ++ c :: t) c = a.length
  | [], t, _ => by simp [indexByte]
  | d :: a, t, h => by
    have hc : ¬ d = c := fun e => h (by rw [e]; exact List.mem_cons_self ..)
    have ih := byte_of_first (a := a) (t := t) (fun h2 => h (List.mem_cons_of_mem _ h2))
    rw [List.cons_append, indexByte, ih, if_neg (by simpa using hc), if_neg (by simp), List.length_cons]
    omega
/-- the builder's bytes; all that was there is kept -/
def BW (W : World) (bs : Bs) (V : World) : Prop := BuilderAt 95 5 W.heap.size W.heap.size (.pointer (some ⟨W.heap.size, 0, none⟩)) (byteCells bs) V ∧ Below W.heap.size W V
theorem bw_grow (W : World) (n : Nat) (hn : n ≤ 100000000) : Calls Tryd.prog 41 #[.pointer (some ⟨W.heap.size, 0, none⟩), .int .i64 (n : Int)] (W.alloc (.cells #[.pointer none, .slice none 0 0] 95)) fun e w' => e = .returned (.tuple #[]) ∧ BW W [] w' := by
  refine (Tryd.Builder_Grow_fresh W.heap.size W.heap.size n _ (Nat.le_refl _) (heap_alloc_new W _) (by simp) (by omega)).mono ?_
  rintro e w' ⟨rfl, h1, h2⟩
  exact ⟨rfl, h1, (Below.alloc (Below.refl _ W) (Nat.le_refl _) _).trans h2⟩
theorem bw_write (W V : World) (bs s : Bs) (h : BW W bs V) (hn : bs.length + s.length ≤ 100000000) : Calls Tryd.prog 43 #[.pointer (some ⟨W.heap.size, 0, none⟩), .string ⟨s.toArray⟩] V fun e w' => e = .returned (.tuple #[.int .i64 s.length, .nilIface]) ∧ BW W (bs ++ s) w' := by
  have hsz : (⟨s.toArray⟩ : ByteArray).size = s.length := by simp [ByteArray.size]
  refine (bld_write W.heap.size W.heap.size (byteCells bs) ⟨s.toArray⟩ V (.inr h.1) (by rw [byteCells_length]; omega) h.2.size).mono ?_
  rintro e w' ⟨rfl, h1, h2⟩
  refine ⟨by rw [hsz], ?_, h.2.trans h2⟩
  rw [byteCells_append]
  exact h1
theorem bw_string (W V : World) (bs : Bs) (h : BW W bs V) : Calls Tryd.prog 45 #[.pointer (some ⟨W.heap.size, 0, none⟩)] V fun e w' => e = .returned (.string ⟨bs.toArray⟩) ∧ Kept [] W w' := by
  refine (Tryd.Builder_String_any W.heap.size W.heap.size bs V (.inr h.1) h.2.size).mono ?_
  rintro e w' ⟨rfl, h2⟩
  exact ⟨rfl, Kept.ofBelow (h.2.trans h2)⟩
set_option maxRecDepth 4000 in
set_option maxHeartbeats 4000000 in
theorem lib_Replace (a t x : Bs) (ha : (35 : UInt8) ∉ a) (hx : x ≠ [35]) (hn : a.length + t.length + x.length ≤ 1000000) (w : World) :
    Calls Tryd.prog 29 #[.string ⟨(a ++ 35 :: t).toArray⟩, .string ⟨#[35]⟩, .string ⟨x.toArray⟩, .int .i64 1] w fun e w' => e = .returned (.string ⟨(a ++ x ++ t).toArray⟩) ∧ Kept [] w w' := by
  have HG := bw_grow w (a.length + t.length + x.length) (by omega)
  rw [Int.natCast_add, Int.natCast_add] at HG
  replace HG := Lib.hid HG
  have HWr := Lib.hid (fun (V : World) (bs s : Bs) (h : BW w bs V) (hn : bs.length + s.length ≤ 100000000) => bw_write w V bs s h hn)
  have HSt := Lib.hid (fun (V : World) (bs : Bs) (h : BW w bs V) => bw_string w V bs h)
  obtain ⟨S, hS⟩ : ∃ S, S = a ++ 35 :: t := ⟨_, rfl⟩
  have hSl : S.length = a.length + t.length + 1 := by
    rw [hS, List.length_append, List.length_cons]
    omega
  have HC : Hid (∀ V, Calls Tryd.prog 40 #[.string ⟨S.toArray⟩, .string ⟨#[35]⟩] V fun e w' => (∃ m : Nat, e = .returned (.int .i64 ((m : Int) + 1))) ∧ V = w') := fun V => by
    refine (Tryd.strings_Count_one ⟨S.toArray⟩ 35 V).mono ?_
    rintro e w' ⟨rfl, rfl⟩
    refine ⟨⟨a.count 35 + t.count 35, ?_⟩, rfl⟩
    show Ending.returned (.int .i64 ((S.count 35 : Nat) : Int)) = _
    rw [hS, List.count_append, List.count_cons_self]
    congr 2
  have HI : Hid (∀ V, Calls Tryd.prog 42 #[.string ⟨S.toArray⟩, .string ⟨#[35]⟩] V fun e w' => e = .returned (.int .i64 (a.length : Int)) ∧ V = w') := fun V => by
    refine (Tryd.strings_Index_one ⟨S.toArray⟩ 35 V).mono ?_
    rintro e w' ⟨rfl, rfl⟩
    refine ⟨?_, rfl⟩
    show Ending.returned (.int .i64 (indexByte S 35)) = _
    rw [hS, byte_of_first ha]
  have hx0 : (⟨S.toArray⟩ : ByteArray).extract 0 S.length = ⟨S.toArray⟩ := by
    rw [extract_list2]
    simp
  have hx1 : (⟨S.toArray⟩ : ByteArray).extract 0 a.length = ⟨a.toArray⟩ := by
    rw [extract_list2, hS]
    simp
  have hx2 : (⟨S.toArray⟩ : ByteArray).extract (a.length + 1) S.length = ⟨t.toArray⟩ := by
    have hd : a.drop (a.length + 1) = [] := List.drop_eq_nil_of_le (by omega)
    rw [extract_list2, hSl, hS, List.drop_append, hd]
    simp
  have d1 : ¬ ([35] : Bs) = x := fun h => hx h.symm
  have d2 := bs_ne d1
  have e1 : (([35] : Bs) == x) = false := by simpa using d1
  have hSi : (S.length : Int) = (a.length : Int) + (t.length : Int) + 1 := by omega
  have hw1 : IntKind.i64.wrap ((x.length : Int) - 1) = (x.length : Int) - 1 := IntWalk.i64_in _ (by omega)
  have hw2 : IntKind.i64.wrap ((S.length : Int) + ((x.length : Int) - 1)) = ((a.length + t.length + x.length : Nat) : Int) := by
    rw [show (S.length : Int) + ((x.length : Int) - 1) = ((a.length + t.length + x.length : Nat) : Int) by omega]
    exact IntWalk.i64_in _ (by omega)
  have hw3 : IntKind.i64.wrap ((a.length : Int) + 1) = (a.length : Int) + 1 := IntWalk.i64_in _ (by omega)
  have hw4 : IntKind.i64.wrap (a.length : Int) = (a.length : Int) := IntWalk.i64_in _ (by omega)
  rw [← hS]
  replace hSl := Lib.hid hSl
  replace hSi := Lib.hid hSi
  clear hS ha hx
  go_enter Tryd.func29, Tryd.ntmps29
  go_wp2_with fail
  refine (HC.out _).mono ?_
  rintro e w1 ⟨⟨m, rfl⟩, rfl⟩
  have hm0 : ((m : Int) + 1 == 0) = false := by rw [beq_eq_false_iff_ne]; omega
  have hm1 : ¬ (m : Int) + 1 < 1 := by omega
  have hm2 : ¬ (m : Int) + 1 = 0 := by omega
  go_wp2_with fail
  refine HG.out.mono ?_
  rintro e w2 ⟨rfl, b2⟩
  have B2 := Lib.hid b2
  clear b2 HG
  go_wp2_with fail
  go_loopw [11, 53] (fun s c V => ∃ (k st : Nat) (bs : Bs), c = .int .i64 k ∧ s = .int .i64 st ∧ Hid ((k = 0 ∧ st = 0 ∧ bs = []) ∨ (k = 1 ∧ st = a.length + 1 ∧ bs = a ++ x)) ∧ Hid (BW w bs V)) (fun _ c _ => 1 - (RowKit.intOf c).toNat)
  case atStart => exact ⟨0, 0, [], rfl, rfl, .inl ⟨rfl, rfl, rfl⟩, B2⟩
  case round =>
    obtain ⟨k, st, bs, rfl, rfl, HK, HB⟩ := hrel
    rcases HK.out with ⟨rfl, rfl, rfl⟩ | ⟨rfl, rfl, rfl⟩
    · clear HK B2
      have ha1 : (a.length : Int) ≤ (S.length : Int) := by have := hSi.out; omega
      go_wp2_with fail
      refine (HI.out _).mono ?_
      rintro e w3 ⟨rfl, rfl⟩
      go_wp2_with fail
      refine (HWr.out _ [] a HB.out (by simp; omega)).mono ?_
      rintro e w4 ⟨rfl, b4⟩
      have B4 := Lib.hid b4
      clear b4
      go_wp2_with fail
      refine (HWr.out _ _ x B4.out (by simp; omega)).mono ?_
      rintro e w5 ⟨rfl, b5⟩
      have B5 := Lib.hid b5
      clear b5 B4
      go_wp2_with fail
      go_roundw
      case rel => exact ⟨1, a.length + 1, a ++ x, rfl, by go_num, .inr ⟨rfl, rfl, rfl⟩, B5⟩
      case measure => simp [RowKit.intOf]
    · clear HK B2
      have ha1 : (a.length : Int) + 1 ≤ (S.length : Int) := by have := hSi.out; omega
      have ha0 : (0 : Int) ≤ (a.length : Int) + 1 := by omega
      go_wp2_with fail
      refine (HWr.out _ _ t HB.out (by simp; omega)).mono ?_
      rintro e w4 ⟨rfl, b4⟩
      have B4 := Lib.hid b4
      clear b4
      go_wp2_with fail
      refine (HSt.out _ _ B4.out).mono ?_
      rintro e w5 ⟨rfl, k5⟩
      have K5 := Lib.hid k5
      clear k5
      go_wp2_with fail
      go_ret
      exact ⟨by rw [List.append_assoc]; rfl, K5.out⟩
end Go.Proofs.YtooplogodcadgaaDoor
