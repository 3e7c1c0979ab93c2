/- The law CrcEven: its walk. -/
import Derived.Test.YthdigddbhlakmaaCrcD
import Derived.Test.YthdigddbhlakmaaCrcE
import Derived.Test.YthdigddbhlakmaaAny
import Derived.Deep.RegionWith
namespace Go.Proofs.Ythdigddbhlakmaa
open Go.RowKit

set_option maxRecDepth 4000 in
set_option maxHeartbeats 1000000 in
theorem even_no (w : World) (a b c : List UInt8) (h : 200 < a.length ∨ b.length < a.length ∨ c.length < a.length) :
    Calls Try.prog 4 #[.string ⟨a.toArray⟩, .string ⟨b.toArray⟩, .string ⟨c.toArray⟩] w fun e w' => e = .returned (.bool true) ∧ Kept [] w w' := by
  by_cases h1 : 200 < a.length
  · go_enter Try.func4, Try.ntmps4
    go_wp2_with (go_at_call 5; refine (crc_alive _).mono ?_; rintro e w2 ⟨rfl, k2⟩)
    go_ret
    exact ⟨rfl, k2⟩
  · by_cases h2 : b.length < a.length
    · go_enter Try.func4, Try.ntmps4
      go_wp2_with (go_at_call 5; refine (crc_alive _).mono ?_; rintro e w2 ⟨rfl, k2⟩)
      go_ret
      exact ⟨rfl, k2⟩
    · have h3 : c.length < a.length := by omega
      go_enter Try.func4, Try.ntmps4
      go_wp2_with (go_at_call 5; refine (crc_alive _).mono ?_; rintro e w2 ⟨rfl, k2⟩)
      go_ret
      exact ⟨rfl, k2⟩

def x3 (a b c : List UInt8) (k : Nat) : List UInt8 := xor3 (a.take k) (b.take k) (c.take k)
theorem x3_succ : ∀ (a b c : List UInt8) (k : Nat) (h1 : k < a.length) (h2 : k < b.length) (h3 : k < c.length), x3 a b c (k + 1) = x3 a b c k ++ [a[k] ^^^ b[k] ^^^ c[k]]
  | _ :: _, _ :: _, _ :: _, 0, _, _, _ => by simp [x3, xor3]
  | x :: a, y :: b, z :: c, k + 1, h1, h2, h3 => by
    have := x3_succ a b c k (by simpa using h1) (by simpa using h2) (by simpa using h3)
    unfold x3 at this ⊢
    simp only [List.take_succ_cons, xor3, List.cons_append, List.getElem_cons_succ]
    rw [this]
theorem x3_len : ∀ (a b c : List UInt8) (k : Nat), k ≤ a.length → k ≤ b.length → k ≤ c.length → (x3 a b c k).length = k
  | _, _, _, 0, _, _, _ => by simp [x3, xor3]
  | x :: a, y :: b, z :: c, k + 1, h1, h2, h3 => by
    have := x3_len a b c k (by simpa using h1) (by simpa using h2) (by simpa using h3)
    unfold x3 at this ⊢
    simp [List.take_succ_cons, xor3, this]

/-- in a world lies a block with one text -/
def Has (W : World) (A : Nat) (p : List UInt8) : Prop := Rd W W.heap.size 1 (some ⟨A, 0, none⟩) 1 [strV p]
theorem Has.new {w : World} {A : Nat} {p : List UInt8} {t : TypeId} (h : A = w.heap.size) : Has (w.alloc (.cells #[.string ⟨p.toArray⟩] t)) A p := by
  subst h
  exact rd_one w p t
theorem Has.kept {W W' : World} {A : Nat} {p : List UInt8} (k : Kept [] W W') (h : Has W A p) : Has W' A p := by
  have h1 : Rd W W.heap.size 1 (some ⟨A, 0, none⟩) 1 [strV p] := h
  have h2 := h1.kept k (Nat.le_refl _) (fun _ h => by cases h)
  exact ⟨h2.1, fun hn => by
    obtain ⟨b, o, e, hlt, hc⟩ := h2.2 hn
    exact ⟨b, o, e, Nat.lt_of_lt_of_le hlt k.size, hc⟩⟩
theorem Has.alloc {W : World} {A : Nat} {p : List UInt8} {o : Obj} (h : Has W A p) : Has (W.alloc o) A p := h.kept ((Kept.refl [] W).alloc _)
theorem crc_Sum1 (W : World) (A : Nat) (p : List UInt8) (n : Nat) (h : Has W A p) (hn : Hid (sumN p = n)) (hp : p.length ≤ 140737488351232) :
    Calls Try.prog 8 #[.slice (some ⟨A, 0, none⟩) 1 1] W fun e w' => e = .returned (.int .u32 (n : Int)) ∧ Kept [] W w' := by
  refine (crc_Sum W _ _ 1 [p] h (Nat.le_refl _) (by simp) (by simp; omega)).mono ?_
  rintro e w2 ⟨rfl, k2⟩
  rw [show [p].flatten = p by simp, hn.out]
  exact ⟨rfl, k2⟩
theorem even_fin (a b c : List UInt8) (h2 : a.length ≤ b.length) (h3 : a.length ≤ c.length) : sumN (x3 a b c a.length) = sumN a ^^^ sumN (b.take a.length) ^^^ sumN (c.take a.length) := by
  rw [x3, List.take_length, sumN_xor3 _ _ _ (by simp; omega) (by simp; omega)]

/-- what each operation of the last region leaves -/
def evF (a b c X B C : List UInt8) (S : Value) (L nX nA nB nC : Nat) : Nat → Value → World → Prop
  | 0, v, _ => v = .bool true
  | 1, v, _ => v = .bool true
  | 2, v, _ => v = S
  | 3, v, _ => v = .string ⟨X.toArray⟩
  | 4, v, w => ∃ A : Nat, v = .slice (some ⟨A, 0, none⟩) 1 1 ∧ Has w A X
  | 5, v, _ => v = .int .u32 (nX : Int)
  | 6, v, _ => v = .string ⟨a.toArray⟩
  | 7, v, w => ∃ A : Nat, v = .slice (some ⟨A, 0, none⟩) 1 1 ∧ Has w A a
  | 8, v, _ => v = .int .u32 (nA : Int)
  | 9, v, _ => v = .string ⟨b.toArray⟩
  | 10, v, _ => v = .int .i64 (L : Int)
  | 11, v, _ => v = .string ⟨B.toArray⟩
  | 12, v, w => ∃ A : Nat, v = .slice (some ⟨A, 0, none⟩) 1 1 ∧ Has w A B
  | 13, v, _ => v = .int .u32 (nB : Int)
  | 14, v, _ => v = .int .u32 ((nA ^^^ nB : Nat) : Int)
  | 15, v, _ => v = .string ⟨c.toArray⟩
  | 16, v, _ => v = .int .i64 (L : Int)
  | 17, v, _ => v = .string ⟨C.toArray⟩
  | 18, v, w => ∃ A : Nat, v = .slice (some ⟨A, 0, none⟩) 1 1 ∧ Has w A C
  | 19, v, _ => v = .int .u32 (nC : Int)
  | 20, v, _ => v = .int .u32 ((nA ^^^ nB ^^^ nC : Nat) : Int)
  | 21, v, _ => v = .bool true
  | 22, v, _ => v = .bool true
  | 23, v, _ => v = .bool true
  | _, _, _ => True
theorem evF_mono (a b c X B C : List UInt8) (S : Value) (L nX nA nB nC : Nat) (j : Nat) (v : Value) (w w' : World) (k : Kept [] w w') (h : evF a b c X B C S L nX nA nB nC j v w) : evF a b c X B C S L nX nA nB nC j v w' := by
  match j, h with
  | 0, h => exact h
  | 1, h => exact h
  | 2, h => exact h
  | 3, h => exact h
  | 4, h => obtain ⟨A, h1, h2⟩ := h; exact ⟨A, h1, h2.kept k⟩
  | 5, h => exact h
  | 6, h => exact h
  | 7, h => obtain ⟨A, h1, h2⟩ := h; exact ⟨A, h1, h2.kept k⟩
  | 8, h => exact h
  | 9, h => exact h
  | 10, h => exact h
  | 11, h => exact h
  | 12, h => obtain ⟨A, h1, h2⟩ := h; exact ⟨A, h1, h2.kept k⟩
  | 13, h => exact h
  | 14, h => exact h
  | 15, h => exact h
  | 16, h => exact h
  | 17, h => exact h
  | 18, h => obtain ⟨A, h1, h2⟩ := h; exact ⟨A, h1, h2.kept k⟩
  | 19, h => exact h
  | 20, h => exact h
  | 21, h => exact h
  | 22, h => exact h
  | 23, h => exact h
  | _ + 24, _ => trivial
def evDst (j : Nat) : Nat := if j = 23 then 6 else 50 + j

set_option maxRecDepth 4000 in
set_option maxHeartbeats 2000000 in
theorem even_yes (w : World) (a b c : List UInt8) (h1 : a.length ≤ 200) (h2 : a.length ≤ b.length) (h3 : a.length ≤ c.length) (hb : b.length ≤ 140737488351232) (_hc : c.length ≤ 140737488351232) :
    Calls Try.prog 4 #[.string ⟨a.toArray⟩, .string ⟨b.toArray⟩, .string ⟨c.toArray⟩] w fun e w' => e = .returned (.bool true) ∧ Kept [] w w' := by
  have g1 : ((200 : Int) < (a.length : Int)) = False := by simp; omega
  have g2 : ((b.length : Int) < (a.length : Int)) = False := by simp; omega
  have g3 : ((c.length : Int) < (a.length : Int)) = False := by simp; omega
  go_enter Try.func4, Try.ntmps4
  go_wp2_with fail
  go_loopw [7, 8] (fun v i W => ∃ (k : Nat) (Av : Option Addr) (cv : Nat), k ≤ a.length ∧ i = .int .i64 k ∧ v = .slice Av k cv ∧ Hid (W.ownsRow w.heap.size 5 1 (.slice Av k cv) k ((x3 a b c k).map bv)) ∧ Kept [] w W) (fun _ i _ => a.length - (intOf i).toNat)
  case atStart => exact ⟨0, none, 0, Nat.zero_le _, rfl, rfl, World.ownsRow_nil _ _ _ _, Kept.refl _ _⟩
  case round =>
    obtain ⟨k, Av, cv, hk, rfl, rfl, HO, hkept⟩ := hrel
    by_cases hlt : k < a.length
    · have lb : k < b.length := by omega
      have lc : k < c.length := by omega
      have hk8 : k ≤ 200 := by omega
      clear h1 h2 h3
      have HX := Lib.hid (x3_succ a b c k hlt lb lc)
      have hown := HO.out
      have ga : (⟨a.toArray⟩ : ByteArray)[k]'hlt = a[k] := rfl
      have gb : (⟨b.toArray⟩ : ByteArray)[k]'lb = b[k] := rfl
      have gc : (⟨c.toArray⟩ : ByteArray)[k]'lc = c[k] := rfl
      have i1 : (k : Int) < (b.length : Int) := by omega
      have i2 : (k : Int) < (c.length : Int) := by omega
      have hab : a[k].toNat ^^^ b[k].toNat < 256 := Nat.xor_lt_two_pow (n := 8) (UInt8.toNat_lt _) (UInt8.toNat_lt _)
      have e1 : bits .xor .u8 ((a[k].toNat : Nat) : Int) ((b[k].toNat : Nat) : Int) = ((a[k].toNat ^^^ b[k].toNat : Nat) : Int) :=
        u8_xor_nat _ _ (UInt8.toNat_lt _) (UInt8.toNat_lt _)
      have e2 : bits .xor .u8 ((a[k].toNat ^^^ b[k].toNat : Nat) : Int) ((c[k].toNat : Nat) : Int) = (((a[k] ^^^ b[k] ^^^ c[k]).toNat : Nat) : Int) := by
        rw [u8_xor_nat _ _ hab (UInt8.toNat_lt _), UInt8.toNat_xor, UInt8.toNat_xor]
      clear hab
      obtain ⟨i0, hi0, hz0, hz1, hz2⟩ := info_parts infoB
      have hsz := hkept.size
      generalize hx : a[k] ^^^ b[k] ^^^ c[k] = x at *
      go_wp2_with fail
      go_region_law ((refine step_append_lies _ (by rfl) (.tmp 34) (.tmp 46) _ (by rfl) w.heap.size 5 i0 _ 1 1 Try.underlying28 hi0 hz0 hz1 hz2 rfl (by omega) _ _ _ (by rfl) ((hown.alloc _).drew) ⟨wr.heap.size, 0, none⟩ 1 1 [bv x] (by rfl) (by rfl) (World.news_of_block (cs := #[bv x]) (t := 5) (fr := (0, 0)) (heap_alloc_new wr _)) (by simp [bv, Value.oneCell']) (by omega) (by simp only [maxLen]; omega) (by omega) (by simp [World.drew]; omega) _ rfl ?_; intro gg cap wn hown2 hgrow hatg hltg))
      all_goals
        go_wp2
        go_roundw
        case rel =>
          have hk2 : Kept [] w wn := (hkept.alloc _).drew.grown hgrow (fun x hx => .inr ((hown.lt x hx).1))
          refine ⟨k + 1, _, _, by omega, by go_num, rfl, ?_, hk2⟩
          rw [Hid, HX.out, List.map_append]
          exact hown2
        case measure => simp [intOf]; omega
    · obtain rfl : k = a.length := by omega
      have hrd := Rd.of_own HO.out
      have HR := Lib.hid hrd
      have hcv : ∀ W, Hid (Kept [] wr W) → (convert 28 9 (.slice Av a.length cv)).run Try.prog W = .ok (.string ⟨(x3 a b c a.length).toArray⟩) W := fun W hW =>
        conv_bytes (P := Try.prog) (c := cv) 28 5 Try.underlying28 Try.underlying5 (HR.out.kept hW.out (Nat.le_refl _) (fun _ h => by cases h)) (fun _ => own_nilA HO.out) 9 Try.underlying9
      clear hrd
      go_wp2_with fail
      have la : (x3 a b c a.length).length = a.length := x3_len a b c a.length (Nat.le_refl _) h2 h3
      have fin := even_fin a b c h2 h3
      have lX : (x3 a b c a.length).length ≤ 140737488351232 := by omega
      generalize x3 a b c a.length = X at *
      have eb : (⟨b.toArray⟩ : ByteArray).extract 0 a.length = ⟨(b.take a.length).toArray⟩ := by rw [extract_list]; simp
      have ec : (⟨c.toArray⟩ : ByteArray).extract 0 a.length = ⟨(c.take a.length).toArray⟩ := by rw [extract_list]; simp
      have lA : a.length ≤ 140737488351232 := by omega
      have lB : (b.take a.length).length ≤ 140737488351232 := by rw [List.length_take]; omega
      have lC : (c.take a.length).length ≤ 140737488351232 := by rw [List.length_take]; omega
      obtain ⟨nX, hX⟩ : ∃ n, Hid (sumN X = n) := ⟨_, rfl⟩
      obtain ⟨nA, hA⟩ : ∃ n, Hid (sumN a = n) := ⟨_, rfl⟩
      have sA := sumN_lt a
      have sB := sumN_lt (b.take a.length)
      have sC := sumN_lt (c.take a.length)
      generalize b.take a.length = B at *
      generalize c.take a.length = C at *
      obtain ⟨nB, hB⟩ : ∃ n, Hid (sumN B = n) := ⟨_, rfl⟩
      obtain ⟨nC, hC⟩ : ∃ n, Hid (sumN C = n) := ⟨_, rfl⟩
      rw [hA.out] at sA
      rw [hB.out] at sB
      rw [hC.out] at sC
      rw [hX.out, hA.out, hB.out, hC.out] at fin
      subst fin
      have e1 : bits .xor .u32 (nA : Int) (nB : Int) = ((nA ^^^ nB : Nat) : Int) := u32_xor_nat _ _ sA sB
      have e2 : bits .xor .u32 ((nA ^^^ nB : Nat) : Int) (nC : Int) = ((nA ^^^ nB ^^^ nC : Nat) : Int) := u32_xor_nat _ _ (Nat.xor_lt_two_pow (n := 32) sA sB) sC
      refine wp_region_any (by kernel_rfl) ?_
      refine wpAny_inv (I := TabI 24 73 [(7, .slice Av a.length cv), (0, .string ⟨a.toArray⟩), (1, .string ⟨b.toArray⟩), (2, .string ⟨c.toArray⟩), (9, .int .i64 (a.length : Int))] evDst (evF a b c X B C (.slice Av a.length cv) a.length (nA ^^^ nB ^^^ nC) nA nB nC) wr) ?step ?done _ _ _ _ ?count ?init
      case count => decide
      case init => exact ⟨rfl, rfl, rfl, (Kept.refl [] wr).drew, by simp, fun j hj => by rw [Array.getElem?_replicate] at hj; split at hj <;> cases hj⟩
      case done =>
        intro listed a' w' hI hr
        have hall := ready_nil hI.ls (by decide +kernel) hr
        obtain ⟨v, hv, hf⟩ := hI.done 23 (hall 23 (by decide))
        obtain rfl := hf
        change a'.tmps[6]? = some (.bool true) at hv
        have hvd : a'.tmps.getD 6 undef = .bool true := by rw [Array.getD_eq_getD_getElem?, hv]; rfl
        rename_i hK0
        refine hK0 a' w' (wp_ret (bodyPost_ret (results_tmp rfl _ _ _) hI.df ?_))
        exact ⟨congrArg Ending.returned hvd, hkept.trans hI.kept⟩
      case step =>
        intro listed a' w' i hI hr
        have hi := (ready_iff hr).1
        simp only [List.size_toArray, List.length_cons, List.length_nil] at hi
        have PUT := fun {v : Value} {w'' : World} hF hk o ho => hI.put (i := i) (v := v) (w' := w'') (evF_mono a b c X B C _ _ _ nA nB nC) (by intro p hp j _; simp only [evDst]; simp only [List.mem_cons, List.not_mem_nil, or_false] at hp; rcases hp with rfl | rfl | rfl | rfl | rfl <;> (dsimp only; split <;> omega)) (by intro j k _ _ _; simp only [evDst]; split <;> split <;> omega) (by intro j _; simp only [evDst]; split <;> omega) hi hF hk o ho
        have hb := hI.base
        simp only [List.mem_cons, List.not_mem_nil, or_false, forall_eq_or_imp, forall_eq] at hb
        obtain ⟨b7, b0, b1, b2, b9⟩ := hb
        obtain rfl | rfl | rfl | rfl | rfl | rfl | rfl | rfl | rfl | rfl | rfl | rfl | rfl | rfl | rfl | rfl | rfl | rfl | rfl | rfl | rfl | rfl | rfl | rfl : i = 0 ∨ i = 1 ∨ i = 2 ∨ i = 3 ∨ i = 4 ∨ i = 5 ∨ i = 6 ∨ i = 7 ∨ i = 8 ∨ i = 9 ∨ i = 10 ∨ i = 11 ∨ i = 12 ∨ i = 13 ∨ i = 14 ∨ i = 15 ∨ i = 16 ∨ i = 17 ∨ i = 18 ∨ i = 19 ∨ i = 20 ∨ i = 21 ∨ i = 22 ∨ i = 23 := by omega
        · -- 0
          refine wpOp_step (by rfl) fun K hK => ?_
          rw [if_pos (wanted_none rfl _)]
          replace hK := Lib.hid hK
          go_simp
          refine (crc_alive _).mono ?_
          rintro e w3 ⟨rfl, k3⟩
          exact hK.out _ _ (PUT rfl k3 _ rfl)
        · -- 1
          refine wpOp_step (by rfl) fun K hK => ?_
          obtain ⟨u0, s0, f0⟩ := hI.read (ready_dep hr (by rfl) 0 (by kernel_rfl))
          obtain rfl := f0
          change _[50]? = _ at s0
          exact pure_step (w' := w') (wanted_none rfl _) (by simp [execOp, eval_of s0]) (hK _ _ (PUT rfl (Kept.refl _ _) _ rfl))
        · -- 2
          refine wpOp_step (by rfl) fun K hK => ?_
          obtain ⟨u1, s1, f1⟩ := hI.read (ready_dep hr (by rfl) 1 (by kernel_rfl))
          obtain rfl := f1
          change _[51]? = _ at s1
          exact pure_step (w' := w') (wanted_some (t := 51) rfl rfl s1) (by simp [execOp, eval_of b7]) (hK _ _ (PUT rfl (Kept.refl _ _) _ rfl))
        · -- 3
          refine wpOp_step (by rfl) fun K hK => ?_
          obtain ⟨u1, s1, f1⟩ := hI.read (ready_dep hr (by rfl) 1 (by kernel_rfl))
          obtain rfl := f1
          change _[51]? = _ at s1
          obtain ⟨u2, s2, f2⟩ := hI.read (ready_dep hr (by rfl) 2 (by kernel_rfl))
          obtain rfl := f2
          change _[52]? = _ at s2
          exact pure_step (w' := w') (wanted_some (t := 51) rfl rfl s1) (by simp [execOp, eval_of s2, hcv w' (Lib.hid hI.kept)]) (hK _ _ (PUT rfl (Kept.refl _ _) _ rfl))
        · -- 4
          refine wpOp_step (by rfl) fun K hK => ?_
          obtain ⟨u1, s1, f1⟩ := hI.read (ready_dep hr (by rfl) 1 (by kernel_rfl))
          obtain rfl := f1
          change _[51]? = _ at s1
          obtain ⟨u3, s3, f3⟩ := hI.read (ready_dep hr (by rfl) 3 (by kernel_rfl))
          obtain rfl := f3
          change _[53]? = _ at s3
          refine pure_step (w' := w'.alloc (.cells #[.string ⟨X.toArray⟩] 9)) (wanted_some (t := 51) rfl rfl s1) (by simp [execOp, eval_of s3]; go_simp) (hK _ _ (PUT ⟨w'.heap.size, rfl, Has.new rfl⟩ ((Kept.refl _ _).alloc _) _ rfl))
        · -- 5
          refine wpOp_step (by rfl) fun K hK => ?_
          obtain ⟨u1, s1, f1⟩ := hI.read (ready_dep hr (by rfl) 1 (by kernel_rfl))
          obtain rfl := f1
          change _[51]? = _ at s1
          obtain ⟨u4, s4, f4⟩ := hI.read (ready_dep hr (by rfl) 4 (by kernel_rfl))
          obtain ⟨A4, rfl, g4⟩ := f4
          change _[54]? = _ at s4
          rw [if_pos (wanted_some (t := 51) rfl rfl s1)]
          replace hK := Lib.hid hK
          have ev := eval_of s4
          have ev2 := ev
          simp only [Act.eval] at ev2
          go_simp
          refine (crc_Sum1 _ _ _ _ g4 hX lX).mono ?_
          rintro e w3 ⟨rfl, k3⟩
          exact hK.out _ _ (PUT rfl k3 _ rfl)
        · -- 6
          refine wpOp_step (by rfl) fun K hK => ?_
          obtain ⟨u1, s1, f1⟩ := hI.read (ready_dep hr (by rfl) 1 (by kernel_rfl))
          obtain rfl := f1
          change _[51]? = _ at s1
          exact pure_step (w' := w') (wanted_some (t := 51) rfl rfl s1) (by simp [execOp, eval_of b0]) (hK _ _ (PUT rfl (Kept.refl _ _) _ rfl))
        · -- 7
          refine wpOp_step (by rfl) fun K hK => ?_
          obtain ⟨u1, s1, f1⟩ := hI.read (ready_dep hr (by rfl) 1 (by kernel_rfl))
          obtain rfl := f1
          change _[51]? = _ at s1
          obtain ⟨u6, s6, f6⟩ := hI.read (ready_dep hr (by rfl) 6 (by kernel_rfl))
          obtain rfl := f6
          change _[56]? = _ at s6
          refine pure_step (w' := w'.alloc (.cells #[.string ⟨a.toArray⟩] 9)) (wanted_some (t := 51) rfl rfl s1) (by simp [execOp, eval_of s6]; go_simp) (hK _ _ (PUT ⟨w'.heap.size, rfl, Has.new rfl⟩ ((Kept.refl _ _).alloc _) _ rfl))
        · -- 8
          refine wpOp_step (by rfl) fun K hK => ?_
          obtain ⟨u1, s1, f1⟩ := hI.read (ready_dep hr (by rfl) 1 (by kernel_rfl))
          obtain rfl := f1
          change _[51]? = _ at s1
          obtain ⟨u7, s7, f7⟩ := hI.read (ready_dep hr (by rfl) 7 (by kernel_rfl))
          obtain ⟨A7, rfl, g7⟩ := f7
          change _[57]? = _ at s7
          rw [if_pos (wanted_some (t := 51) rfl rfl s1)]
          replace hK := Lib.hid hK
          have ev := eval_of s7
          have ev2 := ev
          simp only [Act.eval] at ev2
          go_simp
          refine (crc_Sum1 _ _ _ _ g7 hA lA).mono ?_
          rintro e w3 ⟨rfl, k3⟩
          exact hK.out _ _ (PUT rfl k3 _ rfl)
        · -- 9
          refine wpOp_step (by rfl) fun K hK => ?_
          obtain ⟨u1, s1, f1⟩ := hI.read (ready_dep hr (by rfl) 1 (by kernel_rfl))
          obtain rfl := f1
          change _[51]? = _ at s1
          exact pure_step (w' := w') (wanted_some (t := 51) rfl rfl s1) (by simp [execOp, eval_of b1]) (hK _ _ (PUT rfl (Kept.refl _ _) _ rfl))
        · -- 10
          refine wpOp_step (by rfl) fun K hK => ?_
          obtain ⟨u1, s1, f1⟩ := hI.read (ready_dep hr (by rfl) 1 (by kernel_rfl))
          obtain rfl := f1
          change _[51]? = _ at s1
          exact pure_step (w' := w') (wanted_some (t := 51) rfl rfl s1) (by simp [execOp, eval_of b9]) (hK _ _ (PUT rfl (Kept.refl _ _) _ rfl))
        · -- 11
          refine wpOp_step (by rfl) fun K hK => ?_
          obtain ⟨u1, s1, f1⟩ := hI.read (ready_dep hr (by rfl) 1 (by kernel_rfl))
          obtain rfl := f1
          change _[51]? = _ at s1
          obtain ⟨u9, s9, f9⟩ := hI.read (ready_dep hr (by rfl) 9 (by kernel_rfl))
          obtain rfl := f9
          change _[59]? = _ at s9
          obtain ⟨u10, s10, f10⟩ := hI.read (ready_dep hr (by rfl) 10 (by kernel_rfl))
          obtain rfl := f10
          change _[60]? = _ at s10
          refine pure_step (w' := w') (wanted_some (t := 51) rfl rfl s1) (by simp [execOp, eval_of s9, eval_of s10]; go_simp) (hK _ _ (PUT rfl (Kept.refl _ _) _ rfl))
        · -- 12
          refine wpOp_step (by rfl) fun K hK => ?_
          obtain ⟨u1, s1, f1⟩ := hI.read (ready_dep hr (by rfl) 1 (by kernel_rfl))
          obtain rfl := f1
          change _[51]? = _ at s1
          obtain ⟨u11, s11, f11⟩ := hI.read (ready_dep hr (by rfl) 11 (by kernel_rfl))
          obtain rfl := f11
          change _[61]? = _ at s11
          refine pure_step (w' := w'.alloc (.cells #[.string ⟨B.toArray⟩] 9)) (wanted_some (t := 51) rfl rfl s1) (by simp [execOp, eval_of s11]; go_simp) (hK _ _ (PUT ⟨w'.heap.size, rfl, Has.new rfl⟩ ((Kept.refl _ _).alloc _) _ rfl))
        · -- 13
          refine wpOp_step (by rfl) fun K hK => ?_
          obtain ⟨u1, s1, f1⟩ := hI.read (ready_dep hr (by rfl) 1 (by kernel_rfl))
          obtain rfl := f1
          change _[51]? = _ at s1
          obtain ⟨u12, s12, f12⟩ := hI.read (ready_dep hr (by rfl) 12 (by kernel_rfl))
          obtain ⟨A12, rfl, g12⟩ := f12
          change _[62]? = _ at s12
          rw [if_pos (wanted_some (t := 51) rfl rfl s1)]
          replace hK := Lib.hid hK
          have ev := eval_of s12
          have ev2 := ev
          simp only [Act.eval] at ev2
          go_simp
          refine (crc_Sum1 _ _ _ _ g12 hB lB).mono ?_
          rintro e w3 ⟨rfl, k3⟩
          exact hK.out _ _ (PUT rfl k3 _ rfl)
        · -- 14
          refine wpOp_step (by rfl) fun K hK => ?_
          obtain ⟨u1, s1, f1⟩ := hI.read (ready_dep hr (by rfl) 1 (by kernel_rfl))
          obtain rfl := f1
          change _[51]? = _ at s1
          obtain ⟨u8, s8, f8⟩ := hI.read (ready_dep hr (by rfl) 8 (by kernel_rfl))
          obtain rfl := f8
          change _[58]? = _ at s8
          obtain ⟨u13, s13, f13⟩ := hI.read (ready_dep hr (by rfl) 13 (by kernel_rfl))
          obtain rfl := f13
          change _[63]? = _ at s13
          refine pure_step (w' := w') (wanted_some (t := 51) rfl rfl s1) (by simp [execOp, eval_of s8, eval_of s13]; go_simp) (hK _ _ (PUT rfl (Kept.refl _ _) _ rfl))
        · -- 15
          refine wpOp_step (by rfl) fun K hK => ?_
          obtain ⟨u1, s1, f1⟩ := hI.read (ready_dep hr (by rfl) 1 (by kernel_rfl))
          obtain rfl := f1
          change _[51]? = _ at s1
          exact pure_step (w' := w') (wanted_some (t := 51) rfl rfl s1) (by simp [execOp, eval_of b2]) (hK _ _ (PUT rfl (Kept.refl _ _) _ rfl))
        · -- 16
          refine wpOp_step (by rfl) fun K hK => ?_
          obtain ⟨u1, s1, f1⟩ := hI.read (ready_dep hr (by rfl) 1 (by kernel_rfl))
          obtain rfl := f1
          change _[51]? = _ at s1
          exact pure_step (w' := w') (wanted_some (t := 51) rfl rfl s1) (by simp [execOp, eval_of b9]) (hK _ _ (PUT rfl (Kept.refl _ _) _ rfl))
        · -- 17
          refine wpOp_step (by rfl) fun K hK => ?_
          obtain ⟨u1, s1, f1⟩ := hI.read (ready_dep hr (by rfl) 1 (by kernel_rfl))
          obtain rfl := f1
          change _[51]? = _ at s1
          obtain ⟨u15, s15, f15⟩ := hI.read (ready_dep hr (by rfl) 15 (by kernel_rfl))
          obtain rfl := f15
          change _[65]? = _ at s15
          obtain ⟨u16, s16, f16⟩ := hI.read (ready_dep hr (by rfl) 16 (by kernel_rfl))
          obtain rfl := f16
          change _[66]? = _ at s16
          refine pure_step (w' := w') (wanted_some (t := 51) rfl rfl s1) (by simp [execOp, eval_of s15, eval_of s16]; go_simp) (hK _ _ (PUT rfl (Kept.refl _ _) _ rfl))
        · -- 18
          refine wpOp_step (by rfl) fun K hK => ?_
          obtain ⟨u1, s1, f1⟩ := hI.read (ready_dep hr (by rfl) 1 (by kernel_rfl))
          obtain rfl := f1
          change _[51]? = _ at s1
          obtain ⟨u17, s17, f17⟩ := hI.read (ready_dep hr (by rfl) 17 (by kernel_rfl))
          obtain rfl := f17
          change _[67]? = _ at s17
          refine pure_step (w' := w'.alloc (.cells #[.string ⟨C.toArray⟩] 9)) (wanted_some (t := 51) rfl rfl s1) (by simp [execOp, eval_of s17]; go_simp) (hK _ _ (PUT ⟨w'.heap.size, rfl, Has.new rfl⟩ ((Kept.refl _ _).alloc _) _ rfl))
        · -- 19
          refine wpOp_step (by rfl) fun K hK => ?_
          obtain ⟨u1, s1, f1⟩ := hI.read (ready_dep hr (by rfl) 1 (by kernel_rfl))
          obtain rfl := f1
          change _[51]? = _ at s1
          obtain ⟨u18, s18, f18⟩ := hI.read (ready_dep hr (by rfl) 18 (by kernel_rfl))
          obtain ⟨A18, rfl, g18⟩ := f18
          change _[68]? = _ at s18
          rw [if_pos (wanted_some (t := 51) rfl rfl s1)]
          replace hK := Lib.hid hK
          have ev := eval_of s18
          have ev2 := ev
          simp only [Act.eval] at ev2
          go_simp
          refine (crc_Sum1 _ _ _ _ g18 hC lC).mono ?_
          rintro e w3 ⟨rfl, k3⟩
          exact hK.out _ _ (PUT rfl k3 _ rfl)
        · -- 20
          refine wpOp_step (by rfl) fun K hK => ?_
          obtain ⟨u1, s1, f1⟩ := hI.read (ready_dep hr (by rfl) 1 (by kernel_rfl))
          obtain rfl := f1
          change _[51]? = _ at s1
          obtain ⟨u14, s14, f14⟩ := hI.read (ready_dep hr (by rfl) 14 (by kernel_rfl))
          obtain rfl := f14
          change _[64]? = _ at s14
          obtain ⟨u19, s19, f19⟩ := hI.read (ready_dep hr (by rfl) 19 (by kernel_rfl))
          obtain rfl := f19
          change _[69]? = _ at s19
          refine pure_step (w' := w') (wanted_some (t := 51) rfl rfl s1) (by simp [execOp, eval_of s14, eval_of s19]; go_simp) (hK _ _ (PUT rfl (Kept.refl _ _) _ rfl))
        · -- 21
          refine wpOp_step (by rfl) fun K hK => ?_
          obtain ⟨u1, s1, f1⟩ := hI.read (ready_dep hr (by rfl) 1 (by kernel_rfl))
          obtain rfl := f1
          change _[51]? = _ at s1
          obtain ⟨u5, s5, f5⟩ := hI.read (ready_dep hr (by rfl) 5 (by kernel_rfl))
          obtain rfl := f5
          change _[55]? = _ at s5
          obtain ⟨u20, s20, f20⟩ := hI.read (ready_dep hr (by rfl) 20 (by kernel_rfl))
          obtain rfl := f20
          change _[70]? = _ at s20
          refine pure_step (w' := w') (wanted_some (t := 51) rfl rfl s1) (by simp [execOp, eval_of s5, eval_of s20]; go_simp) (hK _ _ (PUT rfl (Kept.refl _ _) _ rfl))
        · -- 22
          refine wpOp_step (by rfl) fun K hK => ?_
          obtain ⟨u1, s1, f1⟩ := hI.read (ready_dep hr (by rfl) 1 (by kernel_rfl))
          obtain rfl := f1
          change _[51]? = _ at s1
          obtain ⟨u21, s21, f21⟩ := hI.read (ready_dep hr (by rfl) 21 (by kernel_rfl))
          obtain rfl := f21
          change _[71]? = _ at s21
          refine pure_step (w' := w') (wanted_none rfl _) (by simp [execOp, eval_of s1, eval_of s21]; go_simp) (hK _ _ (PUT rfl (Kept.refl _ _) _ rfl))
        · -- 23
          refine wpOp_step (by rfl) fun K hK => ?_
          obtain ⟨u22, s22, f22⟩ := hI.read (ready_dep hr (by rfl) 22 (by kernel_rfl))
          obtain rfl := f22
          change _[72]? = _ at s22
          exact pure_step (w' := w') (wanted_none rfl _) (by simp [execOp, eval_of s22]) (hK _ _ (PUT rfl (Kept.refl _ _) _ rfl))

theorem even_run (w : World) (a b c : List UInt8) (hb : b.length ≤ 140737488351232) (hc : c.length ≤ 140737488351232) :
    Calls Try.prog 4 #[.string ⟨a.toArray⟩, .string ⟨b.toArray⟩, .string ⟨c.toArray⟩] w fun e w' => e = .returned (.bool true) ∧ Kept [] w w' := by
  by_cases h : 200 < a.length ∨ b.length < a.length ∨ c.length < a.length
  · exact even_no w a b c h
  · exact even_yes w a b c (by omega) (by omega) (by omega) hb hc
end Go.Proofs.Ythdigddbhlakmaa
