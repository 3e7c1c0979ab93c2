/- Tables: New, pages, Page. -/
import Derived.Test.YtfidgmpeiabhiaaTbF
namespace Go.Proofs.Ytfidgmpeiabhiaa
open Go.RowKit Go.Maps

/-- how many places a new one has -/
def newN (n : Int) : Nat := if n > 1048576 then 0 else n.toNat
def freshP (n : Nat) : List Int := List.replicate n (-1)
theorem fresh_find (n : Nat) (o : Int) (h : 0 ≤ o) : findP o (freshP n) = none := findP_no fun x hx => by rw [List.eq_of_mem_replicate hx]; omega
theorem fresh_len (n : Nat) : lenP (freshP n) = 0 := by
  rw [lenP, List.countP_eq_zero]
  intro x hx
  rw [List.eq_of_mem_replicate hx]
  decide
theorem fresh_ok (n : Nat) : Tok (freshP n) := by
  refine ⟨fun x hx => by rw [List.eq_of_mem_replicate hx]; omega, fun i j hi hj e h => ?_⟩
  simp [freshP] at h
theorem MapAt.made (w : World) (n : Nat) : MapAt (w.alloc (.map #[] 0)) w.heap.size (freshP n) :=
  ⟨0, .map [], World.ownsMap_made w _ _ _, (fresh_len n).symm, (by rw [fresh_len]; rfl), fun o _ => by
    by_cases h : 0 ≤ o
    · rw [fresh_find n o h]; simp [Maps.has]
    · simp [Maps.has, h], fun o i z h hf => by rw [fresh_find n o h] at hf; cases hf⟩
theorem blk_new' {w : World} {t : TypeId} {cs : Array Value} {g : Nat} (h : g = w.heap.size) : Blk (w.alloc (.cells cs t)) g t cs := by
  subst h
  exact Blk.new w t cs
theorem own_down {w : World} {base base' e size n : Nat} {v : Value} {xs : List Value} (h : w.ownsRow base e size v n xs) (hb : base' ≤ base) : w.ownsRow base' e size v n xs := by
  refine ⟨h.1, ?_⟩
  rcases h.2 with h2 | ⟨g, cap, cur, e, h2, h3⟩
  · exact .inl h2
  · exact .inr ⟨g, cap, cur, e, Nat.le_trans hb h2, h3⟩
def NewPost (n : Nat) (W : World) (e : Ending) (w' : World) : Prop := ∃ t, e = .returned (tbV t) ∧ TbAt W.heap.size w' t (freshP n) ∧ Kept [] W w'
theorem new_fin {W w1 : World} {n : Nat} {v : Value} (hn : n ≤ 1048576) (ho : w1.ownsRow (W.heap.size) 3 1 v n ((List.replicate n (-1)).map iv)) (k : Kept [] W w1) :
    TbAt W.heap.size ((w1.alloc (.map #[] 0)).alloc (.cells #[v, .map (some w1.heap.size)] 59)) ⟨w1.heap.size + 1, v, w1.heap.size⟩ (freshP n) ∧ Kept [] W ((w1.alloc (.map #[] 0)).alloc (.cells #[v, .map (some w1.heap.size)] 59)) := by
  have hz := k.size
  have hl : (freshP n).length = n := by simp [freshP]
  refine ⟨⟨blk_new' (by simp), ?_, (MapAt.made w1 n).kept ((Kept.refl [] _).alloc _) (fun h => by cases h), ⟨by show W.heap.size ≤ w1.heap.size + 1; omega, by show W.heap.size ≤ w1.heap.size; omega⟩, fresh_ok n, by rw [hl]; exact hn⟩, (k.alloc _).alloc _⟩
  rw [hl]
  exact (ho.alloc _).alloc _
theorem tb_New (W : World) (n : Int) (hn : -9223372036854775808 ≤ n ∧ n ≤ 9223372036854775807) : Calls Try.prog 7 #[.int .i64 n] W (NewPost (newN n) W) := by
  have hmm := @run_makeMap Try.prog
  by_cases h1 : n > 1048576
  · have he : Hid (newN n = 0) := if_pos h1
    rw [he.out]
    go_enter Try.func7, Try.ntmps7
    go_wp2_with (go_at_call 23; refine (slices_Repeat _ W.heap.size 0 (-1) (Blk.cell (Blk.new W _ _) 0) (by omega)).mono ?_; rintro e w1 ⟨v, rfl, ho, k⟩; obtain ⟨A5, c5, rfl, _⟩ := own_slice ho; have HO := Lib.hid ho; have K := Lib.hid (((Kept.refl [] W).alloc (.cells #[.int .i64 (-1)] 3)).trans k); clear ho k)
    go_ret
    obtain ⟨f1, f2⟩ := new_fin (n := 0) (by omega) (own_down HO.out (by simp)) K.out
    exact ⟨_, rfl, f1, f2⟩
  · have he : Hid (newN n = n.toNat) := if_neg h1
    by_cases h0 : 0 ≤ n
    · obtain ⟨m, rfl⟩ : ∃ m : Nat, n = (m : Int) := ⟨n.toNat, by omega⟩
      rw [he.out, Int.toNat_natCast]
      have hmx : max (m : Int) 0 = (m : Int) := by omega
      go_enter Try.func7, Try.ntmps7
      go_wp2_with (go_at_call 23; refine (slices_Repeat _ W.heap.size m (-1) (Blk.cell (Blk.new W _ _) 0) (by omega)).mono ?_; rintro e w1 ⟨v, rfl, ho, k⟩; obtain ⟨A5, c5, rfl, _⟩ := own_slice ho; have HO := Lib.hid ho; have K := Lib.hid (((Kept.refl [] W).alloc (.cells #[.int .i64 (-1)] 3)).trans k); clear ho k)
      go_ret
      obtain ⟨f1, f2⟩ := new_fin (n := m) (by omega) (own_down HO.out (by simp)) K.out
      exact ⟨_, rfl, f1, f2⟩
    · have hz : Hid (n.toNat = 0) := by rw [Hid]; omega
      rw [he.out, hz.out]
      have hmx : max n 0 = 0 := by omega
      go_enter Try.func7, Try.ntmps7
      go_wp2_with (go_at_call 23; refine (slices_Repeat _ W.heap.size 0 (-1) (Blk.cell (Blk.new W _ _) 0) (by omega)).mono ?_; rintro e w1 ⟨v, rfl, ho, k⟩; obtain ⟨A5, c5, rfl, _⟩ := own_slice ho; have HO := Lib.hid ho; have K := Lib.hid (((Kept.refl [] W).alloc (.cells #[.int .i64 (-1)] 3)).trans k); clear ho k)
      go_ret
      obtain ⟨f1, f2⟩ := new_fin (n := 0) (by omega) (own_down HO.out (by simp)) K.out
      exact ⟨_, rfl, f1, f2⟩
theorem tb_pages (n : Nat) (W : World) (hn : n ≤ 1048576) : Calls Try.prog 30 #[.int .i64 n] W fun e w' => e = .returned (.int .i64 (((n + 12) / 13 : Nat) : Int)) ∧ W = w' := by
  have e1 : (((n + 12) / 13 : Nat) : Int) = ((n : Int) + 13 - 1) / 13 := by omega
  rw [e1]
  go_enter Try.func30, Try.ntmps30
  go_wp2_with fail
  go_ret
  exact ⟨rfl, rfl⟩
end Go.Proofs.Ytfidgmpeiabhiaa
