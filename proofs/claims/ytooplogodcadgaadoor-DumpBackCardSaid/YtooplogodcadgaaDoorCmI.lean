/- Commands: what the library tells: figures, words. -/
import Derived.Test.YtooplogodcadgaaDoorCmD
import Derived.Test.YtooplogodcadgaaDoorShelf
import Derived.WalkSmall
namespace Go.Proofs.YtooplogodcadgaaDoor
open Go.RowKit Go.Lib

/-- what the program's own start lays -/
structure Laid (w : World) : Prop where
  tab : Lib.TabIs Tryd.prog w "internal/strconv.uint64pow10" .u64 Lib.pow10Tab
  es : ∃ tp p, w.var? Tryd.prog "strconv.ErrSyntax" = some #[.iface tp p]
  er : ∃ tp p, w.var? Tryd.prog "strconv.ErrRange" = some #[.iface tp p]
  ml : ∃ (b : Nat) (m : Int), b = 0 ∧ w.cell? ⟨b, 0, none⟩ = some (.int .i64 m)
theorem var_kept {P : Program} {n : String} {cs : Array Value} {w w' : World} (h : w.var? P n = some cs) (k : Kept [] w w') : w'.var? P n = some cs := by
  have h0 := h
  unfold World.var? at h
  cases hg : P.globalNamed n with
  | none =>
    rw [hg] at h
    cases h
  | some g =>
    rw [hg] at h
    simp only [Option.bind_some] at h
    refine var?_below k.toBelow hg ?_ h0
    rcases Nat.lt_or_ge g w.heap.size with h1 | h1
    · exact h1
    · rw [Array.getElem?_eq_none h1] at h
      cases h
theorem Laid.kept {w w' : World} (h : Laid w) (k : Kept [] w w') : Laid w' := by
  obtain ⟨h1, ⟨t2, p2, h2⟩, ⟨t3, p3, h3⟩, b, m, rfl, h4⟩ := h
  exact ⟨var_kept h1 k, ⟨t2, p2, var_kept h2 k⟩, ⟨t3, p3, var_kept h3 k⟩, 0, m, rfl, k.cell h4 (fun h => by cases h)⟩
theorem grow_kept (w : World) (n : Nat) (os : Array Obj) : Kept [] w (Sort.grow (w.drewN n) os) := by
  refine ⟨rfl, rfl, rfl, ?_, fun k hk _ => ?_⟩
  · show w.heap.size ≤ (w.heap ++ os).size
    rw [Array.size_append]
    omega
  · show (w.heap ++ os)[k]? = w.heap[k]?
    rw [Array.getElem?_append_left hk]
theorem lib_Itoa (n : Int) (h0 : -9223372036854775808 ≤ n) (h1 : n ≤ 9223372036854775807) (w : World) (hL : Laid w) : Calls Tryd.prog 30 #[.int .i64 n] w fun e w' => e = .returned (.string ⟨(itoa n).toArray⟩) ∧ Kept [] w w' := by
  refine (Tryd.strconv_Itoa n h0 h1 w hL.tab).mono ?_
  rintro e w' ⟨rfl, k, os, rfl⟩
  exact ⟨rfl, grow_kept w k os⟩
/-- how Go's own reading ends -/
def AtoiEnd (s : Bs) (n : Int) (ev : Value) : Prop := (atoiAll s = .ok n ∧ ev = .nilIface) ∨ ((∀ m, atoiAll s ≠ .ok m) ∧ ∃ t p, ev = .iface t p)
theorem lib_Atoi (s : Bs) (hs : s.length ≤ 1000000) (w : World) (hL : Laid w) : Calls Tryd.prog 50 #[.string ⟨s.toArray⟩] w fun e w' => ∃ n ev, e = .returned (.tuple #[.int .i64 n, ev]) ∧ AtoiEnd s n ev ∧ Kept [] w w' := by
  have hsz : (⟨s.toArray⟩ : ByteArray).size = s.length := by simp [ByteArray.size]
  obtain ⟨_, ⟨t2, p2, h2⟩, ⟨t3, p3, h3⟩, _⟩ := hL
  cases h : atoiAll s with
  | ok v =>
    refine (Tryd.strconv_Atoi_ok ⟨s.toArray⟩ (by omega) v h w).mono ?_
    rintro e w' ⟨rfl, hw⟩
    refine ⟨v, .nilIface, rfl, .inl ⟨h, rfl⟩, ?_⟩
    rcases hw with rfl | ⟨t, rfl⟩
    · exact Kept.refl _ _
    · exact Kept.ofBelow (Lib.bytesWorld_below _ _ _)
  | «syntax» =>
    refine (Tryd.strconv_Atoi_syntax_var ⟨s.toArray⟩ (by omega) h t2 p2 w h2).mono ?_
    rintro e w' ⟨N, rfl, _, _, hb⟩
    exact ⟨0, _, rfl, .inr ⟨(fun m hm => by rw [h] at hm; cases hm), _, _, rfl⟩, Kept.ofBelow hb⟩
  | range =>
    refine (Tryd.strconv_Atoi_range_var ⟨s.toArray⟩ (by omega) h t3 p3 w h3).mono ?_
    rintro e w' ⟨N, rfl, _, _, hb⟩
    exact ⟨_, _, rfl, .inr ⟨(fun m hm => by rw [h] at hm; cases hm), _, _, rfl⟩, Kept.ofBelow hb⟩
theorem lib_Split (s : Bs) (hs : s.length ≤ 1000000) (w : World) (hL : Laid w) : Calls Tryd.prog 32 #[.string ⟨s.toArray⟩, .string ⟨#[32]⟩] w fun e w' => ∃ (A : Option Addr) (c : Nat), e = .returned (.slice A (spl s).length c) ∧ SAt w.heap.size w' A c (spl s) ∧ Kept [] w w' := by
  have hsz : (⟨s.toArray⟩ : ByteArray).size = s.length := by simp [ByteArray.size]
  obtain ⟨_, _, _, b, m, rfl, hm⟩ := hL
  have hc : countB ⟨s.toArray⟩ ⟨#[32]⟩ = s.count 32 := count_one 32 s
  have hd := splitB_data ⟨#[32]⟩ 0 (s.count 32) ⟨s.toArray⟩
  have hsp : (splitB ⟨#[32]⟩ 0 (s.count 32) ⟨s.toArray⟩).map Value.string = (spl s).map sV := by
    have e1 : (spl s).map sV = ((splitB ⟨#[32]⟩ 0 (s.count 32) ⟨s.toArray⟩).map (·.data.toList)).map sV := by
      rw [hd]
      exact congrArg (List.map sV) (split_spl _ s rfl).symm
    rw [e1, List.map_map]
    rfl
  refine (Tryd.strings_Split ⟨s.toArray⟩ ⟨#[32]⟩ m w (by omega) hm (by decide)).mono ?_
  rintro e w' ⟨rfl, rfl⟩
  rw [hc, hsp]
  refine ⟨some ⟨w.heap.size, 0, none⟩, s.count 32 + 1, by rw [spl_len], ?_, (Kept.refl _ _).alloc _⟩
  have hcl : s.count 32 ≤ s.length := List.count_le_length
  refine ⟨by simp, .inr ⟨w.heap.size, s.count 32 + 1, ((spl s).map sV).toArray, rfl, Nat.le_refl _, heap_alloc_new w _, by rw [spl_len]; exact Nat.le_refl _, ?_, ?_, ?_⟩⟩
  · simp only [maxLen]
    omega
  · simp [spl_len]
  · rw [Nat.mul_one, spl_len, ← spl_len s]
    simp
    exact List.take_of_length_le (by simp)
end Go.Proofs.YtooplogodcadgaaDoor
