/- Extents: what the laws need: appends; plain law of the whole, and of any order. -/
import Derived.Test.YtkbldbcjpdfopaaExS
namespace Go.Proofs.Ytkbldbcjpdfopaa
open Go.RowKit

/-- more extents behind a row of one's own -/
theorem app_X {W w : World} {A' : Option Addr} {c' : Nat} {l : List Ex} (HO : EAt W.heap.size w A' c' l) (HK : Kept [] W w) {A : Option Addr} {c n₀ : Nat} {g : List Ex} (hA : RdX n₀ w A g) (hA0 : A = none → c = 0) (hn : l.length + g.length ≤ 4000000) (ty : TypeId) :
    ∃ v' w', (Builtin.append_ #[24, 24] ty #[.slice A' l.length c', .slice A g.length c]).run Try.prog w = .ok v' w' ∧ ∃ (A2 : Option Addr) (c2 : Nat), v' = .slice A2 (l ++ g).length c2 ∧ EAt W.heap.size w' A2 c2 (l ++ g) ∧ Kept [] W w' := by
  obtain ⟨i0, p0, p1, p2, p3⟩ := info_parts infoX
  have hlo : ∀ j, (Value.slice A' l.length c').ownBlock = some j → W.heap.size ≤ j := fun j hj => (World.ownsRow.lt HO j hj).1
  obtain ⟨v', w', hr, h2, h3, h4⟩ := run_app (P := Try.prog) w 24 ty 23 i0 _ 2 16 Try.underlying24 p0 p1 p2 p3 rfl (by decide) _ _ _ (own_down HO (Nat.zero_le _)) A g.length c (g.flatMap exE) (by rw [flatMap_len 2 exE exE_len]) hA0 (fun h => by
    obtain ⟨b, o, e, _, hc⟩ := hA.2 h
    exact ⟨b, o, e, hc⟩) (exE_one g) (by simp only [maxLen]; omega) (by omega)
  have h5 : w'.ownsRow W.heap.size 23 2 v' (l.length + g.length) ((l ++ g).flatMap exE) := by
    rw [List.flatMap_append]
    refine own_up h2 (fun j hj => ?_)
    rcases h4 with h | h
    · exact hlo j (h ▸ hj)
    · rw [h] at hj
      injection hj with hj
      subst hj
      exact HK.size
  rw [← List.length_append] at h5
  obtain ⟨A2, c2, rfl, _⟩ := own_slice h5
  exact ⟨_, w', hr, A2, c2, rfl, h5, HK.grown h3 (fun j e => .inr (hlo j e))⟩
theorem emptyX (w : World) : EAt w.heap.size (w.alloc (.cells #[] 23)) (some ⟨w.heap.size, 0, none⟩) 0 [] := ⟨by simp, .inr ⟨w.heap.size, 0, #[], rfl, Nat.le_refl _, heap_alloc_new w _, Nat.le_refl _, Nat.zero_le _, by simp, by simp⟩⟩
theorem oneX (w : World) (x : Ex) : RdX (w.heap.size + 1) (w.alloc (.cells #[.int .i64 x.st, .int .i64 x.len] 23)) (some ⟨w.heap.size, 0, none⟩) [x] := by
  have h := rdX_blk (l := [x]) (Blk.new w 23 #[.int .i64 x.st, .int .i64 x.len])
  have e : (w.alloc (.cells #[.int .i64 x.st, .int .i64 x.len] 23)).heap.size = w.heap.size + 1 := by simp
  rwa [e] at h
theorem EAt.rd {n₀ c : Nat} {w : World} {A : Option Addr} {l : List Ex} (h : EAt n₀ w A c l) : RdX w.heap.size w A l := Rd.of_own h
theorem EAt.none {n₀ c : Nat} {w : World} {A : Option Addr} {l : List Ex} (h : EAt n₀ w A c l) (e : A = none) : c = 0 := by
  rcases h.2 with ⟨h2, _⟩ | ⟨g', cap, cur, e', hb, hh, _⟩
  · injection h2
  · rw [e] at e'
    injection e' with e1
    cases e1
/-- in any order -/
theorem rightB_perm {r : Ex} {l l' : List Ex} (hp : l'.Perm l) : rightB r l' = rightB r l := by
  rw [Bool.eq_iff_iff, rightB_iff, rightB_iff]
  exact rightX.perm hp
theorem gapsX_perm {r : Ex} {l l' : List Ex} (hp : l'.Perm l) (h : rightX r l) : gapsX r l' = gapsX r l := by
  unfold gapsX
  rw [srt_is ((srt_perm l').trans hp) (srt_sorted l') h]
theorem gL_perm {r : Ex} {l l' : List Ex} (hp : l'.Perm l) : gL r l' = gL r l := by
  unfold gL
  rw [rightB_perm hp]
  by_cases h : rightX r l
  · rw [gapsX_perm hp h]
  · rw [rightB_no h]
    rfl
theorem gE_perm {r : Ex} {l l' : List Ex} (hp : l'.Perm l) : gE r l' = gE r l := by
  unfold gE
  rw [rightB_perm hp]
theorem fitX_perm {r : Ex} {n : Int} {l l' : List Ex} (hp : l'.Perm l) : fitX r n l' = fitX r n l := by
  unfold fitX
  rw [rightB_perm hp]
  by_cases h : rightX r l
  · rw [gapsX_perm hp h]
  · rw [rightB_no h, if_pos (.inr rfl), if_pos (.inr rfl)]
/-- one of them twice -/
theorem right_twice {r x : Ex} {l : List Ex} (hx : x ∈ l) : rightB r (l ++ [x]) = false := rightB_no fun h => by
  have h1 := h.2.1 x (List.mem_append_left _ hx)
  have h2 := (List.pairwise_append.1 h.2.2).2.2 x hx x (List.mem_singleton.2 rfl)
  unfold withinP at h1
  rcases h2 with h2 | h2 <;> omega
/-- the whole -/
def roomP (n : Int) (x : Ex) : Bool := decide (1 ≤ n) && decide (n ≤ x.len)
theorem fit_room {r : Ex} {n : Int} {l : List Ex} (h : rightX r l) : decide ((fitX r n l).2 = 0) = (gapsX r l).any (roomP n) := by
  rw [Bool.eq_iff_iff, decide_eq_true_iff, List.any_eq_true]
  unfold fitX
  by_cases hn : n < 1
  · rw [if_pos (.inl hn)]
    constructor
    · intro h
      cases h
    · rintro ⟨x, _, hx⟩
      simp only [roomP, Bool.and_eq_true, decide_eq_true_eq] at hx
      omega
  · rw [if_neg (by rintro (h2 | h2); exact hn h2; rw [rightB_iff.2 h] at h2; cases h2)]
    cases hf : (gapsX r l).find? (fun x => decide (n ≤ x.len)) with
    | none =>
      rw [List.find?_eq_none] at hf
      constructor
      · intro h
        cases h
      · rintro ⟨x, hx, hy⟩
        simp only [roomP, Bool.and_eq_true, decide_eq_true_eq] at hy
        exact absurd (by simpa using hy.2) (hf x hx)
    | some x =>
      refine ⟨fun _ => ⟨x, List.mem_of_find?_eq_some hf, ?_⟩, fun _ => rfl⟩
      have := List.find?_some hf
      simp only [decide_eq_true_eq] at this
      simp only [roomP, Bool.and_eq_true, decide_eq_true_eq]
      omega
theorem fit_use {r : Ex} {n : Int} {l : List Ex} (h : rightX r l) (hf : (fitX r n l).2 = 0) : rightX r (l ++ [(fitX r n l).1]) ∧ (fitX r n l).1.len = n ∧ 1 ≤ n ∧ n ≤ freeX r l := by
  have hG := gaps_ok h
  unfold fitX at hf ⊢
  by_cases hn : n < 1 ∨ rightB r l = false
  · rw [if_pos hn] at hf
    cases hf
  · rw [if_neg hn] at hf ⊢
    cases hx : (gapsX r l).find? (fun x => decide (n ≤ x.len)) with
    | none =>
      rw [hx] at hf
      cases hf
    | some x =>
      have hm := List.mem_of_find?_eq_some hx
      have hle := List.find?_some hx
      simp only [decide_eq_true_eq] at hle
      have hw := hG.inn x hm
      have hn1 : ¬ n < 1 := fun h => hn (.inl h)
      unfold withinP at hw
      refine ⟨⟨h.1, fun y hy => ?_, ?_⟩, rfl, by omega, ?_⟩
      · rcases List.mem_append.1 hy with hy | hy
        · exact h.2.1 y hy
        · obtain rfl := List.mem_singleton.1 hy
          refine ⟨?_, ?_, ?_⟩ <;> dsimp only <;> omega
      · rw [List.pairwise_append]
        refine ⟨h.2.2, List.pairwise_singleton _ _, fun a ha b hb => ?_⟩
        obtain rfl := List.mem_singleton.1 hb
        rcases hG.apart a ha x hm with h3 | h3
        · exact .inl h3
        · right
          dsimp only
          omega
      · rw [← free_gaps h]
        have h3 : ∀ {g : List Ex}, x ∈ g → (∀ y ∈ g, 1 ≤ y.len) → x.len ≤ sumL g := by
          intro g
          induction g with
          | nil => intro h; cases h
          | cons z t ih =>
            intro hxm hp
            rw [sumL_cons]
            have hz := hp z (List.mem_cons_self ..)
            have ht := sumL_nonneg (l := t) (fun y hy => hp y (List.mem_cons_of_mem _ hy))
            rcases List.mem_cons.1 hxm with rfl | hxm
            · omega
            · have := ih hxm (fun y hy => hp y (List.mem_cons_of_mem _ hy))
              omega
        have := h3 hm (fun y hy => (hG.inn y hy).1)
        omega
theorem free_use {r : Ex} {n : Int} {l : List Ex} (h : rightX r l) (hf : (fitX r n l).2 = 0) : freeX r (l ++ [(fitX r n l).1]) = freeX r l - n := by
  obtain ⟨h1, h2, _⟩ := fit_use h hf
  unfold freeX
  rw [if_pos (rightB_iff.2 h), if_pos (rightB_iff.2 h1), sumL_append, sumL_cons, h2]
  simp only [sumL, List.map_nil, List.sum_nil]
  omega
theorem all_right {r : Ex} {l : List Ex} (h : rightX r l) : rightX r (l ++ gapsX r l) := by
  have hG := gaps_ok h
  refine ⟨h.1, fun y hy => ?_, ?_⟩
  · rcases List.mem_append.1 hy with hy | hy
    · exact h.2.1 y hy
    · exact hG.inn y hy
  · rw [List.pairwise_append]
    refine ⟨h.2.2, hG.sep.imp (fun {a b} hab => .inl ?_), hG.apart⟩
    unfold Sep at hab
    omega
theorem all_free {r : Ex} {l : List Ex} (h : rightX r l) : freeX r (l ++ gapsX r l) = 0 := by
  have hG := (gaps_ok h).sum
  unfold freeX
  rw [if_pos (rightB_iff.2 (all_right h)), sumL_append]
  omega
theorem right_wf {r : Ex} {l : List Ex} (h : rightX r l) : ∀ x ∈ l, wfX x := fun x hx => by
  have h1 := has_bound h x hx
  unfold wfX
  omega
end Go.Proofs.Ytkbldbcjpdfopaa
