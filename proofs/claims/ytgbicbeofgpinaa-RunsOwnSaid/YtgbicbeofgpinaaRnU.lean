/- A slice of its own is appended to where it may be greater than the kit's law lets it be: up to half as much again. -/
import Derived.OwnWalkIn
import Derived.Maps.AppendAt
namespace Go.Proofs.Ytgbicbeofgpinaa
open Go.RowKit

theorem growBy_le (need : Nat) : ∀ (r c : Nat), Builtin.growBy need r c ≤ Nat.max c (need + need / 4 + 192)
  | 0, c => Nat.le_max_left _ _
  | r + 1, c => by
    unfold Builtin.growBy
    split
    · exact Nat.le_max_left _ _
    · rename_i h
      have h1 := growBy_le need r (c + (c + 768) / 4)
      have h2 : Nat.max (c + (c + 768) / 4) (need + need / 4 + 192) ≤ need + need / 4 + 192 := by
        apply Nat.max_le.2
        omega
      exact Nat.le_trans h1 (Nat.le_trans h2 (Nat.le_max_right _ _))
theorem nextcap_le {need old : Nat} (h : old < need) : Builtin.nextslicecap need old ≤ need + need / 4 + 512 := by
  unfold Builtin.nextslicecap
  split
  · omega
  · split
    · omega
    · have h1 := growBy_le need 4 old
      have h2 : Nat.max old (need + need / 4 + 192) ≤ need + need / 4 + 192 := by
        apply Nat.max_le.2
        omega
      have := Nat.le_trans h1 h2
      omega
theorem grow_fits {need old bytes : Nat} (h : old < need) (hb : need * bytes ≤ 211106232532992) (h1 : bytes ≤ 1000000) : Builtin.nextslicecap need old * bytes ≤ 281474976710656 := by
  have h2 : Builtin.nextslicecap need old * bytes ≤ (need + need / 4 + 512) * bytes := Nat.mul_le_mul_right _ (nextcap_le h)
  have h3 : (need / 4) * bytes * 4 ≤ need * bytes := by
    rw [Nat.mul_right_comm]
    exact Nat.mul_le_mul_right _ (Nat.div_mul_le_self _ _)
  rw [Nat.add_mul, Nat.add_mul] at h2
  generalize need / 4 * bytes = a at *
  generalize need * bytes = b at *
  omega
section
variable {P : Program} (w : World)
/-- one value more, whatever there was -/
theorem run_append_big (base : Nat) (t ty e : TypeId) (i : TypeInfo) (z : Value) (bytes : Nat) (ht : P.underlying t = some (.slice e)) (hi : P.info? e = some i) (hz : i.zero = some z)
    (hsize : i.size = 1) (hby : i.bytes = bytes) (hzs : z.cells.size = 1) (v : Value) (n : Nat) (xs : List Value) (hown : w.ownsRow base e 1 v n xs)
    (a : Addr) (c : Nat) (u : Value) (hu : w.cell? a = some u) (h1 : u.oneCell' = true) (h63 : n + 1 ≤ maxLen) (hb : (n + 1) * bytes ≤ 211106232532992) (hb1 : bytes ≤ 1000000) (hbase : base ≤ w.heap.size) :
    ∃ v' w', (Builtin.append_ #[t, t] ty #[v, .slice (some a) 1 c]).run P w = .ok v' w' ∧ w'.ownsRow base e 1 v' (n + 1) (xs ++ [u]) ∧ w.grownBy w' v.ownBlock := by
  subst hby
  have hnews : ∀ (j : Nat) (x : Value), [u][j]? = some x → w.cell? (a.add j) = some x := by
    intro j x hx
    cases j with
    | zero =>
      have e : a.add 0 = a := by
        obtain ⟨b, o, s⟩ := a
        cases s <;> simp [Addr.add]
      rw [e, hu]
      simpa using hx
    | succ j => simp at hx
  have hl : [u].length = 1 * i.size := by rw [hsize]; rfl
  have hx : xs.length = n := by simpa using hown.1
  have made : ∀ (k : Nat), n + 1 ≤ grownCap w (n + 1) k e → (w.drew.alloc (.cells (xs.toArray ++ [u].toArray ++ Builtin.zeroCells z.cells (grownCap w (n + 1) k e - (n + 1))) e)).ownsRow base e 1 (.slice (some ⟨w.heap.size, 0, none⟩) (n + 1) (grownCap w (n + 1) k e)) (n + 1) (xs ++ [u]) := by
    intro k hge
    refine ⟨by simp [hx], .inr ⟨w.heap.size, _, _, rfl, hbase, heap_alloc_new w.drew _, hge, grownCap_le_maxLen w (n + 1) k e h63, ?_, ?_⟩⟩
    · simp only [Array.size_append, List.size_toArray, size_zeroCells, hzs, hx, List.length_singleton]
      omega
    · simp only [Array.toList_append]
      rw [List.take_append_of_le_length (by simp [hx]), List.take_of_length_le (by simp [hx])]
  rcases hown.2 with ⟨rfl, rfl⟩ | ⟨g, cap, cur, rfl, hbg, hg, hnc, hcm, hcs, htake⟩
  · obtain rfl : xs = [] := List.eq_nil_of_length_eq_zero hx
    have hr := run_append_nil (P := P) w t ty e i z ht hi hz a 1 c [u] hl hnews (by omega) (by omega) (by omega)
    have hm := made 0 (grownCap_ge w _ 0 e)
    simp only [Nat.zero_add, List.nil_append, Array.empty_append] at hm ⊢
    exact ⟨_, _, hr, hm, ⟨rfl, rfl, rfl, by simp, fun k hk _ => heap_alloc_old w.drew _ k hk⟩⟩
  · by_cases hroom : n + 1 ≤ cap
    · have hr := run_append_room (P := P) w t ty e i ht hi g n cap cur hg a 1 c [u] hl hnews (by simpa using h1) hroom (by rw [hsize, hcs]; simp; omega)
      rw [hsize] at hr
      refine ⟨_, _, hr, ⟨by simp [hx], .inr ⟨g, cap, _, rfl, hbg, setRow_heap w g cur _ e _ hg, hroom, hcm, ?_, ?_⟩⟩, ⟨rfl, rfl, rfl, by simp, fun k _ hk => setRow_other w g k _ (fun e => hk (by simp [Value.ownBlock, e]))⟩⟩
      · simp only [List.size_toArray, List.length_append, List.length_take, List.length_drop, Array.length_toList, List.length_singleton]
        omega
      · rw [htake, List.take_append_of_le_length (by simp [hx]), List.take_of_length_le (by simp [hx])]
    · have hr := run_append_grow (P := P) w t ty e i z ht hi hz ⟨g, 0, none⟩ n cap xs (by rw [hsize]; simpa using hx) (hown.cells (g := g) rfl) a 1 c [u] hl hnews (by omega) (by simp only [maxLen] at h63; omega) (grow_fits (by omega) hb hb1)
      exact ⟨_, _, hr, made cap (grownCap_ge w _ cap e), ⟨rfl, rfl, rfl, by simp, fun k hk _ => heap_alloc_old w.drew _ k hk⟩⟩
end
theorem wpListIn_append_big {F : Fence} {n : Nat} {P : Program} (w : World) {ops : Array Oper} {rest : List Oper} {o : Oper} {a : Act} {Q : Exit → Act → World → Prop}
    (hg : o.guard = none) (s x : Operand) (t : TypeId) (hop : o.op = Op.call { callee := Callee.builtin Builtin.append, args := #[s, x], argTypes := #[t, t] })
    (base : Nat) (e : TypeId) (i : TypeInfo) (z : Value) (bytes : Nat) (h1 : P.underlying t = some (.slice e)) (h2 : P.info? e = some i) (h3 : i.zero = some z) (h4 : i.size = 1) (h5 : i.bytes = bytes) (h6 : z.cells.size = 1)
    (v : Value) (k : Nat) (xs : List Value) (hs : a.eval s = v) (hown : w.ownsRow base e 1 v k xs) (ad : Addr) (c : Nat) (u : Value) (hx : a.eval x = .slice (some ad) 1 c)
    (hc : w.cell? ad = some u) (h1c : u.oneCell' = true) (b1 : k + 1 ≤ maxLen) (b2 : (k + 1) * bytes ≤ 211106232532992) (b3 : bytes ≤ 1000000) (b4 : base ≤ w.heap.size)
    (hK : ∀ v' w', w'.ownsRow base e 1 v' (k + 1) (xs ++ [u]) → w.grownBy w' v.ownBlock → wpListIn F n P ops Q rest (a.put o.dst v') w') :
    wpListIn F n P ops Q (o :: rest) a w := by
  refine wpListIn_plain hg fun K hK' => ?_
  obtain ⟨v', w', hrun, r1, r2⟩ := run_append_big (P := P) w base t o.type e i z bytes h1 h2 h3 h4 h5 h6 v k xs hown ad c u hc h1c b1 b2 b3 b4
  unfold Oper.wpIn
  refine ⟨?_, ?_⟩
  · simp [Oper.about, hop, resolve, Target.leads, Sem.run_pure]
  · rw [Oper.semAt_plain F _ _ (by rw [hop]; intro c hc'; cases hc')]
    simp [execOp, hop, resolve, invoke, builtin, hs, hx, hrun, Result.andThen]
    exact hK' _ _ (hK v' w' r1 r2)
end Go.Proofs.Ytgbicbeofgpinaa
