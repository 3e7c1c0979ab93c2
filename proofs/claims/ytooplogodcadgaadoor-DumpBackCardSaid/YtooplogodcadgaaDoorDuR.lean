/- Dumps: rows of lines, each with entries, in memory: one's own, and such as are only read. -/
import Derived.Test.YtooplogodcadgaaDoorDuQ
namespace Go.Proofs.YtooplogodcadgaaDoor
open Go.RowKit Go.Lib

abbrev Pr := Sl × Value
def entC (e : En) : List Value := [.int .i64 e.o, .int .i64 e.i]
theorem entC_len (e : En) : (entC e).length = 2 := rfl
def pc (p : Pr) : List Value := (lineC p.1 p.2).toList
theorem pc_len (p : Pr) : (pc p).length = 8 := rfl
theorem infoP : (Tryd.prog.info? 54).map (fun i => (i.zero, i.size, i.bytes)) = some (some (lineV noS), 8, 80) := by kernel_rfl
theorem infoR : (Tryd.prog.info? 64).map (fun i => (i.zero, i.size, i.bytes)) = some (some (lineV noS), 8, 80) := by kernel_rfl
theorem infoEn : (Tryd.prog.info? 56).map (fun i => (i.zero, i.size, i.bytes)) = some (some (.agg #[.int .i64 0, .int .i64 0]), 2, 16) := by kernel_rfl
/-- entries of one's own -/
def EOw (n₀ : Nat) (w : World) (p : Pr) : Prop := w.ownsRow n₀ 56 2 p.2 p.1.ents.length (p.1.ents.flatMap entC)
def apartE (p q : Pr) : Prop := ∀ x, p.2.ownBlock = some x → q.2.ownBlock ≠ some x
structure LOw (T : TypeId) (n₀ : Nat) (w : World) (V : Value) (ps : List Pr) : Prop where
  row : w.ownsRow n₀ T 8 V ps.length (ps.flatMap pc)
  ents : ∀ p ∈ ps, EOw n₀ w p
  apart : ps.Pairwise apartE
theorem EOw.nil (n₀ : Nat) (w : World) (x : Sl) (h : x.ents = []) : EOw n₀ w (x, nilE) := by
  unfold EOw
  rw [h]
  exact World.ownsRow_nil _ _ _ _
theorem LOw.nil (T : TypeId) (n₀ : Nat) (w : World) : LOw T n₀ w nilE [] := ⟨World.ownsRow_nil _ _ _ _, fun _ h => (by cases h), List.Pairwise.nil⟩
theorem LOw.kept {T n₀ : Nat} {w w' : World} {V : Value} {ps : List Pr} {l : List Nat} (h : LOw T n₀ w V ps) (k : Kept l w w') (hl : ∀ x ∈ l, x < n₀) : LOw T n₀ w' V ps :=
  ⟨k.owns h.row (fun x hx hm => by have := (h.row.lt x hx).1; have := hl x hm; omega), fun p hp => k.owns (h.ents p hp) (fun x hx hm => by have := ((h.ents p hp).lt x hx).1; have := hl x hm; omega), h.apart⟩
theorem LOw.kept0 {T n₀ : Nat} {w w' : World} {V : Value} {ps : List Pr} (h : LOw T n₀ w V ps) (k : Kept [] w w') : LOw T n₀ w' V ps := h.kept k (fun _ h => by cases h)
/-- a store into a block of another type leaves them -/
theorem LOw.far {T n₀ t : Nat} {w : World} {V : Value} {ps : List Pr} (h : LOw T n₀ w V ps) {p : Addr} {cs : Array Value} (hb : Blk w p.block t cs) (h1 : T ≠ t) (h2 : 56 ≠ t) (u : Value) : LOw T n₀ (w.setCell p u) V ps :=
  ⟨own_set h.row (own_ne h.row hb h1) u, fun q hq => own_set (h.ents q hq) (own_ne (h.ents q hq) hb h2) u, h.apart⟩
theorem LOw.slice {T n₀ : Nat} {w : World} {V : Value} {ps : List Pr} (h : LOw T n₀ w V ps) : ∃ A c, V = .slice A ps.length c := by
  obtain ⟨A, c, e, _⟩ := own_slice h.row
  exact ⟨A, c, e⟩
theorem cells8_one (x : Sl) (E : Value) (hE : ∃ A n c, E = .slice A n c) : ∀ u ∈ pc (x, E), u.oneCell' = true := by
  obtain ⟨A, n, c, rfl⟩ := hE
  intro u hu
  simp only [pc, lineC, List.mem_cons, List.not_mem_nil, or_false] at hu
  rcases hu with rfl | rfl | rfl | rfl | rfl | rfl | rfl | rfl <;> rfl
/-- one line more -/
theorem lines_push {T : TypeId} (i0 : TypeInfo) (p0 : Tryd.prog.info? T = some i0) (p1 : i0.zero = some (lineV noS)) (p2 : i0.size = 8) (p3 : i0.bytes = 80) (sl : TypeId) (hu : Tryd.prog.underlying sl = some (.slice T)) (hT : T ≠ 56)
    {W w : World} {V : Value} {ps : List Pr} (x : Sl) (hx : x.ents = []) (H : LOw T W.heap.size w V ps) (HK : Kept [] W w) (hn : ps.length ≤ 1000000) (ty : TypeId) :
    ∃ v' w', (Builtin.append_ #[sl, sl] ty #[V, .slice (some ⟨w.heap.size, 0, none⟩) 1 1]).run Tryd.prog (w.alloc (.cells (lineC x nilE) T)) = .ok v' w' ∧ LOw T W.heap.size w' v' (ps ++ [(x, nilE)]) ∧ Kept [] W w' ∧ Kept V.ownBlock.toList w w' := by
  have hlo : ∀ j, V.ownBlock = some j → W.heap.size ≤ j := fun j hj => (World.ownsRow.lt H.row j hj).1
  obtain ⟨v', w', hr, h2, h3, h4⟩ := run_app (P := Tryd.prog) (w.alloc (.cells (lineC x nilE) T)) sl ty T i0 _ 8 80 hu p0 p1 p2 p3 rfl (by decide) _ _ _ (own_down (World.ownsRow.alloc H.row _) (Nat.zero_le _)) (some ⟨w.heap.size, 0, none⟩) 1 1 (pc (x, nilE)) rfl (fun h => by cases h) (fun _ => ⟨_, 0, rfl, fun j u hu => by
    have := World.news_of_block (Blk.new w T (lineC x nilE)) j u hu
    rwa [Addr.add_lit] at this⟩) (cells8_one x nilE ⟨_, _, _, rfl⟩) (by simp only [maxLen]; omega) (by omega)
  have e1 : ps.length + 1 = (ps ++ [(x, nilE)]).length := by simp
  have e2 : ps.flatMap pc ++ pc (x, nilE) = (ps ++ [(x, nilE)]).flatMap pc := by simp
  rw [e1, e2] at h2
  have hz := HK.size
  refine ⟨v', w', hr, ⟨own_up h2 (fun j hj => ?_), fun p hp => ?_, ?_⟩, (HK.alloc _).grown h3 (fun j e => .inr (hlo j e)), ((Kept.refl _ w).alloc _).grown h3 (fun y hy => .inl (by rw [Option.mem_toList]; exact hy))⟩
  · rcases h4 with h | h
    · exact hlo j (h ▸ hj)
    · rw [h] at hj
      injection hj with hj
      subst hj
      simp
      omega
  · rcases List.mem_append.1 hp with hp | hp
    · have k1 : Kept V.ownBlock.toList w w' := ((Kept.refl _ w).alloc _).grown h3 (fun y hy => .inl (by rw [Option.mem_toList]; exact hy))
      exact k1.owns (H.ents p hp) (fun y hy hm => own_own_ne H.row (H.ents p hp) hT y (by simpa using hm) hy)
    · obtain rfl := List.mem_singleton.1 hp
      exact EOw.nil _ _ _ hx
  · rw [List.pairwise_append]
    refine ⟨H.apart, List.pairwise_singleton _ _, fun a _ b hb y _ h => ?_⟩
    obtain rfl := List.mem_singleton.1 hb
    cases h
/-- what holds behind one entry more, in the last line -/
def EntR (T : TypeId) (n₀ : Nat) (W w : World) (V E : Value) (q : List Pr) (x : Sl) (e : En) (E' : Value) (w' : World) : Prop := Kept E.ownBlock.toList w w' ∧
  ∃ g c, V = .slice (some ⟨g, 0, none⟩) (q.length + 1) c ∧ w'.cell? ⟨g, q.length * 8 + 7, none⟩ = some E ∧ w'.frozen? ⟨g, q.length * 8 + 7, none⟩ = false ∧ n₀ ≤ g ∧
    LOw T n₀ (w'.setCell ⟨g, q.length * 8 + 7, none⟩ E') V (q ++ [({ x with ents := x.ents ++ [e] }, E')]) ∧ Kept [] W w' ∧ Kept [] W (w'.setCell ⟨g, q.length * 8 + 7, none⟩ E')
/-- one entry more, in the last line -/
theorem entry_push {T : TypeId} (hT : T ≠ 56) {W w : World} {V E : Value} {q : List Pr} {x : Sl} (e : En) (H : LOw T W.heap.size w V (q ++ [(x, E)])) (HK : Kept [] W w) (hn : x.ents.length ≤ 1000000) (ty : TypeId) :
    ∃ E' w', (Builtin.append_ #[52, 52] ty #[E, .slice (some ⟨w.heap.size, 0, none⟩) 1 1]).run Tryd.prog (w.alloc (.cells #[.int .i64 e.o, .int .i64 e.i] 56)) = .ok E' w' ∧ EntR T W.heap.size W w V E q x e E' w' := by
  obtain ⟨i0, p0, p1, p2, p3⟩ := info_parts infoEn
  have hE : EOw W.heap.size w (x, E) := H.ents _ (by simp)
  have hlo : ∀ j, E.ownBlock = some j → W.heap.size ≤ j := fun j hj => (World.ownsRow.lt hE j hj).1
  obtain ⟨E', w', hr, h2, h3, h4⟩ := run_app (P := Tryd.prog) (w.alloc (.cells #[.int .i64 e.o, .int .i64 e.i] 56)) 52 ty 56 i0 _ 2 16 Tryd.underlying52 p0 p1 p2 p3 rfl (by decide) _ _ _ (own_down (World.ownsRow.alloc hE _) (Nat.zero_le _)) (some ⟨w.heap.size, 0, none⟩) 1 1 (entC e) rfl (fun h => by cases h) (fun _ => ⟨_, 0, rfl, fun j u hu => by
    have := World.news_of_block (Blk.new w 56 #[.int .i64 e.o, .int .i64 e.i]) j u hu
    rwa [Addr.add_lit] at this⟩) (by simp [entC, Value.oneCell']) (by show x.ents.length + 1 ≤ _; simp only [maxLen]; omega) (by show (x.ents.length + 1) * 16 ≤ _; omega)
  have hz := HK.size
  have h5 : w'.ownsRow W.heap.size 56 2 E' (x.ents ++ [e]).length ((x.ents ++ [e]).flatMap entC) := by
    rw [List.flatMap_append, List.length_append]
    have e2 : [e].flatMap entC = entC e := by simp
    rw [e2]
    refine own_up h2 (fun j hj => ?_)
    rcases h4 with h | h
    · exact hlo j (h ▸ hj)
    · rw [h] at hj
      injection hj with hj
      subst hj
      simp
      omega
  have k1 : Kept E.ownBlock.toList w w' := ((Kept.refl _ w).alloc _).grown h3 (fun y hy => .inl (by rw [Option.mem_toList]; exact hy))
  have hrow : w'.ownsRow W.heap.size T 8 V (q ++ [(x, E)]).length ((q ++ [(x, E)]).flatMap pc) := k1.owns H.row (fun y hy hm => own_own_ne H.row hE hT y hy (by simpa using hm))
  have hpos : 0 < (q ++ [(x, E)]).length := by simp
  obtain ⟨g, c, rfl, hc⟩ := own_some hrow hpos
  have hln : (q ++ [(x, E)]).length = q.length + 1 := by simp
  have hcell : w'.cell? ⟨g, q.length * 8 + 7, none⟩ = some E := own_at hrow pc_len q.length 7 (by simp) (by omega) (by simp [pc, lineC])
  have hfz := own_frozen hrow (q.length * 8 + 7)
  have hset := own_putE (k := q.length * 8 + 7) hrow E'
  have hcs : ((q ++ [(x, E)]).flatMap pc).set (q.length * 8 + 7) E' = (q ++ [({ x with ents := x.ents ++ [e] }, E')]).flatMap pc := by
    have hq : (q.flatMap pc).length = q.length * 8 := flatMap_len 8 pc pc_len q
    rw [List.flatMap_append, List.flatMap_append, List.set_append_right _ _ (by omega), hq]
    simp [pc, lineC]
  rw [hcs] at hset
  have hgl := (World.ownsRow.lt H.row g rfl).1
  have hgne : ∀ v xs n, w'.ownsRow W.heap.size 56 2 v n xs → ∀ y, v.ownBlock = some y → y ≠ g := fun v xs n ho y hy hyg => own_own_ne ho hrow (fun h => hT h.symm) y hy (by rw [hyg]; rfl)
  have hkk : Kept [] W w' := (HK.alloc _).grown h3 (fun j e => .inr (hlo j e))
  refine ⟨E', w', hr, k1, g, c, by rw [hln], hcell, hfz, hgl, ⟨?_, fun p hp => ?_, ?_⟩, hkk, hkk.setCell (.inr hgl) _⟩
  · rw [hln] at hset
    simpa using hset
  · rcases List.mem_append.1 hp with hp | hp
    · have hpo := H.ents p (by simp [hp])
      have hap : apartE p (x, E) := (List.pairwise_append.1 H.apart).2.2 p hp _ (by simp)
      have h6 := k1.owns hpo (fun y hy hm => hap y hy (by simpa using hm))
      exact own_set h6 (hgne _ _ _ h6) _
    · obtain rfl := List.mem_singleton.1 hp
      exact own_set h5 (hgne _ _ _ h5) _
  · have hp := List.pairwise_append.1 H.apart
    rw [List.pairwise_append]
    refine ⟨hp.1, List.pairwise_singleton _ _, fun a ha b hb y hy hy2 => ?_⟩
    obtain rfl := List.mem_singleton.1 hb
    rcases h4 with h | h
    · exact hp.2.2 a ha (x, E) (by simp) y hy (h ▸ hy2)
    · have h7 := ((H.ents a (by simp [ha])).lt y hy).2
      rw [h] at hy2
      injection hy2 with hy2
      simp at hy2
      omega
/-- a row of lines that is only read -/
def ERd (w : World) (E : Value) (es : List En) : Prop := ∃ A c, E = .slice A es.length c ∧ Rd w w.heap.size 2 A es.length (es.flatMap entC)
def LRd (w : World) (A : Option Addr) (ps : List Pr) : Prop := Rd w w.heap.size 8 A ps.length (ps.flatMap pc) ∧ ∀ p ∈ ps, ERd w p.2 p.1.ents
theorem rd_kept {w w' : World} {size n : Nat} {A : Option Addr} {xs : List Value} (h : Rd w w.heap.size size A n xs) (k : Kept [] w w') : Rd w' w'.heap.size size A n xs := (h.kept k (Nat.le_refl _) (fun _ h => by cases h)).more k.size
theorem ERd.kept {w w' : World} {E : Value} {es : List En} (h : ERd w E es) (k : Kept [] w w') : ERd w' E es := by
  obtain ⟨A, c, e, hr⟩ := h
  exact ⟨A, c, e, rd_kept hr k⟩
theorem LRd.kept {w w' : World} {A : Option Addr} {ps : List Pr} (h : LRd w A ps) (k : Kept [] w w') : LRd w' A ps := ⟨rd_kept h.1 k, fun p hp => (h.2 p hp).kept k⟩
theorem LOw.rd {T n₀ c : Nat} {w : World} {A : Option Addr} {ps : List Pr} (h : LOw T n₀ w (.slice A ps.length c) ps) : LRd w A ps := by
  refine ⟨Rd.of_own h.row, fun p hp => ?_⟩
  have h1 := h.ents p hp
  obtain ⟨A', c', e, _⟩ := own_slice h1
  refine ⟨A', c', e, ?_⟩
  unfold EOw at h1
  rw [e] at h1
  exact Rd.of_own h1
theorem ERd.at_ {w : World} {A : Option Addr} {c : Nat} {es : List En} (h : ERd w (.slice A es.length c) es) {k : Nat} (hk : k < es.length) : ∃ b o, A = some ⟨b, o, none⟩ ∧ w.cell? ⟨b, o + k * 2, none⟩ = some (.int .i64 es[k].o) ∧ w.cell? ⟨b, o + k * 2 + 1, none⟩ = some (.int .i64 es[k].i) := by
  obtain ⟨A', c', e, hr⟩ := h
  injection e with e
  subst e
  obtain ⟨b, o, e, _, hc⟩ := hr.2 (by omega)
  refine ⟨b, o, e, ?_, ?_⟩
  · exact hc (k * 2 + 0) _ (by rw [flatMap_at 2 entC entC_len es k 0 hk (by omega)]; rfl)
  · exact hc (k * 2 + 1) _ (by rw [flatMap_at 2 entC entC_len es k 1 hk (by omega)]; rfl)
theorem LRd.at_ {w : World} {A : Option Addr} {ps : List Pr} (h : LRd w A ps) {k : Nat} (hk : k < ps.length) : ∃ b o, A = some ⟨b, o, none⟩ ∧ w.cell? ⟨b, o + k * 8, none⟩ = some (.int .i64 ps[k].1.id) ∧ w.cell? ⟨b, o + k * 8 + 1, none⟩ = some (.int .i64 ps[k].1.state) ∧
    w.cell? ⟨b, o + k * 8 + 2, none⟩ = some (.int .i64 ps[k].1.st) ∧ w.cell? ⟨b, o + k * 8 + 3, none⟩ = some (.int .i64 ps[k].1.len) ∧ w.cell? ⟨b, o + k * 8 + 4, none⟩ = some (.int .u32 ps[k].1.gen) ∧ w.cell? ⟨b, o + k * 8 + 5, none⟩ = some (.int .i64 ps[k].1.room) ∧
    w.cell? ⟨b, o + k * 8 + 6, none⟩ = some (.bool ps[k].1.inv) ∧ w.cell? ⟨b, o + k * 8 + 7, none⟩ = some ps[k].2 := by
  obtain ⟨b, o, e, _, hc⟩ := h.1.2 (by omega)
  have f : ∀ j u, j < 8 → (pc ps[k])[j]? = some u → w.cell? ⟨b, o + k * 8 + j, none⟩ = some u := fun j u hj hu => by
    have := hc (k * 8 + j) u (by rw [flatMap_at 8 pc pc_len ps k j hk hj]; exact hu)
    rwa [← Nat.add_assoc] at this
  exact ⟨b, o, e, f 0 _ (by omega) rfl, f 1 _ (by omega) rfl, f 2 _ (by omega) rfl, f 3 _ (by omega) rfl, f 4 _ (by omega) rfl, f 5 _ (by omega) rfl, f 6 _ (by omega) rfl, f 7 _ (by omega) rfl⟩
end Go.Proofs.YtooplogodcadgaaDoor
