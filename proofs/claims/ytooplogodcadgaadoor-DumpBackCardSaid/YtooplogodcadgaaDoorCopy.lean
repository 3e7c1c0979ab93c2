/- The built-in copy of a string, and of a slice, into a row that is known whole. -/
import Derived.Test.YtooplogodcadgaaDoorBase
import Derived.Laws.CopyOwn
import Derived.StillTailTactics
namespace Go.Proofs.YtooplogodcadgaaDoor
open Go.RowKit

def bv (b : UInt8) : Value := .int .u8 (b.toNat : Int)
theorem bv_one (l : List UInt8) : ∀ v ∈ l.map bv, v.oneCell' = true := by
  intro v hv
  obtain ⟨b, _, rfl⟩ := List.mem_map.1 hv
  rfl
theorem kept_setRow (w : World) (g : Nat) (cs : Array Value) : Kept [g] w (w.setRow g cs) :=
  ⟨rfl, rfl, rfl, by simp [World.setRow], fun k _ hk => setRow_other w g k cs (by simpa using hk)⟩

theorem run_copy_str {P : Program} (w : World) (dT sT ty elem : TypeId) (hu : P.underlying dT = some (.slice elem)) (hs : (P.info? elem).map (·.size) = some 1)
    (dp : Option Addr) (dLen dCap : Nat) (s : ByteArray) (g off : Nat) (t : TypeId) (cur : List Value) (hg : Blk w g t cur.toArray) (cs : List UInt8) (hcs : cs = s.data.toList.take dLen)
    (hpos : 0 < cs.length → dp = some ⟨g, off, none⟩) (hfit : off + cs.length ≤ cur.length) :
    ∃ w', (Builtin.copy_ #[dT, sT] ty #[.slice dp dLen dCap, .string s]).run P w = .ok (goInt cs.length) w' ∧ Blk w' g t (splice cur off (cs.map bv)).toArray ∧ Kept [g] w w' := by
  cases hq : P.info? elem with
  | none => simp [hq] at hs
  | some i =>
    have hi : i.size = 1 := by simpa [hq] using hs
    have hlen : cs.length = Nat.min s.size dLen := by rw [hcs, List.length_take]; show min dLen s.data.toList.length = min s.size dLen; rw [Nat.min_comm]; simp
    have hcells : ((s.extract 0 (Nat.min s.size dLen)).data.map fun b => Value.int .u8 (b.toNat : Int)).toList = cs.map bv := by
      rw [hcs]
      have e : (s.extract 0 (Nat.min s.size dLen)).data.toList = s.data.toList.take dLen := by
        rw [ByteArray.data_extract, Array.toList_extract, List.extract_eq_take_drop]
        simp [List.take_eq_take_iff]
        exact Nat.min_comm _ _
      rw [Array.toList_map, e]
      rfl
    have hl : cs.length = (cs.map bv).length := by simp
    rcases Nat.eq_zero_or_pos cs.length with h0 | h0
    · have hc0 : cs = [] := List.eq_nil_of_length_eq_zero h0
      have hn : Nat.min s.size dLen = 0 := by omega
      refine ⟨w, ?_, ?_, Kept.refl _ _⟩
      · rw [hn] at hcells
        rw [hc0] at hcells ⊢
        cases dp <;> simp [Builtin.copy_, run_underlying hu, Builtin.lenOf, Builtin.firstCells, sizeOf, typeInfo, hq, hn, storeCells] 
      · rw [hc0]; simpa [splice] using hg
    · obtain rfl := hpos h0
      have hst := run_storeCells_at P g off t (cs.map bv) 0 cur.toArray w hg (by simp; omega) (bv_one cs)
      refine ⟨_, ?_, setRow_heap w g _ _ t _ hg, kept_setRow w g _⟩
      simp only [Builtin.copy_, List.getElem?_toArray, List.getElem?_cons_zero, List.getElem?_cons_succ]
      simp [run_underlying hu, Builtin.lenOf, Builtin.firstCells, sizeOf, typeInfo, hq]
      have e2 : List.take (s.size.min dLen) (List.map (fun b : UInt8 => Value.int IntKind.u8 (b.toNat : Int)) s.data.toList) = cs.map bv := by
        rw [hcs, List.map_take]
        show List.take (min s.size dLen) (s.data.toList.map bv) = _
        rw [show s.size = (s.data.toList.map bv).length by simp, Nat.min_comm, ← List.take_eq_take_min]
      rw [e2, hst, ← hlen]
      simp [splice]

theorem run_copy_sl {P : Program} (w : World) (dT sT ty elem : TypeId) (hu : P.underlying dT = some (.slice elem)) (hs : (P.info? elem).map (·.size) = some 1)
    (dp : Option Addr) (dLen dCap : Nat) (sp : Option Addr) (sLen sCap : Nat) (g off : Nat) (t : TypeId) (cur : List Value) (hg : Blk w g t cur.toArray) (cs : List Value) (h1 : ∀ v ∈ cs, v.oneCell' = true)
    (hn : cs.length = min sLen dLen) (hsrc : ∀ b o, sp = some ⟨b, o, none⟩ → ∀ j v, cs[j]? = some v → w.cell? ⟨b, o + j, none⟩ = some v) (hsp : 0 < cs.length → ∃ b o, sp = some ⟨b, o, none⟩)
    (hpos : 0 < cs.length → dp = some ⟨g, off, none⟩) (hfit : off + cs.length ≤ cur.length) :
    ∃ w', (Builtin.copy_ #[dT, sT] ty #[.slice dp dLen dCap, .slice sp sLen sCap]).run P w = .ok (goInt cs.length) w' ∧ Blk w' g t (splice cur off cs).toArray ∧ Kept [g] w w' := by
  rcases Nat.eq_zero_or_pos cs.length with h0 | h0
  · have hc0 : cs = [] := List.eq_nil_of_length_eq_zero h0
    refine ⟨w, ?_, by rw [hc0]; simpa [splice] using hg, Kept.refl _ _⟩
    rw [h0]
    exact run_copy_none w dT sT ty elem dp sp dLen dCap sLen sCap hu hs (by show min sLen dLen = 0; omega)
  · obtain rfl := hpos h0
    obtain ⟨b, o, rfl⟩ := hsp h0
    have := run_copy_row (P := P) w dT sT ty elem g off dLen dCap ⟨b, o, none⟩ sLen sCap cur.toArray t cs hu hs hg hn (fun j v hv => by rw [Addr.add_lit]; exact hsrc b o rfl j v hv) (by simpa using hfit) h1
    exact ⟨_, this, by unfold Blk; simpa [splice] using setRow_heap w g _ _ t _ hg, kept_setRow w g _⟩

/-- 'copy' at the head of a list of operations: whatever its source, by its run. -/
theorem wpList_copy_run {P : Program} {w : World} {ops : Array Oper} {rest : List Oper} {o : Oper} {a : Act} {Q : Exit → Act → World → Prop} (hgd : o.guard = none) (d s : Operand) (dT sT : TypeId)
    (ho : o.op = .call { callee := .builtin .copy, args := #[d, s], argTypes := #[dT, sT] }) (vd vs : Value) (hd : a.eval d = vd) (hs : a.eval s = vs) (n : Int)
    {R : World → Prop} (hrun : ∃ w', (Builtin.copy_ #[dT, sT] o.type #[vd, vs]).run P w = .ok (goInt n) w' ∧ R w')
    (h : ∀ w', R w' → wpList P ops Q rest (a.put o.dst (goInt n)) w') : wpList P ops Q (o :: rest) a w := by
  refine wpList_plain hgd fun K hK => ?_
  obtain ⟨w', hr, hR⟩ := hrun
  unfold Oper.wp
  simp [execOp, ho, resolve, invoke, builtin, hd, hs, hr, Result.andThen]
  exact hK _ _ (h w' hR)

theorem bv_strOf (l : List UInt8) : strOfNums (l.map fun b => (b.toNat : Int)) = ⟨l.toArray⟩ := by
  have : (l.map fun b => (b.toNat : Int)).map (fun n => UInt8.ofNat n.toNat) = l := by
    rw [List.map_map]
    conv => rhs; rw [← List.map_id l]
    refine List.map_congr_left fun b _ => ?_
    simp
  unfold strOfNums
  rw [this]

theorem splice_app {α : Type} (X R : List α) (off : Nat) (cs : List α) (h : off + cs.length ≤ X.length) : splice (X ++ R) off cs = splice X off cs ++ R := by
  unfold splice
  rw [List.take_append_of_le_length (by omega), List.drop_append_of_le_length h]
  simp

/-- a region that draws its order: reads and calls that leave the world alone, then a chain -/
theorem still_tail {P : Program} {id : Nat} {Q : Exit → Act → World → Prop} {a : Act} {w : World} {l : List Oper} (n : Nat) (hm : P.follows .mixedOrders = true) (hB : Region.lexTailB .any l.toArray n = true)
    (h : wpStill P l.toArray w.drew (fun a' => wpList P l.toArray Q (l.drop n) a' w.drew) (l.take n) a) : (Code.region id l.toArray true).wp P Q a w := wp_region_still_tail n hm hB h

/-- 'string(b)' of a slice that reads the bytes l. -/
theorem conv_bytes {P : Program} {w : World} {B n c : Nat} {A : Option Addr} {l : List UInt8} (src e : TypeId) (hs : P.underlying src = some (.slice e)) (he : P.underlying e = some (.int .u8)) (h : Rd w B 1 A n (l.map bv)) (hA : n = 0 → A = none ∨ ∃ b o, A = some ⟨b, o, none⟩) :
    ∀ dst, P.underlying dst = some .string → (convert src dst (.slice A n c)).run P w = .ok (.string ⟨l.toArray⟩) w := by
  have hl : l.length = n := by simpa using h.1
  rcases A with _ | ⟨b, o, sp⟩
  · have hn : n = 0 := by
      rcases Nat.eq_zero_or_pos n with h0 | h0
      · exact h0
      · obtain ⟨b, o, e, _⟩ := h.2 h0; cases e
    subst hn
    obtain rfl : l = [] := List.eq_nil_of_length_eq_zero hl
    exact run_convert_bytes_nil w src e hs he 0 c
  · have hsp : sp = none := by
      rcases Nat.eq_zero_or_pos n with h0 | h0
      · rcases hA h0 with h1 | ⟨b', o', h1⟩
        · cases h1
        · injection h1 with h1; injection h1
      · obtain ⟨b', o', h1, _⟩ := h.2 h0; injection h1 with h1; injection h1
    subst hsp
    have := run_convert_bytes_arg w src e hs he b o n c (l.map fun b => (b.toNat : Int)) (by simpa using hl) (fun i hi => by
      obtain ⟨b', o', h1, _, hc⟩ := h.2 (by omega)
      injection h1 with h1
      injection h1 with h1 h2
      subst h1; subst h2
      have hil : i < l.length := by omega
      have := hc i (bv l[i]) (by simp [hil])
      rw [this]
      simp [List.getD, hil, bv])
    rw [bv_strOf] at this
    exact this

theorem run_copy_empty {P : Program} (w : World) (dT sT ty elem : TypeId) (hu : P.underlying dT = some (.slice elem)) (hs : (P.info? elem).map (·.size) = some 1) (A : Option Addr) (n c : Nat) :
    (Builtin.copy_ #[dT, sT] ty #[.slice A n c, .string ⟨#[]⟩]).run P w = .ok (goInt 0) w := by
  cases hq : P.info? elem with
  | none => simp [hq] at hs
  | some i =>
    have e2 : (ByteArray.mk #[]).size.min n = 0 := Nat.zero_min n
    cases A <;> simp [Builtin.copy_, run_underlying hu, Builtin.lenOf, Builtin.firstCells, sizeOf, typeInfo, hq, storeCells, e2]

/-- append onto a row that is owned, whatever is appended (nil too) -/
theorem run_app {P : Program} (w : World) (t ty e : TypeId) (i : TypeInfo) (z : Value) (size bytes : Nat) (ht : P.underlying t = some (.slice e)) (hi : P.info? e = some i) (hz : i.zero = some z) (hsize : i.size = size) (hby : i.bytes = bytes) (hzs : z.cells.size = size) (hsz : 0 < size)
    (v : Value) (n : Nat) (xs : List Value) (hown : w.ownsRow 0 e size v n xs) (A : Option Addr) (m c : Nat) (news : List Value) (hl : news.length = m * size) (hA0 : A = none → c = 0) (hA : 0 < m → ∃ b o, A = some ⟨b, o, none⟩ ∧ ∀ j u, news[j]? = some u → w.cell? ⟨b, o + j, none⟩ = some u)
    (h1 : ∀ u ∈ news, u.oneCell' = true) (h63 : n + m ≤ maxLen) (hbytes : (n + m) * bytes ≤ 140737488355328) :
    ∃ v' w', (Builtin.append_ #[t, t] ty #[v, .slice A m c]).run P w = .ok v' w' ∧ w'.ownsRow 0 e size v' (n + m) (xs ++ news) ∧ w.grownBy w' v.ownBlock ∧ (v'.ownBlock = v.ownBlock ∨ v'.ownBlock = some w.heap.size) := by
  rcases Nat.eq_zero_or_pos m with h0 | h0
  · subst h0
    obtain rfl : news = [] := List.eq_nil_of_length_eq_zero (by simpa using hl)
    rcases A with _ | ad
    · obtain rfl := hA0 rfl
      exact ⟨v, w, run_append_owned_none (P := P) w 0 t ty e i size ht hi v n xs hown, by simpa using hown, World.grownBy.refl _ _, .inl rfl⟩
    · obtain ⟨v', w', hr, h2, h3, _, h5⟩ := run_append_own_at (P := P) w 0 t ty e i z size bytes ht hi hz hsize hby hzs hsz v n xs hown ad 0 c [] (by simp) (by simp) (by simp) h63 hbytes (Nat.zero_le _)
      exact ⟨v', w', hr, h2, h3, h5⟩
  · obtain ⟨b, o, rfl, hc⟩ := hA h0
    obtain ⟨v', w', hr, h2, h3, _, h5⟩ := run_append_own_at (P := P) w 0 t ty e i z size bytes ht hi hz hsize hby hzs hsz v n xs hown ⟨b, o, none⟩ m c news hl (fun j u hu => by rw [Addr.add_lit]; exact hc j u hu) h1 h63 hbytes (Nat.zero_le _)
    exact ⟨v', w', hr, h2, h3, h5⟩
theorem wpList_app {P : Program} {w : World} {ops : Array Oper} {rest : List Oper} {o : Oper} {a : Act} {Q : Exit → Act → World → Prop} (hgd : o.guard = none) (s x : Operand) (t : TypeId)
    (ho : o.op = .call { callee := .builtin .append, args := #[s, x], argTypes := #[t, t] }) (vs vx : Value) (hs : a.eval s = vs) (hx : a.eval x = vx) {R : Value → World → Prop}
    (hrun : ∃ v' w', (Builtin.append_ #[t, t] o.type #[vs, vx]).run P w = .ok v' w' ∧ R v' w') (h : ∀ v' w', R v' w' → wpList P ops Q rest (a.put o.dst v') w') : wpList P ops Q (o :: rest) a w := by
  refine wpList_plain hgd fun K hK => ?_
  obtain ⟨v', w', hr, hR⟩ := hrun
  unfold Oper.wp
  simp [execOp, ho, resolve, invoke, builtin, hs, hx, hr, Result.andThen]
  exact hK _ _ (h v' w' hR)
theorem step_app {P : Program} {w : World} {ops : Array Oper} {o : Oper} {a : Act} {K : Act → World → Prop} {Q : Exit → Act → World → Prop} {E : Prop} (hgd : o.guard = none) (s x : Operand) (t : TypeId)
    (ho : o.op = .call { callee := .builtin .append, args := #[s, x], argTypes := #[t, t] }) (vs vx : Value) (hs : a.eval s = vs) (hx : a.eval x = vx) {R : Value → World → Prop}
    (hrun : ∃ v' w', (Builtin.append_ #[t, t] o.type #[vs, vx]).run P w = .ok v' w' ∧ R v' w') (h : ∀ v' w', R v' w' → K (a.put o.dst v') w') : if Region.wanted o (yielded ops a.tmps) = true then Oper.wp P o a w K Q else E := by
  have hw : Region.wanted o (yielded ops a.tmps) = true := by simp [Region.wanted, hgd]
  rw [if_pos hw]
  obtain ⟨v', w', hr, hR⟩ := hrun
  unfold Oper.wp
  simp [execOp, ho, resolve, invoke, builtin, hs, hx, hr, Result.andThen]
  exact h v' w' hR
end Go.Proofs.YtooplogodcadgaaDoor
