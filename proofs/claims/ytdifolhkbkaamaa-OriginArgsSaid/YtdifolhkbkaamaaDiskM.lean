/- A disk as plain data: sectors, pending writes, a fuse, whether it is dead; and what its calls do. No program in sight. -/
namespace Go.Proofs.Ytdifolhkbkaamaa

def zsec : List UInt8 := List.replicate 64 0

structure D where
  ss : List (List UInt8)
  ps : List (Nat × List UInt8)
  fuse : Int
  dead : Bool

structure D.ok (d : D) : Prop where
  s64 : ∀ s ∈ d.ss, s.length = 64
  few : d.ss.length ≤ 1048576
  p64 : ∀ p ∈ d.ps, p.2.length = 64
  pat : ∀ p ∈ d.ps, p.1 < d.ss.length
  fuse : -1 ≤ d.fuse ∧ d.fuse ≤ 9223372036854775807

theorem D_new_ok (n : Nat) (h : n ≤ 1048576) : D.ok ⟨List.replicate n zsec, [], -1, false⟩ :=
  ⟨fun s hs => by rw [(List.mem_replicate.1 hs).2]; simp [zsec], by simpa using h, (fun _ h => by cases h), (fun _ h => by cases h), (show (-1:Int) ≤ -1 ∧ (-1:Int) ≤ 9223372036854775807 by decide)⟩

theorem flat_rep (n : Nat) : (List.replicate n zsec).flatten = List.replicate (n * 64) 0 := by
  rw [zsec, List.flatten_replicate_replicate]

theorem flat_len (ss : List (List UInt8)) (h : ∀ s ∈ ss, s.length = 64) : ss.flatten.length = 64 * ss.length := by
  induction ss with
  | nil => rfl
  | cons s r ih => simp [ih (fun x hx => h x (by simp [hx])), h s (by simp)]; omega

theorem flat_set (ss : List (List UInt8)) : ∀ (k : Nat) (x : List UInt8), (∀ s ∈ ss, s.length = 64) → k < ss.length → (ss.set k x).flatten = ss.flatten.take (k * 64) ++ (x ++ ss.flatten.drop (k * 64 + 64)) := by
  induction ss with
  | nil => intro k x _ h; cases h
  | cons s r ih =>
    intro k x h hk
    have h0 : s.length = 64 := h s (by simp)
    cases k with
    | zero => simp [h0]
    | succ k =>
      have := ih k x (fun y hy => h y (by simp [hy])) (by simpa using hk)
      rw [List.set_cons_succ, List.flatten_cons, this, List.flatten_cons, List.take_append, List.drop_append]
      rw [List.take_of_length_le (show s.length ≤ (k + 1) * 64 by omega), List.drop_eq_nil_of_le (show s.length ≤ (k + 1) * 64 + 64 by omega), h0]
      simp [show (k + 1) * 64 - 64 = k * 64 by omega, show (k + 1) * 64 + 64 - 64 = k * 64 + 64 by omega]

theorem flat_get (ss : List (List UInt8)) : ∀ (k : Nat), (∀ s ∈ ss, s.length = 64) → (hk : k < ss.length) → (ss.flatten.drop (k * 64)).take 64 = ss[k] := by
  induction ss with
  | nil => intro k _ h; cases h
  | cons s r ih =>
    intro k h hk
    have h0 : s.length = 64 := h s (by simp)
    cases k with
    | zero => simp [h0]
    | succ k =>
      have := ih k (fun y hy => h y (by simp [hy])) (by simpa using hk)
      rw [List.flatten_cons, List.drop_append, List.drop_eq_nil_of_le (show s.length ≤ (k + 1) * 64 by omega), h0]
      simp [show (k + 1) * 64 - 64 = k * 64 by omega, this]

theorem flat_drop (ss : List (List UInt8)) : ∀ (k : Nat), (∀ s ∈ ss, s.length = 64) → (ss.drop k).flatten = ss.flatten.drop (k * 64) := by
  induction ss with
  | nil => intro k _; simp
  | cons s r ih =>
    intro k h
    have h0 : s.length = 64 := h s (by simp)
    cases k with
    | zero => simp
    | succ k =>
      rw [List.drop_succ_cons, ih k (fun y hy => h y (by simp [hy])), List.flatten_cons, List.drop_append, List.drop_eq_nil_of_le (show s.length ≤ (k + 1) * 64 by omega), h0]
      simp [show (k + 1) * 64 - 64 = k * 64 by omega]
theorem flat_take (ss : List (List UInt8)) : ∀ (k : Nat), (∀ s ∈ ss, s.length = 64) → (ss.take k).flatten = ss.flatten.take (k * 64) := by
  induction ss with
  | nil => intro k _; simp
  | cons s r ih =>
    intro k h
    have h0 : s.length = 64 := h s (by simp)
    cases k with
    | zero => simp
    | succ k =>
      rw [List.take_succ_cons, List.flatten_cons, ih k (fun y hy => h y (by simp [hy])), List.flatten_cons, List.take_append, List.take_of_length_le (show s.length ≤ (k + 1) * 64 by omega), h0]
      simp [show (k + 1) * 64 - 64 = k * 64 by omega]
theorem secs_mid {ss : List (List UInt8)} {a n : Nat} (h : ∀ s ∈ ss, s.length = 64) (hl : a + n ≤ ss.length) : ((ss.drop a).take n).length = n ∧ (∀ s ∈ (ss.drop a).take n, s.length = 64) ∧ ((ss.drop a).take n).flatten = (ss.flatten.drop (a * 64)).take (n * 64) := by
  refine ⟨by simp; omega, fun s hs => h s (List.mem_of_mem_drop (List.mem_of_mem_take hs)), ?_⟩
  rw [flat_take _ _ (fun s hs => h s (List.mem_of_mem_drop hs)), flat_drop _ _ h]

def thereE (L : Nat) (at_ n : Int) : Int := if at_ < 0 ∨ n < 0 ∨ at_ > L ∨ n > L - at_ then 2 else 0

def D.thing (d : D) : Bool × D :=
  if d.fuse = 0 then (false, { d with dead := true }) else if d.fuse > 0 then (!d.dead, { d with fuse := d.fuse - 1 }) else (!d.dead, d)

theorem D.thing_ok (d : D) (h : d.ok) : d.thing.2.ok := by
  unfold D.thing
  have := h.fuse
  split
  · exact ⟨h.s64, h.few, h.p64, h.pat, h.fuse⟩
  · split
    · exact ⟨h.s64, h.few, h.p64, h.pat, by constructor <;> simp <;> omega⟩
    · exact h

/-- which pending writes stand -/
def standL (keep : Nat → Bool) : Nat → List (Nat × List UInt8) → List (List UInt8) → List (List UInt8)
  | _, [], ss => ss
  | i, p :: ps, ss => standL keep (i + 1) ps (if keep i then ss.set p.1 p.2 else ss)

def D.stand (d : D) (keep : Nat → Bool) : D := { d with ss := standL keep 0 d.ps d.ss, ps := [] }

def secs (ss : List (List UInt8)) (n : Nat) : Prop := ss.length = n ∧ ∀ s ∈ ss, s.length = 64

theorem secs_set {ss : List (List UInt8)} {n k : Nat} {x : List UInt8} (h : secs ss n) (hx : x.length = 64) : secs (ss.set k x) n :=
  ⟨by simpa using h.1, fun s hs => by
    rcases List.mem_or_eq_of_mem_set hs with h1 | h1
    · exact h.2 s h1
    · rw [h1]; exact hx⟩

theorem standL_secs (keep : Nat → Bool) (n : Nat) : ∀ (ps : List (Nat × List UInt8)) (i : Nat) (ss : List (List UInt8)), secs ss n → (∀ p ∈ ps, p.2.length = 64) → secs (standL keep i ps ss) n
  | [], _, _, h, _ => h
  | p :: ps, i, ss, h, hp => by
    unfold standL
    refine standL_secs keep n ps (i + 1) _ ?_ (fun q hq => hp q (by simp [hq]))
    split
    · exact secs_set h (hp p (by simp))
    · exact h

theorem D.stand_ok (d : D) (keep : Nat → Bool) (h : d.ok) : (d.stand keep).ok := by
  have := standL_secs keep d.ss.length d.ps 0 d.ss ⟨rfl, h.s64⟩ h.p64
  exact ⟨this.2, by show (standL keep 0 d.ps d.ss).length ≤ _; rw [this.1]; exact h.few, (fun _ h => by cases h), (fun _ h => by cases h), h.fuse⟩
theorem D.stand_len (d : D) (keep : Nat → Bool) (h : d.ok) : (d.stand keep).ss.length = d.ss.length :=
  (standL_secs keep d.ss.length d.ps 0 d.ss ⟨rfl, h.s64⟩ h.p64).1

def D.flush (d : D) : Int × D :=
  if d.dead then (41, d) else if d.thing.1 then (0, d.thing.2.stand fun _ => true) else (41, d.thing.2)

def D.restart (d : D) (keep : List Bool) : D := { (d.stand fun i => keep.getD i false) with dead := false, fuse := -1 }

/-- the sectors of a text are written, one by one, from the i-th on; whether it did not fail -/
def D.wr (data : List UInt8) (at_ : Nat) : Nat → Nat → D → Bool × D
  | 0, _, d => (true, d)
  | m + 1, i, d => if d.thing.1 then D.wr data at_ m (i + 1) { d.thing.2 with ps := d.thing.2.ps ++ [(at_ + i, (data.drop (i * 64)).take 64)] } else (false, d.thing.2)

def D.write (d : D) (at_ : Int) (data : List UInt8) : Int × D :=
  if d.dead then (41, d) else if data.length % 64 ≠ 0 then (1, d) else if thereE d.ss.length at_ (data.length / 64 : Nat) ≠ 0 then (2, d) else
    let r := D.wr data at_.toNat (data.length / 64) 0 d
    (if r.1 then 0 else 41, r.2)

theorem D.thing_ss (d : D) : d.thing.2.ss = d.ss := by unfold D.thing; split; rfl; split <;> rfl
theorem D.thing_ps (d : D) : d.thing.2.ps = d.ps := by unfold D.thing; split; rfl; split <;> rfl
theorem D.thing_dead (d : D) (h : d.dead = false) (h1 : d.thing.1 = true) : d.thing.2.dead = false := by
  by_cases h2 : d.fuse = 0
  · rw [D.thing, if_pos h2] at h1; cases h1
  · by_cases h3 : d.fuse > 0
    · rw [D.thing, if_neg h2, if_pos h3]; exact h
    · rw [D.thing, if_neg h2, if_neg h3]; exact h

theorem D.flush_ok (d : D) (h : d.ok) : d.flush.2.ok := by
  unfold D.flush
  split
  · exact h
  · split
    · exact D.stand_ok _ _ (D.thing_ok d h)
    · exact D.thing_ok d h
theorem D.restart_ok (d : D) (keep : List Bool) (h : d.ok) : (d.restart keep).ok := by
  have := D.stand_ok d (fun i => keep.getD i false) h
  exact ⟨this.s64, this.few, this.p64, this.pat, (show (-1:Int) ≤ -1 ∧ (-1:Int) ≤ 9223372036854775807 by decide)⟩

/-- the error of a text's writing -/
def wrE (r : Bool × D) : Int := if r.1 then 0 else 41

/-- n sectors of a text, with bytes 0 behind -/
def loadS (data : List UInt8) (n : Nat) : List (List UInt8) := (List.range n).map fun i => ((data ++ List.replicate (n * 64) 0).drop (i * 64)).take 64

theorem loadS_secs (data : List UInt8) (n : Nat) : secs (loadS data n) n := by
  refine ⟨by simp [loadS], fun s hs => ?_⟩
  unfold loadS at hs
  obtain ⟨i, hi, rfl⟩ := List.mem_map.1 hs
  have := List.mem_range.1 hi
  rw [List.length_take, List.length_drop, List.length_append, List.length_replicate]
  omega
theorem chunks_flat : ∀ (n : Nat) (l : List UInt8), n * 64 ≤ l.length → ((List.range n).map fun i => (l.drop (i * 64)).take 64).flatten = l.take (n * 64)
  | 0, l, _ => by simp
  | n + 1, l, h => by
    rw [List.range_succ, List.map_append, List.flatten_append, chunks_flat n l (by omega)]
    simp only [List.map_cons, List.map_nil, List.flatten_cons, List.flatten_nil, List.append_nil]
    rw [show (n + 1) * 64 = n * 64 + 64 by omega, List.take_add]
theorem loadS_flat (data : List UInt8) (n : Nat) (h : data.length ≤ n * 64) : (loadS data n).flatten = data ++ List.replicate (n * 64 - data.length) 0 := by
  unfold loadS
  rw [chunks_flat _ _ (by simp), List.take_append, List.take_of_length_le h, List.take_replicate]
  congr 2
  omega
theorem loadS_len (data : List UInt8) (n : Nat) : (loadS data n).length = n := (loadS_secs data n).1
theorem loadS_ok (data : List UInt8) (n : Nat) (h : n ≤ 1048576) : D.ok ⟨loadS data n, [], -1, false⟩ :=
  ⟨(loadS_secs data n).2, by show (loadS data n).length ≤ _; rw [loadS_len]; exact h, (fun _ h => by cases h), (fun _ h => by cases h), (show (-1:Int) ≤ -1 ∧ (-1:Int) ≤ 9223372036854775807 by decide)⟩

/-- what is read of some sectors -/
def over (at_ n : Nat) : List (Nat × List UInt8) → List (List UInt8) → List (List UInt8)
  | [], out => out
  | p :: ps, out => over at_ n ps (if at_ ≤ p.1 ∧ p.1 < at_ + n then out.set (p.1 - at_) p.2 else out)
def D.read (d : D) (at_ n : Int) : List UInt8 × Int :=
  if d.dead then ([], 41) else if thereE d.ss.length at_ n ≠ 0 then ([], 2) else ((over at_.toNat n.toNat d.ps ((d.ss.drop at_.toNat).take n.toNat)).flatten, 0)


/-- what is read of one sector: its last pending write, else what stands there -/
def lastP (a : Nat) : List (Nat × List UInt8) → List UInt8 → List UInt8
  | [], s => s
  | p :: ps, s => lastP a ps (if p.1 = a then p.2 else s)

theorem over_len (at_ n : Nat) : ∀ (ps : List (Nat × List UInt8)) (out : List (List UInt8)), (over at_ n ps out).length = out.length
  | [], _ => rfl
  | p :: ps, out => by
    rw [over, over_len at_ n ps]
    split <;> simp
theorem over_get (at_ n : Nat) : ∀ (ps : List (Nat × List UInt8)) (out : List (List UInt8)) (i : Nat), out.length = n → i < n → (over at_ n ps out).getD i [] = lastP (at_ + i) ps (out.getD i [])
  | [], _, _, _, _ => rfl
  | p :: ps, out, i, ho, hi => by
    rw [over, lastP, over_get at_ n ps _ i (by split <;> simp [ho]) hi]
    congr 1
    by_cases h : at_ ≤ p.1 ∧ p.1 < at_ + n
    · rw [if_pos h]
      by_cases h2 : p.1 = at_ + i
      · rw [if_pos h2, h2, List.getD_eq_getElem?_getD, List.getElem?_set]
        simp [show at_ + i - at_ = i by omega, show i < out.length by omega]
      · rw [if_neg h2, List.getD_eq_getElem?_getD, List.getElem?_set, if_neg (by omega), List.getD_eq_getElem?_getD]
    · rw [if_neg h, if_neg (by omega)]
/-- the same, sector by sector -/
theorem over_range (d : D) (at_ n : Nat) (hl : at_ + n ≤ d.ss.length) : over at_ n d.ps ((d.ss.drop at_).take n) = (List.range n).map fun i => lastP (at_ + i) d.ps (d.ss.getD (at_ + i) []) := by
  have hlen : ((d.ss.drop at_).take n).length = n := by simp; omega
  apply List.ext_getElem
  · rw [over_len, hlen]; simp
  · intro i h1 h2
    have hi : i < n := by simpa using h2
    have h3 := over_get at_ n d.ps _ i hlen hi
    rw [List.getD_eq_getElem?_getD, List.getElem?_eq_getElem h1] at h3
    simp only [Option.getD_some] at h3
    rw [h3]
    simp only [List.getElem_map, List.getElem_range]
    congr 1
    rw [List.getD_eq_getElem?_getD, List.getD_eq_getElem?_getD, List.getElem?_take, if_pos hi, List.getElem?_drop]

theorem standL_more (keep : Nat → Bool) : ∀ (ps : List (Nat × List UInt8)) (i : Nat) (ss : List (List UInt8)), (∀ j, i ≤ j → keep j = false) → standL keep i ps ss = ss
  | [], _, _, _ => rfl
  | p :: ps, i, ss, h => by
    rw [standL, h i (Nat.le_refl _)]
    exact standL_more keep ps (i + 1) ss (fun j hj => h j (by omega))
end Go.Proofs.Ytdifolhkbkaamaa
