/- The document's sum, bit by bit, is the sum by bytes: plain law. -/
import Derived.Test.YtcjdkanmbafjmaaDoorCrcE
namespace Go.Proofs.YtcjdkanmbafjmaaDoor

/-- the number that bits are, the lowest first -/
def valN : List Bool → Nat
  | [] => 0
  | b :: l => 2 * valN l + b.toNat
theorem valN_lt : ∀ l : List Bool, valN l < 2 ^ l.length
  | [] => by simp [valN]
  | b :: l => by
    have := valN_lt l
    have hb : b.toNat ≤ 1 := Bool.toNat_le b
    rw [valN, List.length_cons, Nat.pow_succ]
    omega
theorem xor_two (a b : Nat) (x y : Bool) : (2 * a + x.toNat) ^^^ (2 * b + y.toNat) = 2 * (a ^^^ b) + (x ^^ y).toNat := by
  have h1 : ((2 * a + x.toNat) ^^^ (2 * b + y.toNat)) / 2 = a ^^^ b := by
    have := Nat.shiftRight_xor_distrib (a := 2 * a + x.toNat) (b := 2 * b + y.toNat) (i := 1)
    simp only [Nat.shiftRight_eq_div_pow, Nat.pow_one] at this
    rw [this]
    have hx := Bool.toNat_le x
    have hy := Bool.toNat_le y
    rw [show (2 * a + x.toNat) / 2 = a by omega, show (2 * b + y.toNat) / 2 = b by omega]
  have h2 : ((2 * a + x.toNat) ^^^ (2 * b + y.toNat)) % 2 = (x ^^ y).toNat := by
    have : ((2 * a + x.toNat) ^^^ (2 * b + y.toNat)) % 2 = (2 * a + x.toNat) % 2 ^^^ (2 * b + y.toNat) % 2 := Nat.xor_mod_two_pow (n := 1)
    rw [this]
    cases x <;> cases y <;> simp <;> omega
  omega
theorem valN_zip : ∀ (l m : List Bool), l.length = m.length → valN (List.zipWith xor l m) = valN l ^^^ valN m
  | [], [], _ => rfl
  | x :: l, y :: m, h => by
    have := valN_zip l m (by simpa using h)
    rw [List.zipWith_cons_cons, valN, valN, valN, this, xor_two]
theorem valN_false : ∀ n, valN (List.replicate n false) = 0
  | 0 => rfl
  | n + 1 => by rw [List.replicate_succ, valN, valN_false n]; rfl
theorem valN_append : ∀ (l m : List Bool), valN (l ++ m) = valN l + 2 ^ l.length * valN m
  | [], m => by simp [valN]
  | b :: l, m => by
    rw [List.cons_append, valN, valN, valN_append l m, List.length_cons, Nat.pow_succ]
    have : 2 * (2 ^ l.length * valN m) = 2 ^ l.length * 2 * valN m := by rw [Nat.mul_comm (2 ^ l.length) 2, Nat.mul_assoc]
    omega
theorem valN_not : ∀ l : List Bool, valN (l.map not) + valN l + 1 = 2 ^ l.length
  | [] => rfl
  | b :: l => by
    have := valN_not l
    rw [List.map_cons, valN, valN, List.length_cons, Nat.pow_succ]
    cases b <;> simp <;> omega

def flipB (l : List Bool) (j : Nat) : List Bool := l.set j (!(l[j]?.getD false))
theorem flipB_len (l : List Bool) (j : Nat) : (flipB l j).length = l.length := by simp [flipB]
theorem flips_len (ps : List Nat) : ∀ l : List Bool, (ps.foldl flipB l).length = l.length := by
  induction ps with
  | nil => intro l; rfl
  | cons p ps ih => intro l; rw [List.foldl_cons, ih, flipB_len]
theorem flipB_at (l : List Bool) (p j : Nat) (hj : j < l.length) : (flipB l p)[j]?.getD false = ((l[j]?.getD false) ^^ decide (p = j)) := by
  unfold flipB
  by_cases h : p = j
  · subst h
    rw [List.getElem?_set_self hj]
    simp
  · rw [List.getElem?_set_ne h]
    simp [h]
theorem flips_at (ps : List Nat) (j : Nat) : ∀ l : List Bool, j < l.length → (ps.foldl flipB l)[j]?.getD false = ((l[j]?.getD false) ^^ decide ((ps.count j) % 2 = 1)) := by
  induction ps with
  | nil => intro l _; simp
  | cons p ps ih =>
    intro l hj
    rw [List.foldl_cons, ih _ (by rw [flipB_len]; exact hj), flipB_at l p j hj, List.count_cons]
    by_cases h : p = j
    · subst h
      rcases Nat.mod_two_eq_zero_or_one (ps.count p) with h2 | h2
      · simp [h2, Nat.add_mod]
      · simp [h2, Nat.add_mod]
    · simp [h]
def terms : List Nat := [26, 23, 22, 16, 12, 11, 10, 8, 7, 5, 4, 2, 1, 0]
def poly : List Bool := (List.range 32).map fun j => decide (((terms.map fun t => 31 - t).count j) % 2 = 1)
theorem poly_val : valN poly = 3988292384 := by decide +kernel
theorem flips_poly (v : List Bool) (hv : v.length = 32) : (terms.map fun t => 31 - t).foldl flipB v = List.zipWith xor v poly := by
  refine List.ext_getElem ?_ fun j h1 h2 => ?_
  · rw [flips_len, List.length_zipWith, hv]; rfl
  · rw [flips_len, hv] at h1
    have h := flips_at (terms.map fun t => 31 - t) j v (by omega)
    rw [List.getElem?_eq_getElem (by rw [flips_len]; omega), List.getElem?_eq_getElem (by omega), Option.getD_some, Option.getD_some] at h
    rw [h, List.getElem_zipWith]
    congr 1
    simp [poly]
theorem flip_right (pre v : List Bool) (j : Nat) : flipB (pre ++ v) (pre.length + j) = pre ++ flipB v j := by
  unfold flipB
  rw [List.getElem?_append_right (by omega), Nat.add_sub_cancel_left, List.set_append_right _ _ (by omega), Nat.add_sub_cancel_left]
theorem flip_left (v rest : List Bool) (j : Nat) (h : j < v.length) : flipB (v ++ rest) j = flipB v j ++ rest := by
  unfold flipB
  rw [List.getElem?_append_left h, List.set_append_left _ _ h]
theorem flips_mid (pre rest : List Bool) (ps : List Nat) : ∀ v : List Bool, (∀ p ∈ ps, p < v.length) → (ps.map fun p => pre.length + p).foldl flipB (pre ++ v ++ rest) = pre ++ ps.foldl flipB v ++ rest := by
  induction ps with
  | nil => intro v _; rfl
  | cons p ps ih =>
    intro v h
    rw [List.map_cons, List.foldl_cons, List.foldl_cons, List.append_assoc, flip_right, flip_left _ _ _ (h p (List.mem_cons_self ..)), ← List.append_assoc]
    exact ih _ (fun q hq => by rw [flipB_len]; exact h q (List.mem_cons_of_mem _ hq))
/-- one step of the division -/
def divStep (bs : List Bool) (i : Nat) : List Bool :=
  if bs[i]?.getD false = true then (terms.map fun t => i + 32 - t).foldl flipB (bs.set i false) else bs
theorem div_mid (pre v rest : List Bool) (b : Bool) (hv : v.length = 32) : divStep (pre ++ b :: v ++ rest) pre.length = pre ++ false :: (if b then List.zipWith xor v poly else v) ++ rest := by
  unfold divStep
  have hb : (pre ++ b :: v ++ rest)[pre.length]?.getD false = b := by
    rw [List.append_assoc, List.getElem?_append_right (Nat.le_refl _)]
    simp
  rw [hb]
  cases b
  · simp
  · have hs : (pre ++ true :: v ++ rest).set pre.length false = (pre ++ [false]) ++ v ++ rest := by
      rw [List.append_assoc, List.set_append_right _ _ (Nat.le_refl _)]
      simp
    have hp : (terms.map fun t => pre.length + 32 - t) = (terms.map fun t => 31 - t).map fun p => (pre ++ [false]).length + p := by
      rw [List.map_map]
      refine List.map_congr_left fun t ht => ?_
      have : t ≤ 26 := by
        revert t
        decide
      simp
      omega
    rw [if_pos rfl, hs, hp, flips_mid, flips_poly v hv]
    · simp
    · intro p hp
      obtain ⟨t, _, rfl⟩ := List.mem_map.1 hp
      omega
theorem stepsN_first (k : Nat) : ∀ n, stepsN (k + 1) n = stepsN k (stepN n) := by
  induction k with
  | zero => intro n; rfl
  | succ k ih => intro n; rw [stepsN, ih]; rfl
theorem stepN_two (m : Nat) (b : Bool) : stepN (2 * m + b.toNat) = if b then m ^^^ 3988292384 else m := by
  unfold stepN
  cases b
  · simp
  · have h1 : (2 * m + 1) % 2 = 1 := by omega
    have h2 : (2 * m + 1) / 2 = m := by omega
    simp [h1, h2]
/-- the sum's bits, one data bit after the other -/
def feed (ds : List Bool) (n : Nat) : Nat := ds.foldl (fun n d => stepN (n ^^^ d.toNat)) n
theorem feed_steps : ∀ (ds : List Bool) (n : Nat), feed ds n = stepsN ds.length (n ^^^ valN ds)
  | [], n => by simp [feed, valN, stepsN]
  | d :: ds, n => by
    have ih := feed_steps ds (stepN (n ^^^ d.toNat))
    show feed ds (stepN (n ^^^ d.toNat)) = _
    rw [ih, List.length_cons, stepsN_first, valN]
    congr 1
    have h : 2 * valN ds + d.toNat = d.toNat ^^^ (2 * valN ds) := by
      have := xor_two 0 (valN ds) d false
      simpa using this.symm
    have h2 : stepN (2 * valN ds) = valN ds := by simpa using stepN_two (valN ds) false
    rw [h, ← Nat.xor_assoc, stepN_xor (n ^^^ d.toNat) (2 * valN ds), h2]
theorem stepsN_shift (m : Nat) : ∀ k, stepsN k (2 ^ k * m) = m
  | 0 => by simp [stepsN]
  | k + 1 => by
    rw [stepsN_first, Nat.pow_succ, Nat.mul_comm (2 ^ k) 2, Nat.mul_assoc]
    have h2 : stepN (2 * (2 ^ k * m)) = 2 ^ k * m := by simpa using stepN_two (2 ^ k * m) false
    rw [h2, stepsN_shift m k]
theorem xor_parts (q : Nat) : ∀ (k r : Nat), r < 2 ^ k → 2 ^ k * q + r = 2 ^ k * q ^^^ r
  | 0, r, h => by
    have : r = 0 := by simpa using h
    subst this
    simp
  | k + 1, r, h => by
    have ih := xor_parts q k (r / 2) (by rw [Nat.pow_succ] at h; omega)
    rcases Nat.mod_two_eq_zero_or_one r with hr | hr
    · have h1 := xor_two (2 ^ k * q) (r / 2) false false
      have e1 : 2 * (r / 2) = r := by omega
      simp only [Bool.toNat_false, Nat.add_zero, Bool.xor_self, e1] at h1
      have h2 : 2 ^ (k + 1) * q = 2 * (2 ^ k * q) := by rw [Nat.pow_succ, Nat.mul_comm (2 ^ k) 2, Nat.mul_assoc]
      rw [h2, h1, ← ih]
      omega
    · have h1 := xor_two (2 ^ k * q) (r / 2) false true
      have e1 : 2 * (r / 2) + 1 = r := by omega
      simp only [Bool.toNat_false, Bool.toNat_true, Nat.add_zero, Bool.false_xor, e1] at h1
      have h2 : 2 ^ (k + 1) * q = 2 * (2 ^ k * q) := by rw [Nat.pow_succ, Nat.mul_comm (2 ^ k) 2, Nat.mul_assoc]
      rw [h2, h1, ← ih]
      omega
theorem byteN_steps (n : Nat) (c : UInt8) : byteN n c = stepsN 8 (n ^^^ c.toNat) := by
  have h1 : n = 2 ^ 8 * (n / 256) ^^^ (n % 256) := by
    rw [← xor_parts (n / 256) 8 (n % 256) (by omega)]
    omega
  have h2 : n ^^^ c.toNat = (n % 256 ^^^ c.toNat) ^^^ (2 ^ 8 * (n / 256)) := by
    conv => lhs; rw [h1]
    rw [Nat.xor_comm (2 ^ 8 * (n / 256)), Nat.xor_assoc, Nat.xor_comm (2 ^ 8 * (n / 256)), ← Nat.xor_assoc]
  rw [h2, stepsN_xor, stepsN_shift]
  rfl
def byteBits (c : UInt8) : List Bool := (List.range 8).map fun k => decide (c.toNat / 2 ^ k % 2 = 1)
theorem bits_all : ∀ n < 256, valN ((List.range 8).map fun k => decide (n / 2 ^ k % 2 = 1)) = n := by decide +kernel
theorem byteBits_val (c : UInt8) : valN (byteBits c) = c.toNat := bits_all _ (UInt8.toNat_lt c)
def dataBits (l : List UInt8) : List Bool := l.flatMap byteBits
theorem feed_data : ∀ (l : List UInt8) (n : Nat), feed (dataBits l) n = rawN l n
  | [], _ => rfl
  | c :: l, n => by
    have h : dataBits (c :: l) = byteBits c ++ dataBits l := rfl
    have h2 : feed (byteBits c ++ dataBits l) n = feed (dataBits l) (feed (byteBits c) n) := List.foldl_append
    rw [h, h2, feed_data l, feed_steps, byteBits_val]
    show rawN l (stepsN 8 (n ^^^ c.toNat)) = _
    rw [← byteN_steps]
    rfl
def allBits (l : List UInt8) : List Bool := dataBits l ++ List.replicate 32 false
def startBits (l : List UInt8) : List Bool := ((allBits l).take 32).map not ++ (allBits l).drop 32
def divK (bs : List Bool) : Nat → List Bool
  | 0 => bs
  | i + 1 => divStep (divK bs i) i
theorem not_val (v : List Bool) (h : v.length = 32) : valN (v.map not) = 4294967295 ^^^ valN v := by
  have e : v.map not = List.zipWith xor (List.replicate 32 true) v := by
    refine List.ext_getElem (by simp [h]) fun j h1 h2 => ?_
    rw [List.getElem_map, List.getElem_zipWith, List.getElem_replicate]
    cases v[j]'(by simpa using h1) <;> rfl
  rw [e, valN_zip _ _ (by simp [h])]
  congr 1
theorem zip_snoc (w u : List Bool) (d : Bool) (h : w.length = u.length) : valN (w ++ [d]) ^^^ valN (u ++ [d]) = valN w ^^^ valN u := by
  rw [← valN_zip _ _ (by simp [h]), ← valN_zip _ _ h, List.zipWith_append h, valN_append]
  simp [valN]
theorem div_inv (l : List UInt8) : ∀ i, i ≤ (dataBits l).length → ∃ v : List Bool, v.length = 32 ∧ divK (startBits l) i = List.replicate i false ++ v ++ (allBits l).drop (i + 32) ∧ valN v = feed ((dataBits l).take i) 4294967295 ^^^ valN (((allBits l).drop i).take 32)
  | 0, _ => by
    have hl : ((allBits l).take 32).length = 32 := by simp [allBits]
    refine ⟨((allBits l).take 32).map not, by rw [List.length_map, hl], by simp [divK, startBits], ?_⟩
    rw [not_val _ hl]
    rfl
  | i + 1, hi => by
    obtain ⟨v, hv, hd, hval⟩ := div_inv l i (by omega)
    have hal : (allBits l).length = (dataBits l).length + 32 := by simp [allBits]
    obtain ⟨b, w, rfl⟩ : ∃ b w, v = b :: w := by
      cases v with
      | nil => cases hv
      | cons b w => exact ⟨b, w, rfl⟩
    have hw : w.length = 31 := by simpa using hv
    have hdr : (allBits l).drop (i + 32) = (allBits l)[i + 32]'(by omega) :: (allBits l).drop (i + 33) := List.drop_eq_getElem_cons (by omega)
    have hwin : ((allBits l).drop i).take 32 = (allBits l)[i]'(by omega) :: ((allBits l).drop (i + 1)).take 31 := by
      rw [List.drop_eq_getElem_cons (by omega), List.take_succ_cons]
    have hwin2 : ((allBits l).drop (i + 1)).take 32 = ((allBits l).drop (i + 1)).take 31 ++ [(allBits l)[i + 32]'(by omega)] := by
      rw [List.take_succ_eq_append_getElem (by simp; omega)]
      congr 2
      rw [List.getElem_drop]
    have hdb : (allBits l)[i]'(by omega) = (dataBits l)[i]'(by omega) := by
      simp only [allBits]
      exact List.getElem_append_left (by omega)
    generalize hd' : (allBits l)[i + 32]'(by omega) = d' at *
    have hul : (((allBits l).drop (i + 1)).take 31).length = 31 := by simp; omega
    rw [hwin, hdb] at hval
    generalize ((allBits l).drop (i + 1)).take 31 = u at *
    have hf : feed ((dataBits l).take (i + 1)) 4294967295 = stepN (feed ((dataBits l).take i) 4294967295 ^^^ ((dataBits l)[i]'(by omega)).toNat) := by
      rw [List.take_succ_eq_append_getElem (by omega)]
      unfold feed
      rw [List.foldl_append]
      rfl
    generalize (dataBits l)[i]'(by omega) = d at *
    generalize feed ((dataBits l).take i) 4294967295 = C at *
    refine ⟨if b then List.zipWith xor (w ++ [d']) poly else w ++ [d'], ?_, ?_, ?_⟩
    · have : poly.length = 32 := rfl
      split <;> simp [hw, this]
    · rw [divK, hd, hdr]
      have := div_mid (List.replicate i false) (w ++ [d']) ((allBits l).drop (i + 33)) b (by simp [hw])
      rw [List.length_replicate] at this
      rw [show List.replicate i false ++ b :: w ++ d' :: (allBits l).drop (i + 33) = List.replicate i false ++ b :: (w ++ [d']) ++ (allBits l).drop (i + 33) by simp, this]
      rw [List.replicate_succ']
      simp
    · rw [hwin2, hf]
      rw [valN, valN] at hval
      have hC : C ^^^ d.toNat = 2 * (valN w ^^^ valN u) + b.toNat := by
        have h1 : C = (2 * valN w + b.toNat) ^^^ (2 * valN u + d.toNat) := by rw [hval, Nat.xor_assoc, Nat.xor_self, Nat.xor_zero]
        have h2 := xor_two (valN w ^^^ valN u) 0 (b ^^ d) d
        rw [h1, xor_two]
        simpa using h2
      rw [hC, stepN_two]
      have hz := zip_snoc w u d' (by rw [hw, hul])
      have hx : valN (w ++ [d']) = (valN w ^^^ valN u) ^^^ valN (u ++ [d']) := by rw [← hz, Nat.xor_assoc, Nat.xor_self, Nat.xor_zero]
      cases b
      · simpa using hx
      · simp only [if_true]
        rw [valN_zip _ _ (by rw [List.length_append, hw]; rfl), poly_val, hx, Nat.xor_assoc, Nat.xor_comm _ 3988292384, ← Nat.xor_assoc]
/-- the document's sum -/
theorem doc_sum (l : List UInt8) : ∃ v : List Bool, v.length = 32 ∧ divK (startBits l) (dataBits l).length = List.replicate (dataBits l).length false ++ v ∧ valN (v.map not) = sumN l := by
  obtain ⟨v, hv, hd, hval⟩ := div_inv l (dataBits l).length (Nat.le_refl _)
  have hz : (allBits l).drop (dataBits l).length = List.replicate 32 false := by simp [allBits]
  have hz2 : (allBits l).drop ((dataBits l).length + 32) = [] := by simp [allBits]
  rw [hz2, List.append_nil] at hd
  rw [hz, List.take_length, List.take_of_length_le (by simp), valN_false, Nat.xor_zero, feed_data] at hval
  exact ⟨v, hv, hd, by rw [not_val v hv, hval]; rfl⟩
end Go.Proofs.YtcjdkanmbafjmaaDoor
