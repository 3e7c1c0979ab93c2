/- There and back: what is joined is got; what is got is joined: plain law. -/
import Derived.Test.YtcjdkanmbafjmaaDoorOctK
namespace Go.Proofs.YtcjdkanmbafjmaaDoor

theorem lowL_cons (n k : Nat) : lowL n (k + 1) = UInt8.ofNat n :: lowL (n / 256) k := by
  unfold lowL
  rw [List.range_succ_eq_map, List.map_cons, List.map_map]
  congr 1
  · simp
  · refine List.map_congr_left fun i _ => ?_
    simp only [Function.comp]
    rw [Nat.div_div_eq_div_mul, Nat.succ_eq_add_one, Nat.pow_succ, Nat.mul_comm]
theorem numN_lowL : ∀ (k n : Nat), n < 256 ^ k → numN (lowL n k) = n
  | 0, n, h => by
    have : n = 0 := by simpa using h
    subst this
    rfl
  | k + 1, n, h => by
    rw [lowL_cons]
    show 256 * numN (lowL (n / 256) k) + (UInt8.ofNat n).toNat = n
    rw [numN_lowL k (n / 256) (by rw [Nat.pow_succ] at h; omega), UInt8.toNat_ofNat']
    omega
theorem lowL_numN : ∀ (c : List UInt8), lowL (numN c) c.length = c
  | [] => rfl
  | b :: c => by
    have hb := UInt8.toNat_lt b
    have e : numN (b :: c) = 256 * numN c + b.toNat := rfl
    rw [List.length_cons, lowL_cons, e]
    rw [show (256 * numN c + b.toNat) / 256 = numN c by omega, lowL_numN c]
    congr 1
    apply UInt8.toNat_inj.1
    rw [UInt8.toNat_ofNat']
    omega
theorem putL_ok (n : Nat) (z : Int) (hz : 0 ≤ z ∧ z ≤ 8) (h : (putL n z).2 = 0) : (putL n z).1 = lowL n z.toNat ∧ n < 256 ^ z.toNat := by
  unfold putL at h ⊢
  rw [if_neg (by omega)] at h ⊢
  split at h
  · cases h
  · rename_i h2
    rw [if_neg h2]
    refine ⟨rfl, ?_⟩
    have hp : 0 < 256 ^ z.toNat := Nat.pow_pos (by omega)
    exact (Nat.div_eq_zero_iff_lt hp).1 (Nat.eq_zero_of_not_pos h2)
theorem putL_num (c : List UInt8) (z : Int) (hz : 0 ≤ z ∧ z ≤ 8) (h : c.length = z.toNat) : putL (numN c) z = (c, 0) := by
  have hl := numN_lt c
  rw [h] at hl
  unfold putL
  rw [if_neg (by omega), if_neg (by rw [Nat.div_eq_of_lt hl]; omega), ← h, lowL_numN]
theorem catL_pre (zs : List Int) (l : List Nat) (k : Nat) : ∀ d, ∃ t, catL zs l (k + d) = catL zs l k ++ t
  | 0 => ⟨[], by simp⟩
  | d + 1 => by
    obtain ⟨t, ht⟩ := catL_pre zs l k d
    exact ⟨t ++ (putAt zs l (k + d)).1, by rw [← Nat.add_assoc, catL_succ, ht, List.append_assoc]⟩

theorem back_one (zs : List Int) (l : List Nat) (s : List UInt8) (h : (joinL zs l).2 = 0) : getL ((joinL zs l).1 ++ s) zs = (l, s, 0) := by
  unfold joinL at h ⊢
  split at h
  · cases h
  · rename_i h1
    rw [if_neg h1]
    split at h
    · rename_i hf
      rw [if_pos hf]
      have hlen : zs.length = l.length := by
        rcases Nat.decEq zs.length l.length with h2 | h2
        · exact absurd (.inl h2) h1
        · exact h2
      have hbad : badB zs = false := by
        cases hb : badB zs
        · rfl
        · exact absurd (.inr hb) h1
      have hgood := good_of zs hbad
      have hfit : ∀ i, (hi : i < l.length) → (putL l[i] (zs[i]'(by omega))).1 = lowL l[i] (zs[i]'(by omega)).toNat ∧ l[i] < 256 ^ (zs[i]'(by omega)).toNat := fun i hi => by
        refine putL_ok _ _ (hgood _ (List.getElem_mem _)) ?_
        rw [← putAt_eq zs l i (by omega) hi]
        rw [fitB, List.all_eq_true] at hf
        simpa using hf i (by simpa using hi)
      have hoff : ∀ k, k ≤ l.length → offN (natZ zs) k = (catL zs l k).length := by
        intro k
        induction k with
        | zero => intro _; simp [offN, catL]
        | succ k ih =>
          intro hk
          rw [catL_succ, List.length_append, ← ih (by omega), offN_succ (natZ zs) k (by simp [natZ]; omega), putAt_eq zs l k (by omega) (by omega), (hfit k (by omega)).1, lowL_len]
          simp [natZ]
      have hz : zs.length = l.length := hlen
      have hx : offN (natZ zs) zs.length = (catL zs l l.length).length := by rw [hz]; exact hoff _ (Nat.le_refl _)
      rw [getL, if_neg (by rw [hbad]; simp), if_pos (by rw [hx]; simp), hx, List.drop_left, hz]
      congr 1
      refine List.ext_getElem (by rw [numsK_len]) fun i h1 h2 => ?_
      rw [numsK_len] at h1
      obtain ⟨t, ht⟩ := catL_pre zs l (i + 1) (l.length - (i + 1))
      rw [show i + 1 + (l.length - (i + 1)) = l.length by omega, catL_succ] at ht
      have hzi : (natZ zs)[i]?.getD 0 = (zs[i]'(by omega)).toNat := by
        rw [natZ, List.getElem?_map, List.getElem?_eq_getElem (by omega)]
        rfl
      simp only [numsK, List.getElem_map, List.getElem_range]
      rw [ht, hoff i (by omega), List.append_assoc, List.append_assoc, List.drop_left, hzi, putAt_eq zs l i (by omega) h1, (hfit i h1).1]
      rw [List.take_left' (lowL_len _ _), numN_lowL _ _ (hfit i h1).2]
    · cases h

theorem back_two (s : List UInt8) (zs : List Int) (h : (getL s zs).2.2 = 0) : (joinL zs (getL s zs).1).2 = 0 ∧ (joinL zs (getL s zs).1).1 ++ (getL s zs).2.1 = s := by
  unfold getL at h ⊢
  split at h
  · cases h
  · rename_i hb
    rw [if_neg hb]
    split at h
    · rename_i hle
      rw [if_pos hle]
      have hbad : badB zs = false := by simpa using hb
      have hgood := good_of zs hbad
      have hnl : (natZ zs).length = zs.length := by simp [natZ]
      have hch : ∀ i, (hi : i < zs.length) → ((s.drop (offN (natZ zs) i)).take zs[i].toNat).length = zs[i].toNat := fun i hi => by
        have h1 := offN_le (natZ zs) (i + 1) (zs.length - (i + 1))
        rw [show i + 1 + (zs.length - (i + 1)) = zs.length by omega, offN_succ (natZ zs) i (by omega)] at h1
        have : (natZ zs)[i]'(by omega) = zs[i].toNat := by simp [natZ]
        rw [this] at h1
        simp
        omega
      have hput : ∀ i, (hi : i < zs.length) → putAt zs (numsK s (natZ zs) zs.length) i = ((s.drop (offN (natZ zs) i)).take zs[i].toNat, 0) := fun i hi => by
        rw [putAt_eq _ _ _ hi (by rw [numsK_len]; exact hi)]
        have hzi : (natZ zs)[i]?.getD 0 = zs[i].toNat := by
          rw [natZ, List.getElem?_map, List.getElem?_eq_getElem hi]
          rfl
        simp only [numsK, List.getElem_map, List.getElem_range]
        rw [hzi]
        exact putL_num _ _ (hgood _ (List.getElem_mem hi)) (hch i hi)
      have hcat : ∀ k, k ≤ zs.length → catL zs (numsK s (natZ zs) zs.length) k = s.take (offN (natZ zs) k) := by
        intro k
        induction k with
        | zero => intro _; simp [offN, catL]
        | succ k ih =>
          intro hk
          rw [catL_succ, ih (by omega), hput k (by omega), offN_succ (natZ zs) k (by omega)]
          have : (natZ zs)[k]'(by omega) = (zs[k]'(by omega)).toNat := by simp [natZ]
          rw [this, List.take_add]
      have hj := join_yes zs (numsK s (natZ zs) zs.length) (by rw [numsK_len]) hbad (fun j hj => by rw [numsK_len] at hj; rw [hput j hj])
      rw [hj]
      refine ⟨rfl, ?_⟩
      show catL zs _ _ ++ s.drop _ = s
      rw [numsK_len, hcat _ (Nat.le_refl _), List.take_append_drop]
    · cases h
theorem got_lt (s : List UInt8) (zs : List Int) : ∀ n ∈ (getL s zs).1, n < 18446744073709551616 := by
  intro n hn
  unfold getL at hn
  split at hn
  · cases hn
  · rename_i hb
    split at hn
    · have hbad : badB zs = false := by simpa using hb
      have hgood := good_of zs hbad
      simp only [numsK, List.mem_map, List.mem_range] at hn
      obtain ⟨i, hi, rfl⟩ := hn
      have hzi : (natZ zs)[i]?.getD 0 = zs[i].toNat := by
        rw [natZ, List.getElem?_map, List.getElem?_eq_getElem hi]
        rfl
      have hz := hgood _ (List.getElem_mem hi)
      rw [hzi]
      refine Nat.lt_of_lt_of_le (numN_lt _) ?_
      have : ((s.drop (offN (natZ zs) i)).take zs[i].toNat).length ≤ 8 := by simp; omega
      exact Nat.le_trans (Nat.pow_le_pow_right (by omega) this) (by decide)
    · cases hn
theorem got_len (s : List UInt8) (zs : List Int) : (getL s zs).1.length ≤ zs.length := by
  unfold getL
  split
  · simp
  · split
    · rw [numsK_len]; exact Nat.le_refl _
    · simp
theorem join_len (zs : List Int) (l : List Nat) : (joinL zs l).1.length ≤ 8 * l.length := by
  unfold joinL
  split
  · simp
  · split
    · exact catL_len _ _ _
    · simp
theorem got_rest (s : List UInt8) (zs : List Int) : (getL s zs).2.1.length ≤ s.length := by
  unfold getL
  split
  · simp
  · split
    · simp
    · simp
end Go.Proofs.YtcjdkanmbafjmaaDoor
