/- A byte in the place of another one is found: plain law. -/
import Derived.Test.YtcjdkanmbafjmaaDoorCrcC
import Derived.Test.YtcjdkanmbafjmaaDoorCrcE
namespace Go.Proofs.YtcjdkanmbafjmaaDoor

theorem tab_zero : ∀ i < 256, tabN i / 16777216 = 0 → i = 0 := by decide +kernel
theorem xor_zero_eq (a b : Nat) (h : a ^^^ b = 0) : a = b := by
  have : a ^^^ b ^^^ b = b := by rw [h, Nat.zero_xor]
  rwa [Nat.xor_assoc, Nat.xor_self, Nat.xor_zero] at this
theorem xor_move (a b c d : Nat) (h : a ^^^ b = c ^^^ d) : a ^^^ c = b ^^^ d := by
  have : (a ^^^ b) ^^^ (c ^^^ d) = 0 := by rw [h, Nat.xor_self]
  rw [xor4] at this
  exact xor_zero_eq _ _ this
theorem byteN_inj (n m : Nat) (b c : UInt8) (hn : n < 4294967296) (hm : m < 4294967296) (h : byteN n b = byteN m c) : n % 256 ^^^ b.toNat = m % 256 ^^^ c.toNat ∧ n / 256 = m / 256 := by
  have hi : n % 256 ^^^ b.toNat < 2 ^ 8 := Nat.xor_lt_two_pow (by omega) (UInt8.toNat_lt b)
  have hj : m % 256 ^^^ c.toNat < 2 ^ 8 := Nat.xor_lt_two_pow (by omega) (UInt8.toNat_lt c)
  unfold byteN at h
  generalize n % 256 ^^^ b.toNat = i at *
  generalize m % 256 ^^^ c.toNat = j at *
  have h1 := xor_move _ _ _ _ h
  have h2 : tabN (i ^^^ j) = n / 256 ^^^ m / 256 := by rw [tabN, stepsN_xor]; exact h1
  have h3 : n / 256 ^^^ m / 256 < 2 ^ 24 := Nat.xor_lt_two_pow (by omega) (by omega)
  have h4 : i ^^^ j = 0 := tab_zero _ (Nat.xor_lt_two_pow (n := 8) hi hj) (by rw [h2]; omega)
  refine ⟨xor_zero_eq _ _ h4, xor_zero_eq _ _ ?_⟩
  rw [← h2, h4]
  decide +kernel
theorem byteN_inj_n (n m : Nat) (b : UInt8) (hn : n < 4294967296) (hm : m < 4294967296) (h : byteN n b = byteN m b) : n = m := by
  obtain ⟨h1, h2⟩ := byteN_inj n m b b hn hm h
  have h3 := xor_move _ _ _ _ h1
  rw [Nat.xor_self] at h3
  have h4 := xor_zero_eq _ _ h3
  omega
theorem byteN_inj_b (n : Nat) (b c : UInt8) (hn : n < 4294967296) (h : byteN n b = byteN n c) : b = c := by
  obtain ⟨h1, _⟩ := byteN_inj n n b c hn hn h
  have h3 := xor_move _ _ _ _ h1
  rw [Nat.xor_self] at h3
  exact UInt8.toNat_inj.1 (xor_zero_eq _ _ h3.symm)
theorem rawN_inj (l : List UInt8) : ∀ (n m : Nat), n < 4294967296 → m < 4294967296 → rawN l n = rawN l m → n = m := by
  induction l with
  | nil => intro n m _ _ h; exact h
  | cons b l ih => intro n m hn hm h; exact byteN_inj_n n m b hn hm (ih _ _ (byteN_lt n b hn) (byteN_lt m b hm) h)
theorem rawN_append (l m : List UInt8) (n : Nat) : rawN (l ++ m) n = rawN m (rawN l n) := List.foldl_append
theorem sumN_one (l r : List UInt8) (b c : UInt8) (h : sumN (l ++ b :: r) = sumN (l ++ c :: r)) : b = c := by
  have h1 : rawN (l ++ b :: r) 4294967295 = rawN (l ++ c :: r) 4294967295 := by
    have := xor_move _ _ _ _ h
    rw [Nat.xor_self] at this
    exact xor_zero_eq _ _ this.symm
  rw [rawN_append, rawN_append] at h1
  have hl := rawN_lt l 4294967295 (by omega)
  have h2 := rawN_inj r _ _ (byteN_lt _ b hl) (byteN_lt _ c hl) h1
  exact byteN_inj_b _ b c hl h2
theorem lowL_four (n m : Nat) (hn : n < 4294967296) (hm : m < 4294967296) (h : lowL n 4 = lowL m 4) : n = m := by
  have e : ∀ k, lowL k 4 = [UInt8.ofNat (k / 1), UInt8.ofNat (k / 256), UInt8.ofNat (k / 65536), UInt8.ofNat (k / 16777216)] := fun k => by
    simp [lowL, List.range_succ]
  rw [e, e] at h
  injection h with a h
  injection h with b h
  injection h with c h
  injection h with d h
  have a := congrArg UInt8.toNat a
  have b := congrArg UInt8.toNat b
  have c := congrArg UInt8.toNat c
  have d := congrArg UInt8.toNat d
  simp only [UInt8.toNat_ofNat'] at a b c d
  omega

/-- what was sealed, with one byte in the place of another one -/
theorem open_turned (p : List UInt8) (k : Nat) (c : UInt8) (hk : k < p.length + 4) (hne : (p ++ lowL (sumN p) 4).take k ++ c :: (p ++ lowL (sumN p) 4).drop (k + 1) ≠ p ++ lowL (sumN p) 4) :
    openL ((p ++ lowL (sumN p) 4).take k ++ c :: (p ++ lowL (sumN p) 4).drop (k + 1)) = ([], 31) := by
  have hq := lowL_len (sumN p) 4
  generalize hQ : lowL (sumN p) 4 = q at *
  have hlen : ((p ++ q).take k ++ c :: (p ++ q).drop (k + 1)).length = p.length + 4 := by
    simp [hq]; omega
  rw [openL, if_neg (by omega), hlen, show p.length + 4 - 4 = p.length by omega, if_neg]
  intro h
  by_cases hkp : k < p.length
  · obtain ⟨l, b, r, rfl, rfl⟩ : ∃ l b r, p = l ++ b :: r ∧ l.length = k := by
      refine ⟨p.take k, p[k], p.drop (k + 1), ?_, by simp; omega⟩
      rw [← List.drop_eq_getElem_cons hkp, List.take_append_drop]
    have e1 : (l ++ b :: r ++ q).take l.length = l := by simp
    have e2 : (l ++ b :: r ++ q).drop (l.length + 1) = r ++ q := by
      rw [show l ++ b :: r ++ q = (l ++ [b]) ++ (r ++ q) by simp, show l.length + 1 = (l ++ [b]).length by simp, List.drop_left]
    rw [e1, e2] at h hne
    have e3 : (l ++ c :: (r ++ q)).take (l ++ b :: r).length = l ++ c :: r := by
      rw [show l ++ c :: (r ++ q) = (l ++ c :: r) ++ q by simp, show (l ++ b :: r).length = (l ++ c :: r).length by simp, List.take_left]
    have e4 : (l ++ c :: (r ++ q)).drop (l ++ b :: r).length = q := by
      rw [show l ++ c :: (r ++ q) = (l ++ c :: r) ++ q by simp, show (l ++ b :: r).length = (l ++ c :: r).length by simp, List.drop_left]
    rw [e3, e4, ← hQ] at h
    have h2 := sumN_one l r _ _ (lowL_four _ _ (sumN_lt _) (sumN_lt _) h)
    exact hne (by rw [h2]; simp)
  · obtain ⟨j, rfl⟩ : ∃ j, k = p.length + j := ⟨k - p.length, by omega⟩
    have e1 : (p ++ q).take (p.length + j) = p ++ q.take j := by rw [List.take_append, List.take_of_length_le (by omega)]; simp
    rw [e1] at h hne
    have e3 : (p ++ q.take j ++ c :: (p ++ q).drop (p.length + j + 1)).take p.length = p := by simp [List.append_assoc]
    have e4 : (p ++ q.take j ++ c :: (p ++ q).drop (p.length + j + 1)).drop p.length = q.take j ++ c :: (p ++ q).drop (p.length + j + 1) := by simp [List.append_assoc]
    rw [e3, e4, hQ] at h
    exact hne (by rw [List.append_assoc, ← h])
theorem open_sealed (p : List UInt8) : openL (p ++ lowL (sumN p) 4) = (p, 0) := by
  have hq := lowL_len (sumN p) 4
  rw [openL, if_neg (by simp; omega)]
  have : (p ++ lowL (sumN p) 4).length - 4 = p.length := by simp [hq]
  rw [this, List.take_left, List.drop_left, if_pos rfl]
end Go.Proofs.YtcjdkanmbafjmaaDoor
