/- The sums are linear: plain law. -/
import Derived.Test.YtcjdkanmbafjmaaDoorCrcB
namespace Go.Proofs.YtcjdkanmbafjmaaDoor

theorem stepN_xor (a b : Nat) : stepN (a ^^^ b) = stepN a ^^^ stepN b := by
  have h1 : (a ^^^ b) / 2 = a / 2 ^^^ b / 2 := by
    have := Nat.shiftRight_xor_distrib (a := a) (b := b) (i := 1)
    simpa [Nat.shiftRight_eq_div_pow] using this
  have h2 : (a ^^^ b) % 2 = a % 2 ^^^ b % 2 := Nat.xor_mod_two_pow (n := 1)
  have e : ∀ x y p : Nat, x ^^^ p ^^^ (y ^^^ p) = x ^^^ y := fun x y p => by
    rw [Nat.xor_assoc, Nat.xor_comm p, Nat.xor_assoc, Nat.xor_self, Nat.xor_zero]
  unfold stepN
  rw [h1, h2]
  rcases Nat.mod_two_eq_zero_or_one a with ha | ha <;> rcases Nat.mod_two_eq_zero_or_one b with hb | hb <;> rw [ha, hb]
  · rw [if_neg (by decide), if_neg (by decide)]; rfl
  · rw [if_pos (by decide), if_neg (by decide), if_pos rfl, Nat.xor_assoc]
  · rw [if_pos (by decide), if_pos rfl, if_neg (by decide), Nat.xor_assoc, Nat.xor_comm (b / 2), ← Nat.xor_assoc]
  · rw [if_neg (by decide), if_pos rfl, if_pos rfl, e]
theorem stepsN_xor (a b : Nat) : ∀ k, stepsN k (a ^^^ b) = stepsN k a ^^^ stepsN k b
  | 0 => rfl
  | k + 1 => by rw [stepsN, stepsN_xor a b k, stepN_xor]; rfl
theorem xor4 (a b c d : Nat) : (a ^^^ b) ^^^ (c ^^^ d) = (a ^^^ c) ^^^ (b ^^^ d) := by
  rw [Nat.xor_assoc, ← Nat.xor_assoc b, Nat.xor_comm b c, Nat.xor_assoc c, ← Nat.xor_assoc a]
theorem byteN_xor (n m : Nat) (b c : UInt8) : byteN (n ^^^ m) (b ^^^ c) = byteN n b ^^^ byteN m c := by
  have h1 : (n ^^^ m) % 256 = n % 256 ^^^ m % 256 := Nat.xor_mod_two_pow (n := 8)
  have h2 : (n ^^^ m) / 256 = n / 256 ^^^ m / 256 := by
    have := Nat.shiftRight_xor_distrib (a := n) (b := m) (i := 8)
    simpa [Nat.shiftRight_eq_div_pow] using this
  unfold byteN tabN
  rw [h1, h2, UInt8.toNat_xor, xor4 (n % 256), stepsN_xor, xor4]

def xor3 : List UInt8 → List UInt8 → List UInt8 → List UInt8
  | a :: l, b :: m, c :: r => (a ^^^ b ^^^ c) :: xor3 l m r
  | _, _, _ => []
theorem rawN_xor3 : ∀ (l m r : List UInt8) (x y z : Nat), m.length = l.length → r.length = l.length → rawN (xor3 l m r) (x ^^^ y ^^^ z) = rawN l x ^^^ rawN m y ^^^ rawN r z
  | [], [], [], x, y, z, _, _ => rfl
  | a :: l, b :: m, c :: r, x, y, z, h1, h2 => by
    have := rawN_xor3 l m r (byteN x a) (byteN y b) (byteN z c) (by simpa using h1) (by simpa using h2)
    show rawN (xor3 l m r) (byteN (x ^^^ y ^^^ z) (a ^^^ b ^^^ c)) = rawN l (byteN x a) ^^^ rawN m (byteN y b) ^^^ rawN r (byteN z c)
    rw [byteN_xor, byteN_xor, this]
theorem sumN_xor3 (l m r : List UInt8) (h1 : m.length = l.length) (h2 : r.length = l.length) : sumN (xor3 l m r) = sumN l ^^^ sumN m ^^^ sumN r := by
  have := rawN_xor3 l m r 4294967295 4294967295 4294967295 h1 h2
  have e : (4294967295 ^^^ 4294967295 ^^^ 4294967295 : Nat) = 4294967295 := by decide
  rw [e] at this
  unfold sumN
  rw [this]
  rw [xor4 4294967295, xor4 (4294967295 ^^^ 4294967295), e]
end Go.Proofs.YtcjdkanmbafjmaaDoor
