/- Tables: the law TableBack: what it needs. -/
import Derived.Test.YtfidgmpeiabhiaaTb4
namespace Go.Proofs.Ytfidgmpeiabhiaa
open Go.RowKit Go.Maps

theorem law_pages' (W : World) (n₀ n₁ : Nat) (t : Tb) (A : Option Addr) (n c : Nat) (p : List Int) (hn : p.length = n) (h : TbAt n₀ W t p) (hd : DtAt n₁ W (.slice A n c) p) :
    Calls Try.prog 13 #[tbV t, .slice A n c] W (PagesPost p W) := by
  subst hn
  exact law_pages W n₀ n₁ t A c p h hd
theorem rf_Copy' (W : World) (n₀ : Nat) (A : Option Addr) (n c : Nat) (p : List Int) (hn : p.length = n) (hlen : n ≤ 1048576) (h : DtAt n₀ W (.slice A n c) p) :
    Calls Try.prog 15 #[.slice A n c] W fun e w' => ∃ A' c', e = .returned (.slice A' n c') ∧ DtAt W.heap.size w' (.slice A' n c') p ∧ Kept [] W w' := by
  subst hn
  exact rf_Copy W n₀ A c p h hlen
theorem padP_take (p : List Int) : (padP p).take p.length = p := by
  rw [padP, List.take_append_of_le_length (Nat.le_refl _), List.take_length]
theorem padP_good {p : List Int} (h : Tok p) : goodL p.length (padP p) := by
  have hat : ∀ j, (hj : j < (padP p).length) → (padP p)[j] = p[j]?.getD (-1) := fun j hj => by
    have := padP_at p j (by rw [padP_len] at hj; exact hj)
    rw [List.getElem?_eq_getElem hj] at this
    injection this
  refine ⟨fun j hj => ?_, fun i j hi hj hij e => ?_⟩
  · rw [hat j hj]
    by_cases h1 : j < p.length
    · rw [List.getElem?_eq_getElem h1]
      have := h.lo p[j] (List.getElem_mem _)
      by_cases h2 : 0 ≤ p[j]
      · exact .inr ⟨rightB_iff.2 ⟨h2, this.2⟩, h1⟩
      · refine .inl ?_
        show p[j] = -1
        omega
    · rw [List.getElem?_eq_none (by omega)]
      exact .inl rfl
  · rw [hat i hi, hat j hj] at e
    rw [hat i hi]
    by_cases h1 : i < p.length
    · rw [List.getElem?_eq_getElem h1] at e ⊢
      by_cases h2 : j < p.length
      · rw [List.getElem?_eq_getElem h2] at e
        rcases Int.lt_or_le p[i] 0 with h3 | h3
        · exact h3
        · have := h.one i j h1 h2 e h3
          omega
      · rw [List.getElem?_eq_none (by omega)] at e
        have e2 : p[i] = -1 := e
        show p[i] < 0
        omega
    · rw [List.getElem?_eq_none (by omega)]
      decide
theorem load_back (w : World) (b : Nat) (A : Option Addr) (n c : Nat) (p : List Int) (hp : Tok p) (hn : p.length = n) (hlen : n ≤ 1048576) (hd : DtAt b w (.slice A (padP p).length c) (padP p)) :
    Calls Try.prog 11 #[.int .i64 n, .slice A (padP p).length c] w fun e w' => ∃ t2, e = .returned (.tuple #[tbV t2, .int .i64 0]) ∧ TbAt w.heap.size w' t2 p ∧ Kept [] w w' := by
  subst hn
  have hpl : (padP p).length ≤ 1048600 := by
    rw [padP_len, nPg]
    omega
  have hs : sizeL (p.length : Int) (padP p) := ⟨by omega, by omega, by rw [Int.toNat_natCast, padP_len]; rfl⟩
  have hg := padP_good hp
  refine (tb_Load w p.length A c (padP p) (Rd.of_own hd) (by simp only [maxLen]; omega) (fun x hx => ?_)).mono ?_
  · obtain ⟨j, hj, rfl⟩ := List.getElem_of_mem hx
    unfold wf64
    rcases hg.1 j hj with h | ⟨h, _⟩
    · omega
    · have := rightB_iff.1 h
      omega
  · rintro e w' ⟨k, ⟨h1, _⟩ | ⟨_, h1, _⟩ | ⟨_, _, t, he, hT⟩⟩
    · exact absurd hs h1
    · rw [Int.toNat_natCast] at h1
      exact absurd hg h1
    · rw [Int.toNat_natCast, padP_take] at hT
      exact ⟨t, he, hT, k⟩
/-- where a table's blocks are -/
def TbIn (t : Tb) (a b : Nat) : Prop := (a ≤ t.tb ∧ t.tb < b) ∧ (a ≤ t.bm ∧ t.bm < b) ∧ ∀ k, t.v.ownBlock = some k → a ≤ k ∧ k < b
theorem TbAt.in_ {n₀ : Nat} {W : World} {t : Tb} {p : List Int} (h : TbAt n₀ W t p) : TbIn t n₀ W.heap.size :=
  ⟨⟨h.lo.1, h.tb.lt⟩, ⟨h.lo.2, h.mp.lt⟩, fun k hk => h.pl.lt k hk⟩
def DtIn (A : Option Addr) (a b : Nat) : Prop := ∀ k, A.map (·.block) = some k → a ≤ k ∧ k < b
theorem DtAt.in_ {n₀ n c : Nat} {W : World} {A : Option Addr} {p : List Int} (h : DtAt n₀ W (.slice A n c) p) : DtIn A n₀ W.heap.size :=
  fun k hk => h.lt k (by rw [own_slice_block]; exact hk)
theorem TbIn.mem {t : Tb} {a b : Nat} (h : TbIn t a b) {x : Nat} (hx : x ∈ t.bm :: t.v.ownBlock.toList) : a ≤ x ∧ x < b := by
  rcases List.mem_cons.1 hx with e | hx
  · rw [e]
    exact h.2.1
  · exact h.2.2 x (Option.mem_toList.1 hx)
theorem act_mem {t : Tb} {A : Option Addr} {a b c d : Nat} (h : TbIn t a b) (hd : DtIn A c d) {x : Nat} (hx : x ∈ actB t A) : (a ≤ x ∧ x < b) ∨ (c ≤ x ∧ x < d) := by
  rcases List.mem_append.1 hx with hx | hx
  · exact .inl (h.mem hx)
  · exact .inr (hd x (Option.mem_toList.1 hx))
theorem TbAt.far {n₀ : Nat} {W W' : World} {t : Tb} {p : List Int} {ls : List Nat} {a b : Nat} (h : TbAt n₀ W t p) (k : Kept ls W W') (hi : TbIn t a b) (hl : ∀ x ∈ ls, x < a ∨ b ≤ x) : TbAt n₀ W' t p :=
  h.kept k (fun x hx => by
    obtain ⟨h1, h2, h3⟩ := hi
    have h4 := hl x hx
    refine ⟨by omega, by omega, fun e => ?_⟩
    have := h3 x e
    omega)
theorem DtAt.far {n₀ n c : Nat} {W W' : World} {A : Option Addr} {p : List Int} {ls : List Nat} {a b : Nat} (h : DtAt n₀ W (.slice A n c) p) (k : Kept ls W W') (hi : DtIn A a b) (hl : ∀ x ∈ ls, x < a ∨ b ≤ x) : DtAt n₀ W' (.slice A n c) p :=
  k.owns h (fun j hj hm => by
    rw [own_slice_block] at hj
    have h1 := hi j hj
    have h2 := hl j hm
    omega)
theorem apart_in {t : Tb} {A : Option Addr} {a b c d : Nat} (h : TbIn t a b) (hd : DtIn A c d) (hl : b ≤ c) : Apart t A := fun x hx => by
  obtain ⟨h1, h2, h3⟩ := h
  have h4 := hd x hx
  refine ⟨by omega, by omega, fun e => ?_⟩
  have := h3 x e
  omega
end Go.Proofs.Ytfidgmpeiabhiaa
