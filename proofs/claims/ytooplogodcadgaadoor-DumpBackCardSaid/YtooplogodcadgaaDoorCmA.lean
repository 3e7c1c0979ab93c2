/- Commands: plain law: figures, words, texts. -/
import Derived.Lib.AtoiAll
import Derived.Lib.ItoaNum
import Derived.Lib.SplitLaws
namespace Go.Proofs.YtooplogodcadgaaDoor
open Go.Lib

abbrev Bs := List UInt8
structure Cm where
  op : Bs
  id : Int
  at_ : Int
  n : Int
  data : Bs
  deriving DecidableEq
/-- what stands behind a word -/
def frm (op : Bs) : Option Bs :=
  if op = [114, 101, 97, 100] then some [105, 97, 110] else if op = [119, 114, 105, 116, 101] then some [105, 97, 100] else if op = [99, 114, 101, 97, 116, 101] then some [110]
  else if op = [100, 101, 108, 101, 116, 101] then some [105] else if op = [109, 101, 114, 103, 101] then some [105] else if op = [115, 116, 101, 112] then some [] else none
theorem frm_cases {op f : Bs} (h : frm op = some f) : (op = [114, 101, 97, 100] ∧ f = [105, 97, 110]) ∨ (op = [119, 114, 105, 116, 101] ∧ f = [105, 97, 100]) ∨ (op = [99, 114, 101, 97, 116, 101] ∧ f = [110]) ∨ (op = [100, 101, 108, 101, 116, 101] ∧ f = [105]) ∨ (op = [109, 101, 114, 103, 101] ∧ f = [105]) ∨ (op = [115, 116, 101, 112] ∧ f = []) := by
  unfold frm at h
  split at h
  · injection h with h; exact .inl ⟨‹_›, h.symm⟩
  · split at h
    · injection h with h; exact .inr (.inl ⟨‹_›, h.symm⟩)
    · split at h
      · injection h with h; exact .inr (.inr (.inl ⟨‹_›, h.symm⟩))
      · split at h
        · injection h with h; exact .inr (.inr (.inr (.inl ⟨‹_›, h.symm⟩)))
        · split at h
          · injection h with h; exact .inr (.inr (.inr (.inr (.inl ⟨‹_›, h.symm⟩))))
          · split at h
            · injection h with h; exact .inr (.inr (.inr (.inr (.inr ⟨‹_›, h.symm⟩))))
            · cases h
/-- figures -/
def hexd (v : Nat) : UInt8 := if v < 10 then UInt8.ofNat (48 + v) else UInt8.ofNat (87 + v)
def hex2 (b : UInt8) : Bs := [hexd (b.toNat / 16), hexd (b.toNat % 16)]
def hexL (s : Bs) : Bs := if s = [] then [45] else s.flatMap hex2
def figN (c : UInt8) : Option Nat := if 48 ≤ c.toNat ∧ c.toNat ≤ 57 then some (c.toNat - 48) else if 97 ≤ c.toNat ∧ c.toNat ≤ 102 then some (c.toNat - 87) else none
def unhex : Bs → Option Bs
  | [] => some []
  | [_] => none
  | a :: b :: t => match figN a, figN b, unhex t with
    | some x, some y, some r => some (UInt8.ofNat (16 * x + y) :: r)
    | _, _, _ => none
def bytL (w : Bs) : Option Bs := if w = [45] then some [] else if w = [] then none else unhex w
theorem fig_hex (v : Nat) (h : v < 16) : figN (hexd v) = some v := by
  have : ∀ v : Fin 16, figN (hexd v.val) = some v.val := by decide
  exact this ⟨v, h⟩
theorem fig_lt {c : UInt8} {x : Nat} (h : figN c = some x) : x < 16 := by
  unfold figN at h
  split at h
  · injection h with h; omega
  · split at h
    · injection h with h; omega
    · cases h
theorem hex_fig {c : UInt8} {x : Nat} (h : figN c = some x) : hexd x = c := by
  unfold figN at h
  apply UInt8.toNat_inj.1
  split at h
  · injection h with h
    subst h
    unfold hexd
    rw [if_pos (by omega), UInt8.toNat_ofNat']
    omega
  · split at h
    · injection h with h
      subst h
      unfold hexd
      rw [if_neg (by omega), UInt8.toNat_ofNat']
      omega
    · cases h
theorem fig_dash : figN 45 = none := by decide
theorem fig_blank : figN 32 = none := by decide
theorem byte_of (b : UInt8) : UInt8.ofNat (16 * (b.toNat / 16) + b.toNat % 16) = b := by
  apply UInt8.toNat_inj.1
  rw [UInt8.toNat_ofNat']
  have := b.toNat_lt
  omega
theorem unhex_hex : ∀ s : Bs, unhex (s.flatMap hex2) = some s
  | [] => rfl
  | b :: t => by
    have h1 := b.toNat_lt
    rw [List.flatMap_cons]
    show unhex (hexd (b.toNat / 16) :: hexd (b.toNat % 16) :: t.flatMap hex2) = _
    rw [unhex, fig_hex _ (by omega), fig_hex _ (by omega), unhex_hex t]
    dsimp only
    rw [byte_of]
theorem hex_unhex : ∀ {w d : Bs}, unhex w = some d → d.flatMap hex2 = w
  | [], d, h => by
    injection h with h
    subst h
    rfl
  | [_], d, h => by cases h
  | a :: b :: t, d, h => by
    rw [unhex] at h
    cases hx : figN a with
    | none => rw [hx] at h; cases h
    | some x =>
      cases hy : figN b with
      | none => rw [hx, hy] at h; cases h
      | some y =>
        cases hr : unhex t with
        | none => rw [hx, hy, hr] at h; cases h
        | some r =>
          rw [hx, hy, hr] at h
          dsimp only at h
          injection h with h
          subst h
          have h1 := fig_lt hx
          have h2 := fig_lt hy
          have e : (UInt8.ofNat (16 * x + y)).toNat = 16 * x + y := by rw [UInt8.toNat_ofNat']; omega
          rw [List.flatMap_cons, hex_unhex hr, hex2, e, show (16 * x + y) / 16 = x by omega, show (16 * x + y) % 16 = y by omega, hex_fig hx, hex_fig hy]
          rfl
theorem hex_ne {s : Bs} (h : s ≠ []) : s.flatMap hex2 ≠ [] ∧ s.flatMap hex2 ≠ [45] := by
  cases s with
  | nil => exact absurd rfl h
  | cons b t =>
    rw [List.flatMap_cons]
    exact ⟨(fun h => by cases h), fun h => by
      have := congrArg List.length h
      simp [hex2] at this⟩
theorem byt_hex (s : Bs) : bytL (hexL s) = some s := by
  unfold hexL
  split
  · subst_vars; rfl
  · rename_i h
    obtain ⟨h1, h2⟩ := hex_ne h
    unfold bytL
    rw [if_neg h2, if_neg h1, unhex_hex]
theorem hex_byt {w d : Bs} (h : bytL w = some d) : hexL d = w := by
  unfold bytL at h
  split at h
  · injection h with h
    subst h
    subst_vars
    rfl
  · split at h
    · cases h
    · rename_i h1 h2
      have e := hex_unhex h
      unfold hexL
      rw [if_neg, e]
      rintro rfl
      exact h2 e.symm
/-- numbers -/
def isDig (c : UInt8) : Prop := 48 ≤ c.toNat ∧ c.toNat ≤ 57
instance (c : UInt8) : Decidable (isDig c) := inferInstanceAs (Decidable (_ ∧ _))
def dval : Nat → Bs → Option Nat
  | acc, [] => some acc
  | acc, c :: t => if isDig c then dval (10 * acc + (c.toNat - 48)) t else none
theorem dval_append : ∀ (a b : Bs) (acc : Nat), dval acc (a ++ b) = (dval acc a).bind fun v => dval v b
  | [], _, _ => rfl
  | c :: t, b, acc => by
    rw [List.cons_append, dval, dval]
    split
    · exact dval_append t b _
    · rfl
theorem dval_ge : ∀ {w : Bs} {acc v : Nat}, dval acc w = some v → acc ≤ v
  | [], acc, v, h => by injection h with h; omega
  | c :: t, acc, v, h => by
    rw [dval] at h
    split at h
    · have := dval_ge h
      omega
    · cases h
def numL (w : Bs) (most : Nat) : Option Nat := if w = [] ∨ (1 < w.length ∧ w.head? = some 48) then none else match dval 0 w with | some v => if v ≤ most then some v else none | none => none
theorem dig_toNat {d : Nat} (h : d < 10) : (UInt8.ofNat (48 + d)).toNat = 48 + d := by rw [UInt8.toNat_ofNat']; omega
theorem dig_is {d : Nat} (h : d < 10) : isDig (UInt8.ofNat (48 + d)) := by
  unfold isDig
  rw [dig_toNat h]
  omega
theorem dval_dec (v : Nat) : dval 0 (decDigits v) = some v := by
  induction v using Nat.strongRecOn with
  | ind v ih =>
    rw [decDigits]
    split
    · rw [dval, if_pos (dig_is ‹_›), dig_toNat ‹_›, dval]
      congr 1
      omega
    · rw [dval_append, ih (v / 10) (by omega)]
      show dval (v / 10) [_] = _
      rw [dval, if_pos (dig_is (by omega)), dig_toNat (by omega), dval]
      congr 1
      omega
theorem dec_ne (v : Nat) : decDigits v ≠ [] := by
  rw [decDigits]
  split
  · exact fun h => by cases h
  · simp
theorem dec_digs (v : Nat) : ∀ c ∈ decDigits v, isDig c := by
  induction v using Nat.strongRecOn with
  | ind v ih =>
    rw [decDigits]
    split
    · intro c hc
      obtain rfl := List.mem_singleton.1 hc
      exact dig_is ‹_›
    · intro c hc
      rcases List.mem_append.1 hc with hc | hc
      · exact ih (v / 10) (by omega) c hc
      · obtain rfl := List.mem_singleton.1 hc
        exact dig_is (by omega)
theorem dec_head (v : Nat) : 1 < (decDigits v).length → (decDigits v).head? ≠ some 48 := by
  induction v using Nat.strongRecOn with
  | ind v ih =>
    rw [decDigits]
    split
    · intro h
      simp at h
    · intro _
      rename_i hv
      rw [List.head?_append]
      have h10 : 0 < v / 10 := by omega
      cases hd : (decDigits (v / 10)).head? with
      | none => exact absurd (List.head?_eq_none_iff.1 hd) (dec_ne _)
      | some c =>
        show some c ≠ some 48
        rw [← hd]
        by_cases hl : 1 < (decDigits (v / 10)).length
        · exact ih (v / 10) (by omega) hl
        · have : v / 10 < 10 := by
            rcases Nat.lt_or_ge (v / 10) 10 with h | h
            · exact h
            · exfalso
              apply hl
              rw [decDigits, dif_neg (by omega), List.length_append]
              have := List.length_pos_iff.2 (dec_ne (v / 10 / 10))
              simp
              omega
          rw [decDigits, dif_pos this]
          intro h
          simp only [List.head?_cons] at h
          injection h with h
          have := congrArg UInt8.toNat h
          rw [dig_toNat ‹_›] at this
          have e : (48 : UInt8).toNat = 48 := rfl
          omega
theorem num_dec {v most : Nat} (h : v ≤ most) : numL (decDigits v) most = some v := by
  unfold numL
  rw [if_neg, dval_dec]
  · dsimp only
    rw [if_pos h]
  · rintro (h1 | ⟨h1, h2⟩)
    · exact dec_ne _ h1
    · exact dec_head v h1 h2
theorem dec_of : ∀ (k : Nat) {w : Bs} {v : Nat}, w.length = k → w ≠ [] → ¬ (1 < w.length ∧ w.head? = some 48) → dval 0 w = some v → decDigits v = w
  | 0, w, v, hl, hne, _, _ => absurd (List.eq_nil_of_length_eq_zero hl) hne
  | k + 1, w, v, hl, hne, hh, hv => by
    obtain ⟨l, d, rfl⟩ : ∃ l d, w = l ++ [d] := ⟨w.dropLast, w.getLast hne, (List.dropLast_concat_getLast hne).symm⟩
    rw [dval_append] at hv
    cases hu : dval 0 l with
    | none => rw [hu] at hv; cases hv
    | some u =>
      rw [hu] at hv
      change dval u [d] = some v at hv
      rw [dval] at hv
      split at hv
      · rename_i hd
        injection hv with hv
        unfold isDig at hd
        by_cases hl0 : l = []
        · subst hl0
          injection hu with hu
          subst hu
          rw [decDigits, dif_pos (by omega)]
          show [_] = [d]
          congr 1
          apply UInt8.toNat_inj.1
          rw [UInt8.toNat_ofNat']
          omega
        · have hln : 0 < l.length := List.length_pos_iff.2 hl0
          have hhd : l.head? ≠ some 48 := by
            intro h
            apply hh
            rw [List.length_append, List.head?_append, h]
            exact ⟨by simp; omega, rfl⟩
          have hdu := dec_of k (w := l) (v := u) (by simp at hl; exact hl) hl0 (fun h => hhd h.2) hu
          have hu0 : 0 < u := by
            rcases Nat.eq_zero_or_pos u with h | h
            · subst h
              exfalso
              apply hhd
              rw [← hdu]
              decide +kernel
            · exact h
          rw [decDigits, dif_neg (by omega), show v / 10 = u by omega, hdu]
          congr 2
          apply UInt8.toNat_inj.1
          rw [UInt8.toNat_ofNat']
          omega
      · cases hv
theorem dec_num {w : Bs} {v most : Nat} (h : numL w most = some v) : w = decDigits v ∧ v ≤ most := by
  unfold numL at h
  split at h
  · cases h
  · rename_i hh
    cases hv : dval 0 w with
    | none => rw [hv] at h; cases h
    | some u =>
      rw [hv] at h
      dsimp only at h
      split at h
      · injection h with h
        subst h
        exact ⟨(dec_of _ rfl (fun h => hh (.inl h)) (fun h => hh (.inr h)) hv).symm, ‹_›⟩
      · cases h
theorem num_no {w : Bs} {most : Nat} (h : ∀ v, v ≤ most → w ≠ decDigits v) : numL w most = none := by
  cases hn : numL w most with
  | none => rfl
  | some v =>
    obtain ⟨h1, h2⟩ := dec_num hn
    exact absurd h1 (h v h2)
/-- Go's own reading of figures -/
theorem parse_dval : ∀ {w : Bs} {acc v : Nat}, dval acc w = some v → v < 18446744073709551616 → parseUint10 acc w = .ok v
  | [], acc, v, h, _ => by
    injection h with h
    subst h
    rfl
  | c :: t, acc, v, h, hv => by
    rw [dval] at h
    split at h
    · rename_i hd
      have hge := dval_ge h
      unfold isDig at hd
      rw [parseUint10, if_pos hd, if_neg (by omega), if_neg (by omega), show acc * 10 + (c.toNat - 48) = 10 * acc + (c.toNat - 48) by omega]
      exact parse_dval h hv
    · cases h
theorem dec_cons (v : Nat) : ∃ c t, decDigits v = c :: t ∧ isDig c := by
  cases h : decDigits v with
  | nil => exact absurd h (dec_ne v)
  | cons c t => exact ⟨c, t, rfl, dec_digs v c (by rw [h]; exact List.mem_cons_self ..)⟩
theorem atoi_dec {v : Nat} (hv : v < 9223372036854775808) : atoiAll (decDigits v) = .ok v := by
  obtain ⟨c, t, e, hd⟩ := dec_cons v
  have h1 := dval_dec v
  rw [e] at h1 ⊢
  unfold isDig at hd
  unfold atoiAll
  dsimp only
  rw [if_neg (by omega), parseMag, if_neg (fun h => by cases h), parse_dval h1 (by omega)]
  dsimp only
  rw [if_neg (by omega), if_neg (by omega), if_neg (by omega)]
theorem itoa_nat (v : Nat) : itoa (v : Int) = decDigits v := by
  unfold itoa
  rw [if_neg (by omega), Int.toNat_natCast]
/-- what Go's own reading, and its test, make of a word -/
def goodN (w : Bs) (most : Nat) (n : Int) : Bool := decide (0 ≤ n) && decide (n ≤ most) && decide (itoa n = w)
theorem good_num {w : Bs} {most : Nat} {n : Int} (h : atoiAll w = .ok n) (hm : most < 9223372036854775808) : (goodN w most n = true ↔ numL w most = some n.toNat ∧ 0 ≤ n) ∧ (goodN w most n = false ↔ numL w most = none) := by
  have key : goodN w most n = true ↔ numL w most = some n.toNat ∧ 0 ≤ n := by
    unfold goodN
    rw [Bool.and_eq_true, Bool.and_eq_true, decide_eq_true_iff, decide_eq_true_iff, decide_eq_true_iff]
    constructor
    · rintro ⟨⟨h1, h2⟩, h3⟩
      obtain ⟨v, rfl⟩ := Int.eq_ofNat_of_zero_le h1
      rw [itoa_nat] at h3
      rw [← h3, num_dec (by omega)]
      exact ⟨rfl, h1⟩
    · rintro ⟨h1, h2⟩
      obtain ⟨h3, h4⟩ := dec_num h1
      obtain ⟨v, rfl⟩ := Int.eq_ofNat_of_zero_le h2
      rw [Int.toNat_natCast] at h3 h4
      exact ⟨⟨h2, by omega⟩, by rw [itoa_nat, h3]⟩
  refine ⟨key, ?_⟩
  cases hn : numL w most with
  | none =>
    refine ⟨fun _ => rfl, fun _ => ?_⟩
    cases hg : goodN w most n with
    | false => rfl
    | true =>
      have := (key.1 hg).1
      rw [hn] at this
      cases this
  | some v =>
    refine ⟨fun hf => ?_, fun h => by cases h⟩
    obtain ⟨h3, h4⟩ := dec_num hn
    rw [h3, atoi_dec (by omega)] at h
    injection h with h
    subst h
    have := key.2 ⟨by rw [hn]; simp, by omega⟩
    rw [hf] at this
    cases this
theorem bad_num {w : Bs} {most : Nat} (h : ∀ n, atoiAll w ≠ .ok n) (hm : most < 9223372036854775808) : numL w most = none := num_no fun v hv e => h v (by rw [e]; exact atoi_dec (by omega))
/-- words, with one blank between -/
def spl : Bs → List Bs
  | [] => [[]]
  | c :: t => if c = 32 then [] :: spl t else match spl t with | h :: r => (c :: h) :: r | [] => [[c]]
theorem spl_ne : ∀ s : Bs, ∃ h r, spl s = h :: r
  | [] => ⟨[], [], rfl⟩
  | c :: t => by
    rw [spl]
    split
    · exact ⟨_, _, rfl⟩
    · obtain ⟨h, r, e⟩ := spl_ne t
      rw [e]
      exact ⟨_, _, rfl⟩
theorem spl_other {c : UInt8} {t h : Bs} {r : List Bs} (hc : c ≠ 32) (e : spl t = h :: r) : spl (c :: t) = (c :: h) :: r := by rw [spl, if_neg hc, e]
theorem spl_blank (t : Bs) : spl (32 :: t) = [] :: spl t := by rw [spl, if_pos rfl]
def joinL : List Bs → Bs
  | [] => []
  | [w] => w
  | w :: x :: t => w ++ 32 :: joinL (x :: t)
theorem join_spl : ∀ s : Bs, joinL (spl s) = s
  | [] => rfl
  | c :: t => by
    have ih := join_spl t
    obtain ⟨h, r, e⟩ := spl_ne t
    by_cases hc : c = 32
    · subst hc
      rw [spl_blank, e]
      rw [e] at ih
      show [] ++ 32 :: joinL (h :: r) = _
      rw [ih]
      rfl
    · rw [spl_other hc e]
      rw [e] at ih
      cases r with
      | nil =>
        show c :: h = c :: t
        rw [← ih]
        rfl
      | cons x r =>
        show (c :: h) ++ 32 :: joinL (x :: r) = c :: t
        rw [← ih]
        rfl
theorem spl_word : ∀ {w : Bs}, (32 : UInt8) ∉ w → ∀ s, spl (w ++ 32 :: s) = w :: spl s
  | [], _, s => spl_blank s
  | c :: t, h, s => by
    rw [List.cons_append]
    exact spl_other (fun e => h (by rw [e]; exact List.mem_cons_self ..)) (spl_word (fun h2 => h (List.mem_cons_of_mem _ h2)) s)
theorem spl_one : ∀ {w : Bs}, (32 : UInt8) ∉ w → spl w = [w]
  | [], _ => rfl
  | c :: t, h => spl_other (fun e => h (by rw [e]; exact List.mem_cons_self ..)) (spl_one (fun h2 => h (List.mem_cons_of_mem _ h2)))
theorem spl_join : ∀ {l : List Bs}, l ≠ [] → (∀ w ∈ l, (32 : UInt8) ∉ w) → spl (joinL l) = l
  | [], h, _ => absurd rfl h
  | [w], _, h => spl_one (h w (List.mem_singleton.2 rfl))
  | w :: x :: t, _, h => by
    show spl (w ++ 32 :: joinL (x :: t)) = _
    rw [spl_word (h w (List.mem_cons_self ..)), spl_join (fun h => by cases h) (fun y hy => h y (List.mem_cons_of_mem _ hy))]
theorem spl_behind : ∀ s : Bs, spl (s ++ [32]) = spl s ++ [[]]
  | [] => rfl
  | c :: t => by
    have ih := spl_behind t
    obtain ⟨h, r, e⟩ := spl_ne t
    rw [List.cons_append]
    by_cases hc : c = 32
    · subst hc
      rw [spl_blank, spl_blank, ih]
      rfl
    · rw [spl_other hc e, spl_other hc (ih.trans (by rw [e]; rfl))]
      rfl
theorem spl_len (s : Bs) : (spl s).length = s.count 32 + 1 := by
  induction s with
  | nil => rfl
  | cons c t ih =>
    obtain ⟨h, r, e⟩ := spl_ne t
    by_cases hc : c = 32
    · subst hc
      rw [spl_blank, List.length_cons, ih, List.count_cons_self]
    · rw [spl_other hc e, List.count_cons_of_ne hc, ← ih, e]
      rfl
theorem spl_size : ∀ (s : Bs), ∀ w ∈ spl s, w.length ≤ s.length
  | [], w, hw => by
    obtain rfl := List.mem_singleton.1 hw
    exact Nat.le_refl _
  | c :: t, w, hw => by
    have ih := spl_size t
    obtain ⟨h, r, e⟩ := spl_ne t
    by_cases hc : c = 32
    · subst hc
      rw [spl_blank] at hw
      rcases List.mem_cons.1 hw with rfl | hw
      · exact Nat.zero_le _
      · have := ih w hw
        rw [List.length_cons]
        omega
    · rw [spl_other hc e] at hw
      rcases List.mem_cons.1 hw with rfl | hw
      · have := ih h (by rw [e]; exact List.mem_cons_self ..)
        rw [List.length_cons, List.length_cons]
        omega
      · have := ih w (by rw [e]; exact List.mem_cons_of_mem _ hw)
        rw [List.length_cons]
        omega
theorem index_word : ∀ {w s : Bs}, (32 : UInt8) ∉ w → index (w ++ 32 :: s) [32] = w.length
  | [], s, _ => by simp [index]
  | c :: t, s, h => by
    have hc : ¬ (32 : UInt8) = c := fun e => h (by rw [← e]; exact List.mem_cons_self ..)
    have ih := index_word (w := t) (s := s) (fun h2 => h (List.mem_cons_of_mem _ h2))
    rw [List.cons_append, index, ih]
    have e1 : ([32] : Bs).isPrefixOf (c :: (t ++ 32 :: s)) = false := by
      show ((32 : UInt8) == c && ([] : Bs).isPrefixOf _) = false
      rw [beq_eq_false_iff_ne.2 hc]
      rfl
    rw [e1]
    have e2 : ((t.length : Int) == -1) = false := by
      rw [beq_eq_false_iff_ne]
      omega
    rw [e2]
    simp
theorem split_spl : ∀ (k : Nat) (s : Bs), s.count 32 = k → splitK [32] 0 k s = spl s
  | 0, s, h => by
    rw [splitK, spl_one]
    exact List.count_eq_zero.1 h
  | k + 1, s, h => by
    have hm : (32 : UInt8) ∈ s := List.count_pos_iff.1 (by omega)
    obtain ⟨w, t, rfl, hw⟩ := List.append_of_mem hm |>.elim fun a ha => ha.elim fun b hb => (by
      exact List.eq_append_cons_of_mem hm)
    have hi := index_word (s := t) hw
    have hc : t.count 32 = k := by
      rw [List.count_append, List.count_cons_self, List.count_eq_zero.2 hw] at h
      omega
    rw [splitK, hi, spl_word hw]
    have e2 : ((w.length : Int) == -1) = false := by
      rw [beq_eq_false_iff_ne]
      omega
    rw [e2]
    simp only [Bool.false_eq_true, if_false, Int.toNat_natCast, Nat.add_zero, List.length_singleton]
    rw [List.take_left, show w.length + 1 = (w ++ [32]).length by simp, show w ++ 32 :: t = (w ++ [32]) ++ t by simp, List.drop_left, split_spl k t hc]
/-- texts -/
def mostN : Nat := 2147483647
def takeL (c : Cm) (f : UInt8) (w : Bs) : Option Cm :=
  if f = 100 then (bytL w).map fun d => { c with data := d } else (numL w mostN).map fun (v : Nat) => if f = 105 then { c with id := (v : Int) } else if f = 97 then { c with at_ := (v : Int) } else { c with n := (v : Int) }
def takesL : Cm → Bs → List Bs → Option Cm
  | c, [], [] => some c
  | c, f :: fs, w :: ws => (takeL c f w).bind fun c' => takesL c' fs ws
  | _, _, _ => none
def parseL (s : Bs) : Option Cm := match spl s with
  | [] => none
  | op :: ws => (frm op).bind fun f => if ws.length = f.length then takesL ⟨op, 0, 0, 0, []⟩ f ws else none
def wordL (c : Cm) (f : UInt8) : Bs := if f = 100 then hexL c.data else itoa (if f = 105 then c.id else if f = 97 then c.at_ else c.n)
def textL (c : Cm) (f : Bs) : Bs := joinL (c.op :: f.map (wordL c))
def printL (c : Cm) : Option Bs := (frm c.op).bind fun f => if parseL (textL c f) = some c then some (textL c f) else none
def inM (n : Int) : Bool := decide (0 ≤ n) && decide (n ≤ 2147483647)
theorem inM_iff {n : Int} : inM n = true ↔ 0 ≤ n ∧ n ≤ 2147483647 := by simp [inM]
/-- the document's -/
def boundC (c : Cm) : Bool := inM c.id && (inM c.at_ && inM c.n)
def plainL (c : Cm) (f : Bs) : Cm := f.foldl (fun p l => if l = 105 then { p with id := c.id } else if l = 97 then { p with at_ := c.at_ } else if l = 110 then { p with n := c.n } else { p with data := c.data }) ⟨c.op, 0, 0, 0, []⟩
def printD (c : Cm) : Option Bs := (frm c.op).bind fun f => if boundC c = true ∧ plainL c f = c then some (textL c f) else none
theorem dec_blank (v : Nat) : (32 : UInt8) ∉ decDigits v := fun h => by
  have := dec_digs v _ h
  revert this
  decide
theorem itoa_blank (n : Int) : (32 : UInt8) ∉ itoa n := by
  unfold itoa
  split
  · intro h
    rcases List.mem_cons.1 h with h | h
    · revert h
      decide
    · exact dec_blank _ h
  · exact dec_blank _
theorem hexd_blank (v : Nat) (h : v < 16) : hexd v ≠ 32 := by
  have : ∀ v : Fin 16, hexd v.val ≠ 32 := by decide
  exact this ⟨v, h⟩
theorem hex_blank (s : Bs) : (32 : UInt8) ∉ hexL s := by
  unfold hexL
  split
  · decide
  · intro h
    obtain ⟨b, _, hb⟩ := List.mem_flatMap.1 h
    have h1 := b.toNat_lt
    unfold hex2 at hb
    rcases List.mem_cons.1 hb with hb | hb
    · exact hexd_blank _ (by omega) hb.symm
    · exact hexd_blank _ (by omega) (List.mem_singleton.1 hb).symm
theorem word_blank (c : Cm) (f : UInt8) : (32 : UInt8) ∉ wordL c f := by
  unfold wordL
  split
  · exact hex_blank _
  · exact itoa_blank _
theorem text_spl {c : Cm} {f : Bs} (h : frm c.op = some f) : spl (textL c f) = c.op :: f.map (wordL c) := by
  refine spl_join (fun h => by cases h) (fun w hw => ?_)
  rcases List.mem_cons.1 hw with rfl | hw
  · rcases frm_cases h with ⟨e, _⟩ | ⟨e, _⟩ | ⟨e, _⟩ | ⟨e, _⟩ | ⟨e, _⟩ | ⟨e, _⟩ <;> rw [e] <;> decide
  · obtain ⟨l, _, rfl⟩ := List.mem_map.1 hw
    exact word_blank c l
theorem parse_text {c : Cm} {f : Bs} (h : frm c.op = some f) : parseL (textL c f) = takesL ⟨c.op, 0, 0, 0, []⟩ f (f.map (wordL c)) := by
  unfold parseL
  rw [text_spl h]
  dsimp only
  rw [h]
  show (if _ then _ else _) = _
  rw [if_pos (by simp)]
theorem num_not {n : Int} (h : ¬ (0 ≤ n ∧ n ≤ 2147483647)) : numL (itoa n) mostN = none := num_no fun v hv e => h (by
  unfold itoa at e
  split at e
  · exact absurd (dec_digs v 45 (by rw [← e]; exact List.mem_cons_self ..)) (by decide)
  · have h1 := congrArg (dval 0) e
    rw [dval_dec, dval_dec] at h1
    injection h1 with h1
    unfold mostN at hv
    omega)
theorem num_cases (n : Int) : (inM n = true ∧ numL (itoa n) mostN = some n.toNat ∧ ((n.toNat : Nat) : Int) = n ∧ True) ∨ (inM n = false ∧ numL (itoa n) mostN = none ∧ True ∧ ((0 = n) = False)) := by
  by_cases h : 0 ≤ n ∧ n ≤ 2147483647
  · refine .inl ⟨inM_iff.2 h, ?_, Int.toNat_of_nonneg h.1, trivial⟩
    obtain ⟨v, rfl⟩ := Int.eq_ofNat_of_zero_le h.1
    rw [itoa_nat, num_dec (by unfold mostN; omega), Int.toNat_natCast]
  · refine .inr ⟨?_, num_not h, trivial, eq_false (fun e => h (by omega))⟩
    cases hb : inM n with
    | false => rfl
    | true => exact absurd (inM_iff.1 hb) h
theorem print_one {c : Cm} {f : Bs} (h : frm c.op = some f) : parseL (textL c f) = some c ↔ boundC c = true ∧ plainL c f = c := by
  rw [parse_text h]
  obtain ⟨op, id, at_, n, data⟩ := c
  have hd := byt_hex data
  rcases num_cases id with ⟨i1, i2, i3, i4⟩ | ⟨i1, i2, i3, i4⟩ <;> rcases num_cases at_ with ⟨a1, a2, a3, a4⟩ | ⟨a1, a2, a3, a4⟩ <;> rcases num_cases n with ⟨n1, n2, n3, n4⟩ | ⟨n1, n2, n3, n4⟩ <;>
    rcases frm_cases h with ⟨e, rfl⟩ | ⟨e, rfl⟩ | ⟨e, rfl⟩ | ⟨e, rfl⟩ | ⟨e, rfl⟩ | ⟨e, rfl⟩ <;> clear h <;> dsimp only at e <;> clear e <;>
    simp [takesL, takeL, wordL, plainL, boundC, hd, i1, i2, i3, i4, a1, a2, a3, a4, n1, n2, n3, n4]
theorem print_eq (c : Cm) : printD c = printL c := by
  unfold printD printL
  cases h : frm c.op with
  | none => rfl
  | some f =>
    show (if _ then _ else _) = (if _ then _ else _)
    by_cases hp : parseL (textL c f) = some c
    · rw [if_pos hp, if_pos ((print_one h).1 hp)]
    · rw [if_neg hp, if_neg (fun h2 => hp ((print_one h).2 h2))]
/-- there and back -/
theorem take_word {c c' : Cm} {f : UInt8} {w : Bs} (h : takeL c f w = some c') : wordL c' f = w ∧ c'.op = c.op := by
  unfold takeL at h
  unfold wordL
  by_cases h1 : f = 100
  · rw [if_pos h1] at h ⊢
    obtain ⟨d, hb, rfl⟩ := Option.map_eq_some_iff.1 h
    exact ⟨hex_byt hb, rfl⟩
  · rw [if_neg h1] at h ⊢
    obtain ⟨v, hn, h⟩ := Option.map_eq_some_iff.1 h
    have e := (dec_num hn).1
    by_cases h2 : f = 105
    · rw [if_pos h2] at h ⊢
      subst h
      exact ⟨by rw [itoa_nat, e], rfl⟩
    · rw [if_neg h2] at h ⊢
      by_cases h3 : f = 97
      · rw [if_pos h3] at h ⊢
        subst h
        exact ⟨by rw [itoa_nat, e], rfl⟩
      · rw [if_neg h3] at h ⊢
        subst h
        exact ⟨by rw [itoa_nat, e], rfl⟩
theorem takes_three {c c' : Cm} {f : Bs} {ws : List Bs} (hf : f = [105, 97, 110] ∨ f = [105, 97, 100] ∨ f = [110] ∨ f = [105] ∨ f = []) (h : takesL c f ws = some c') : f.map (wordL c') = ws ∧ c'.op = c.op := by
  have bind : ∀ {α β : Type} {o : Option α} {g : α → Option β} {b : β}, o.bind g = some b → ∃ a, o = some a ∧ g a = some b := by
    intro α β o g b h
    cases o with
    | none => cases h
    | some a => exact ⟨a, rfl, h⟩
  have hlen : ∀ {f : Bs} {ws : List Bs} {c : Cm}, takesL c f ws = some c' → ws.length = f.length := by
    intro f
    induction f with
    | nil =>
      intro ws c h
      cases ws with
      | nil => rfl
      | cons _ _ => cases h
    | cons a f ih =>
      intro ws c h
      cases ws with
      | nil => cases h
      | cons _ _ =>
        obtain ⟨c1, _, h⟩ := bind h
        rw [List.length_cons, List.length_cons, ih h]
  have hl := hlen h
  rcases hf with rfl | rfl | rfl | rfl | rfl
  · match ws, hl, h with
    | [x, y, z], _, h =>
      obtain ⟨c1, h1, h⟩ := bind h
      obtain ⟨c2, h2, h⟩ := bind h
      obtain ⟨c3, h3, h⟩ := bind h
      injection h with h
      subst h
      obtain ⟨w1, o1⟩ := take_word h1
      obtain ⟨w2, o2⟩ := take_word h2
      obtain ⟨w3, o3⟩ := take_word h3
      refine ⟨?_, o3.trans (o2.trans o1)⟩
      have t2 : c2.id = c1.id := by
        unfold takeL at h2
        rw [if_neg (by decide)] at h2
        obtain ⟨v, _, h2⟩ := Option.map_eq_some_iff.1 h2
        rw [← h2]
        rfl
      have t3 : c3.id = c2.id ∧ c3.at_ = c2.at_ := by
        unfold takeL at h3
        rw [if_neg (by decide)] at h3
        obtain ⟨v, _, h3⟩ := Option.map_eq_some_iff.1 h3
        rw [← h3]
        exact ⟨rfl, rfl⟩
      have e1 : wordL c3 105 = wordL c1 105 := by
        show itoa c3.id = itoa c1.id
        rw [t3.1, t2]
      have e2 : wordL c3 97 = wordL c2 97 := by
        show itoa c3.at_ = itoa c2.at_
        rw [t3.2]
      rw [List.map_cons, List.map_cons, List.map_cons, List.map_nil, e1, e2, w1, w2, w3]
  · match ws, hl, h with
    | [x, y, z], _, h =>
      obtain ⟨c1, h1, h⟩ := bind h
      obtain ⟨c2, h2, h⟩ := bind h
      obtain ⟨c3, h3, h⟩ := bind h
      injection h with h
      subst h
      obtain ⟨w1, o1⟩ := take_word h1
      obtain ⟨w2, o2⟩ := take_word h2
      obtain ⟨w3, o3⟩ := take_word h3
      refine ⟨?_, o3.trans (o2.trans o1)⟩
      have t2 : c2.id = c1.id := by
        unfold takeL at h2
        rw [if_neg (by decide)] at h2
        obtain ⟨v, _, h2⟩ := Option.map_eq_some_iff.1 h2
        rw [← h2]
        rfl
      have t3 : c3.id = c2.id ∧ c3.at_ = c2.at_ := by
        unfold takeL at h3
        rw [if_pos rfl] at h3
        obtain ⟨v, _, h3⟩ := Option.map_eq_some_iff.1 h3
        rw [← h3]
        exact ⟨rfl, rfl⟩
      have e1 : wordL c3 105 = wordL c1 105 := by
        show itoa c3.id = itoa c1.id
        rw [t3.1, t2]
      have e2 : wordL c3 97 = wordL c2 97 := by
        show itoa c3.at_ = itoa c2.at_
        rw [t3.2]
      rw [List.map_cons, List.map_cons, List.map_cons, List.map_nil, e1, e2, w1, w2, w3]
  · match ws, hl, h with
    | [x], _, h =>
      obtain ⟨c1, h1, h⟩ := bind h
      injection h with h
      subst h
      obtain ⟨w1, o1⟩ := take_word h1
      exact ⟨by rw [List.map_cons, List.map_nil, w1], o1⟩
  · match ws, hl, h with
    | [x], _, h =>
      obtain ⟨c1, h1, h⟩ := bind h
      injection h with h
      subst h
      obtain ⟨w1, o1⟩ := take_word h1
      exact ⟨by rw [List.map_cons, List.map_nil, w1], o1⟩
  · match ws, hl, h with
    | [], _, h =>
      injection h with h
      subst h
      exact ⟨rfl, rfl⟩
theorem frm_forms {op f : Bs} (h : frm op = some f) : f = [105, 97, 110] ∨ f = [105, 97, 100] ∨ f = [110] ∨ f = [105] ∨ f = [] := by
  rcases frm_cases h with ⟨_, rfl⟩ | ⟨_, rfl⟩ | ⟨_, rfl⟩ | ⟨_, rfl⟩ | ⟨_, rfl⟩ | ⟨_, rfl⟩ <;> simp
theorem parse_some {s : Bs} {c : Cm} (h : parseL s = some c) : ∃ f ws, spl s = c.op :: ws ∧ frm c.op = some f ∧ ws = f.map (wordL c) ∧ takesL ⟨c.op, 0, 0, 0, []⟩ f ws = some c := by
  obtain ⟨op, ws, e⟩ := spl_ne s
  unfold parseL at h
  rw [e] at h
  dsimp only at h
  cases hf : frm op with
  | none => rw [hf] at h; cases h
  | some f =>
    rw [hf] at h
    change (if _ then _ else _) = _ at h
    split at h
    · obtain ⟨h1, h2⟩ := takes_three (frm_forms hf) h
      have h2 : c.op = op := h2
      refine ⟨f, ws, by rw [h2]; exact e, by rw [h2]; exact hf, h1.symm, by rw [h2]; exact h⟩
    · cases h
theorem print_parse {s : Bs} {c : Cm} (h : parseL s = some c) : printL c = some s := by
  obtain ⟨f, ws, h1, h2, h3, h4⟩ := parse_some h
  have e : textL c f = s := by
    unfold textL
    rw [← h3, ← h1, join_spl]
  unfold printL
  rw [h2]
  show (if _ then _ else _) = _
  rw [e, if_pos h]
theorem parse_behind {s : Bs} {c : Cm} (h : parseL s = some c) : parseL (s ++ [32]) = none := by
  obtain ⟨f, ws, h1, h2, h3, h4⟩ := parse_some h
  unfold parseL
  rw [spl_behind, h1]
  show (frm c.op).bind _ = none
  rw [h2]
  show (if _ then _ else _) = _
  rw [if_neg]
  show ¬ (ws ++ [[]]).length = f.length
  rw [List.length_append, h3, List.length_map, List.length_singleton]
  omega
theorem parse_ahead (s : Bs) : parseL (32 :: s) = none := by
  unfold parseL
  rw [spl_blank]
  rfl
theorem print_back {c : Cm} {s : Bs} (h : printL c = some s) : parseL s = some c := by
  unfold printL at h
  cases hf : frm c.op with
  | none => rw [hf] at h; cases h
  | some f =>
    rw [hf] at h
    change (if _ then _ else _) = _ at h
    split at h
    · injection h with h
      subst h
      assumption
    · cases h
end Go.Proofs.YtooplogodcadgaaDoor
