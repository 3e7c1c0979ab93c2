/- Dumps: plain law: lines by their signs #, and a slot's words one by one. -/
import Derived.Test.YtooplogodcadgaaDoorDuA
import Derived.Lib.Replace
namespace Go.Proofs.YtooplogodcadgaaDoor
open Go.Lib

theorem index_of {c : UInt8} : ∀ {w s : Bs}, c ∉ w → index (w ++ c :: s) [c] = w.length
  | [], s, _ => by simp [index]
  | d :: t, s, h => by
    have hc : ¬ c = d := fun e => h (by rw [← e]; exact List.mem_cons_self ..)
    have ih := index_of (w := t) (s := s) (fun h2 => h (List.mem_cons_of_mem _ h2))
    rw [List.cons_append, index, ih]
    have e1 : ([c] : Bs).isPrefixOf (d :: (t ++ c :: s)) = false := by
      show (c == d && ([] : Bs).isPrefixOf _) = false
      rw [beq_eq_false_iff_ne.2 hc]
      rfl
    rw [e1]
    have e2 : ((t.length : Int) == -1) = false := by
      rw [beq_eq_false_iff_ne]
      omega
    rw [e2]
    simp
/-- the first sign is replaced -/
theorem rep_hit {a t x : Bs} (h : (35 : UInt8) ∉ a) : replace (a ++ 35 :: t) [35] x 1 = a ++ x ++ t := by
  unfold replace
  by_cases hx : ([35] : Bs) = x
  · subst hx
    rw [if_pos (by simp)]
    simp
  · rw [if_neg (by simpa using hx)]
    have hn : replaceNum (a ++ 35 :: t) [35] 1 = 1 := by
      unfold replaceNum
      rw [count_one, List.count_append, List.count_cons_self, if_neg (by omega)]
      rfl
    rw [hn, replaceK_hit _ _ _ _ _ (index_of h), replaceK, List.take_left, List.drop_append]
    simp
def hashL : Bs → List Int → Bs
  | [], _ => []
  | c :: t, ns => if c = 35 then itoa (ns.headD 0) ++ hashL t ns.tail else c :: hashL t ns
def repsL (f : Bs) (ns : List Int) : Bs := ns.foldl (fun f n => replace f [35] (itoa n) 1) f
theorem itoa_hash (n : Int) : (35 : UInt8) ∉ itoa n := by
  have hd : ∀ v, (35 : UInt8) ∉ decDigits v := fun v h => by
    have := dec_digs v _ h
    revert this
    decide
  unfold itoa
  split
  · intro h
    rcases List.mem_cons.1 h with h | h
    · revert h
      decide
    · exact hd _ h
  · exact hd _
theorem reps_hash : ∀ {t a : Bs} {ns : List Int}, (35 : UInt8) ∉ a → t.count 35 = ns.length → repsL (a ++ t) ns = a ++ hashL t ns
  | [], a, ns, _, h => by
    have : ns = [] := List.length_eq_zero_iff.1 h.symm
    subst this
    rfl
  | c :: t, a, ns, ha, h => by
    by_cases hc : c = 35
    · subst hc
      rw [List.count_cons_self] at h
      match ns, h with
      | n :: ns, h =>
        have ih := reps_hash (t := t) (a := a ++ itoa n) (ns := ns) (fun hm => by
          rcases List.mem_append.1 hm with hm | hm
          · exact ha hm
          · exact itoa_hash n hm) (by simpa using h)
        rw [hashL, if_pos rfl, List.headD_cons, List.tail_cons, ← List.append_assoc, ← ih]
        unfold repsL
        rw [List.foldl_cons, rep_hit ha]
    · rw [List.count_cons_of_ne hc] at h
      have ih := reps_hash (t := t) (a := a ++ [c]) (ns := ns) (fun hm => by
        rcases List.mem_append.1 hm with hm | hm
        · exact ha hm
        · exact hc (List.mem_singleton.1 hm).symm) h
      rw [hashL, if_neg hc]
      simpa using ih
theorem reps_is {t : Bs} {ns : List Int} (h : t.count 35 = ns.length) : repsL t ns = hashL t ns := reps_hash (a := []) (by simp) h
/-- the forms' texts -/
def tD : Bs := [100, 105, 115, 107, 32, 35, 32, 111, 114, 105, 103, 105, 110, 32, 35, 32, 99, 104, 117, 110, 107, 32, 35]
def tE : Bs := [101, 110, 116, 114, 121, 32, 35, 32, 35]
def tU : Bs := [115, 108, 111, 116, 32, 35, 32, 117, 115, 101, 100, 32, 35, 32, 35, 32, 103, 101, 110, 32, 35, 32, 114, 111, 111, 109, 32, 35]
def tM : Bs := [115, 108, 111, 116, 32, 35, 32, 109, 101, 114, 103, 105, 110, 103, 32, 35, 32, 35, 32, 103, 101, 110, 32, 35, 32, 114, 111, 111, 109, 32, 35]
def tI : Bs := [32, 105, 110, 118, 97, 108, 105, 100]
def tS (mg inv : Bool) : Bs := (if mg then tM else tU) ++ (if inv then tI else [])
theorem spl_tD : spl tD = wD := by decide +kernel
theorem spl_tE : spl tE = wE := by decide +kernel
theorem spl_tS (mg inv : Bool) : spl (tS mg inv) = wS mg inv := by cases mg <;> cases inv <;> decide +kernel
theorem line_disk (a b c : Int) : hashL tD [a, b, c] = joinL (fillW wD [a, b, c]) := by
  simp [hashL, tD, fillW, wD, joinL]
theorem line_ent (a b : Int) : hashL tE [a, b] = joinL (fillW wE [a, b]) := by
  simp [hashL, tE, fillW, wE, joinL]
theorem line_slot (mg inv : Bool) (a b c d e : Int) : hashL (tS mg inv) [a, b, c, d, e] = joinL (fillW (wS mg inv) [a, b, c, d, e]) := by
  cases mg <;> cases inv <;> simp [hashL, tS, tU, tM, tI, fillW, wS, wU, joinL]
theorem line_inv (mg : Bool) (a b c d e : Int) : hashL (tS mg false) [a, b, c, d, e] ++ tI = hashL (tS mg true) [a, b, c, d, e] := by
  cases mg <;> simp [hashL, tS, tU, tM, tI]
/-- a slot's words behind 'slot', one by one -/
def numP (w : Bs) : Option Int := (numL w m32).map fun n => (n : Int)
theorem numP_nil : numP [] = none := rfl
def pSlot (ws : List Bs) : Option Sl :=
  (numP (ws.getD 0 [])).bind fun a => if ws.getD 1 [] = wU false ∨ ws.getD 1 [] = wU true then
    (numP (ws.getD 2 [])).bind fun b => (numP (ws.getD 3 [])).bind fun c => if ws.getD 4 [] = [103, 101, 110] then
      (numP (ws.getD 5 [])).bind fun d => if ws.getD 6 [] = [114, 111, 111, 109] then
        (numP (ws.getD 7 [])).bind fun e => if ws.length ≤ 8 then some ⟨a, b, c, d, e, if ws.getD 1 [] = wU true then 2 else 1, false, []⟩
          else if ws.getD 8 [] = [105, 110, 118, 97, 108, 105, 100] ∧ ws.length = 9 then some ⟨a, b, c, d, e, if ws.getD 1 [] = wU true then 2 else 1, true, []⟩ else none
      else none
    else none
  else none
theorem nums_len : ∀ {ws fs : List Bs}, ws.length ≠ fs.length → numsW ws fs = none
  | [], [], h => absurd rfl h
  | [], _ :: _, _ => rfl
  | _ :: _, [], _ => rfl
  | w :: ws, f :: fs, h => by
    have ih := nums_len (ws := ws) (fs := fs) (fun e => h (by rw [List.length_cons, List.length_cons, e]))
    rw [numsW, ih]
    split
    · cases numL w m32 <;> rfl
    · split <;> rfl
theorem pSlot_short {ws : List Bs} (h : ws.length < 8) : pSlot ws = none := by
  have h7 : ws.getD 7 [] = [] := by
    rw [List.getD_eq_getElem?_getD, List.getElem?_eq_none (by omega)]
    rfl
  unfold pSlot
  rw [h7, numP_nil]
  simp
theorem pSlot_long {ws : List Bs} (h : 9 < ws.length) : pSlot ws = none := by
  unfold pSlot
  have h1 : ¬ ws.length ≤ 8 := by omega
  have h2 : ¬ ws.length = 9 := by omega
  simp [h1, h2]
theorem slotW_len {ws : List Bs} (h1 : ws.length ≠ 9) (h2 : ws.length ≠ 10) : slotW ws = none := by
  have hl : ∀ mg inv, ws.length ≠ (wS mg inv).length := by
    intro mg inv
    cases mg <;> cases inv <;> simp [wS, h1, h2]
  unfold slotW
  rw [nums_len (hl _ _), nums_len (hl _ _), nums_len (hl _ _), nums_len (hl _ _)]
  rfl
theorem nums_map (w : Bs) (ws fs : List Bs) : numsW (w :: ws) ([35] :: fs) = (numP w).bind fun n => (numsW ws fs).map fun l => n :: l := by
  rw [numsW, if_pos rfl]
  unfold numP
  cases numL w m32 <;> rfl
theorem nums_word {f : Bs} (hf : f ≠ [35]) (w : Bs) (ws fs : List Bs) : numsW (w :: ws) (f :: fs) = if w = f then numsW ws fs else none := by
  rw [numsW, if_neg hf]
theorem slot_words (ws : List Bs) : slotW ([115, 108, 111, 116] :: ws) = pSlot ws := by
  by_cases h8 : ws.length = 8
  · match ws, h8 with
    | [a, u, b, c, g, d, r, e], _ =>
      have hi : ∀ mg, numsW [[115, 108, 111, 116], a, u, b, c, g, d, r, e] (wS mg true) = none := fun mg => nums_len (by cases mg <;> simp [wS])
      unfold slotW
      rw [hi, hi]
      unfold wS
      simp only [if_false, Bool.false_eq_true, List.append_nil]
      simp only [nums_word (f := [115, 108, 111, 116]) (by decide), if_true, nums_map]
      unfold pSlot
      simp only [List.getD_cons_zero, List.getD_cons_succ]
      cases numP a with
      | none => rfl
      | some a =>
        dsimp only [Option.bind_some]
        simp only [nums_word (f := wU false) (by decide), nums_word (f := wU true) (by decide), nums_map, nums_word (f := [103, 101, 110]) (by decide), nums_word (f := [114, 111, 111, 109]) (by decide)]
        cases numP b with
        | none => simp
        | some b =>
          cases numP c with
          | none => simp
          | some c =>
            cases numP d with
            | none => simp
            | some d =>
              cases numP e with
              | none => simp
              | some e =>
                by_cases hu : u = wU false
                · subst hu
                  by_cases hg : g = [103, 101, 110]
                  · by_cases hr : r = [114, 111, 111, 109]
                    · subst hg hr
                      rfl
                    · simp [hg, hr]
                  · simp [hg]
                · by_cases hm : u = wU true
                  · subst hm
                    by_cases hg : g = [103, 101, 110]
                    · by_cases hr : r = [114, 111, 111, 109]
                      · subst hg hr
                        rfl
                      · simp [hg, hr]
                    · simp [hg]
                  · simp [hu, hm]
  · by_cases h9 : ws.length = 9
    · match ws, h9 with
      | [a, u, b, c, g, d, r, e, i], _ =>
        have hi : ∀ mg, numsW [[115, 108, 111, 116], a, u, b, c, g, d, r, e, i] (wS mg false) = none := fun mg => nums_len (by cases mg <;> simp [wS])
        unfold slotW
        rw [hi, hi]
        unfold wS
        simp only [if_true, List.cons_append, List.nil_append]
        simp only [nums_word (f := [115, 108, 111, 116]) (by decide), if_true, nums_map]
        unfold pSlot
        simp only [List.getD_cons_zero, List.getD_cons_succ]
        cases numP a with
        | none => rfl
        | some a =>
          dsimp only [Option.bind_some]
          simp only [nums_word (f := wU false) (by decide), nums_word (f := wU true) (by decide), nums_map, nums_word (f := [103, 101, 110]) (by decide), nums_word (f := [114, 111, 111, 109]) (by decide), nums_word (f := [105, 110, 118, 97, 108, 105, 100]) (by decide)]
          cases numP b with
          | none => simp
          | some b =>
            cases numP c with
            | none => simp
            | some c =>
              cases numP d with
              | none => simp
              | some d =>
                cases numP e with
                | none => simp
                | some e =>
                  by_cases hu : u = wU false
                  · subst hu
                    by_cases hg : g = [103, 101, 110]
                    · by_cases hr : r = [114, 111, 111, 109]
                      · by_cases hv : i = [105, 110, 118, 97, 108, 105, 100]
                        · subst hg hr hv
                          rfl
                        · simp [hg, hr, hv]
                      · simp [hg, hr]
                    · simp [hg]
                  · by_cases hm : u = wU true
                    · subst hm
                      by_cases hg : g = [103, 101, 110]
                      · by_cases hr : r = [114, 111, 111, 109]
                        · by_cases hv : i = [105, 110, 118, 97, 108, 105, 100]
                          · subst hg hr hv
                            rfl
                          · simp [hg, hr, hv]
                        · simp [hg, hr]
                      · simp [hg]
                    · simp [hu, hm]
    · rw [slotW_len (by rw [List.length_cons]; omega) (by rw [List.length_cons]; omega)]
      rcases Nat.lt_or_ge ws.length 8 with h | h
      · rw [pSlot_short h]
      · rw [pSlot_long (by omega)]
/-- a word that is neither 'slot' -/
theorem slot_other {w : Bs} {ws : List Bs} (h : w ≠ [115, 108, 111, 116]) : slotW (w :: ws) = none := by
  have hl : ∀ mg inv, numsW (w :: ws) (wS mg inv) = none := fun mg inv => by
    unfold wS
    rw [List.cons_append, nums_word (by decide), if_neg h]
  unfold slotW
  rw [hl, hl, hl, hl]
  rfl
/-- an exception's words behind 'entry', one by one -/
def pEnt (ws : List Bs) : Option En := (numP (ws.getD 0 [])).bind fun a => (numP (ws.getD 1 [])).bind fun b => if ws.length ≤ 2 then some ⟨a, b⟩ else none
theorem ent_words (ws : List Bs) : (numsW ([101, 110, 116, 114, 121] :: ws) wE).map (fun ns => (⟨ns.getD 0 0, ns.getD 1 0⟩ : En)) = pEnt ws := by
  unfold wE
  rw [nums_word (by decide), if_pos rfl]
  match ws with
  | [] => rfl
  | [a] =>
    rw [nums_len (by simp)]
    unfold pEnt
    simp [numP_nil]
  | [a, b] =>
    rw [nums_map, nums_map]
    unfold pEnt
    simp only [List.getD_cons_zero, List.getD_cons_succ]
    cases numP a with
    | none => rfl
    | some a => cases numP b <;> rfl
  | a :: b :: c :: t =>
    rw [nums_len (by simp)]
    unfold pEnt
    simp
theorem ent_other {w : Bs} {ws : List Bs} (h : w ≠ [101, 110, 116, 114, 121]) : numsW (w :: ws) wE = none := by
  unfold wE
  rw [nums_word (by decide), if_neg h]
/-- the first line's words, one by one -/
def pHead (ws : List Bs) : Option (Int × Int × Int) :=
  if ws.getD 0 [] = [100, 105, 115, 107] then (numP (ws.getD 1 [])).bind fun a => if ws.getD 2 [] = [111, 114, 105, 103, 105, 110] then (numP (ws.getD 3 [])).bind fun b => if ws.getD 4 [] = [99, 104, 117, 110, 107] then (numP (ws.getD 5 [])).bind fun c => if ws.length ≤ 6 then some (a, b, c) else none else none else none else none
theorem head_words (ws : List Bs) : (numsW ws wD).map (fun ns => (ns.getD 0 0, ns.getD 1 0, ns.getD 2 0)) = pHead ws := by
  by_cases h6 : ws.length = 6
  · match ws, h6 with
    | [p, a, q, b, r, c], _ =>
      unfold wD
      rw [nums_word (by decide)]
      simp only [nums_map, nums_word (f := [111, 114, 105, 103, 105, 110]) (by decide), nums_word (f := [99, 104, 117, 110, 107]) (by decide)]
      unfold pHead
      simp only [List.getD_cons_zero, List.getD_cons_succ]
      cases numP a with
      | none => simp
      | some a =>
        cases numP b with
        | none => simp
        | some b =>
          cases numP c with
          | none => simp
          | some c =>
            by_cases hp : p = [100, 105, 115, 107]
            · by_cases hq : q = [111, 114, 105, 103, 105, 110]
              · by_cases hr : r = [99, 104, 117, 110, 107]
                · subst hp hq hr
                  rfl
                · simp [hp, hq, hr]
              · simp [hp, hq]
            · simp [hp]
  · rw [nums_len (by simpa [wD] using h6)]
    rcases Nat.lt_or_ge ws.length 6 with h | h
    · have h5 : ws.getD 5 [] = [] := by
        rw [List.getD_eq_getElem?_getD, List.getElem?_eq_none (by omega)]
        rfl
      unfold pHead
      rw [h5, numP_nil]
      simp
    · have h7 : ¬ ws.length ≤ 6 := by omega
      unfold pHead
      simp [h7]
end Go.Proofs.YtooplogodcadgaaDoor
