/- Dumps: plain law: lines with numbers, reports there and back. -/
import Derived.Test.YtooplogodcadgaaDoorCmA
namespace Go.Proofs.YtooplogodcadgaaDoor
open Go.Lib

structure En where
  o : Int
  i : Int
  deriving DecidableEq
structure Sl where
  id : Int
  st : Int
  len : Int
  gen : Int
  room : Int
  state : Int
  inv : Bool
  ents : List En
  deriving DecidableEq
structure Rp where
  sec : Int
  org : Int
  chk : Int
  lines : List Sl
  deriving DecidableEq
def m32 : Nat := 4294967295
def in32 (n : Int) : Bool := decide (0 ≤ n) && decide (n ≤ 4294967295)
theorem in32_iff {n : Int} : in32 n = true ↔ 0 ≤ n ∧ n ≤ 4294967295 := by simp [in32]
def numsW : List Bs → List Bs → Option (List Int)
  | [], [] => some []
  | w :: ws, f :: fs => if f = [35] then (numL w m32).bind fun n => (numsW ws fs).map fun l => (n : Int) :: l else if w = f then numsW ws fs else none
  | _, _ => none
def fillW : List Bs → List Int → List Bs
  | [], _ => []
  | f :: fs, ns => if f = [35] then itoa (ns.headD 0) :: fillW fs ns.tail else f :: fillW fs ns
theorem nums_fill : ∀ {fs : List Bs} {ns : List Int}, ns.length = fs.count [35] → (∀ n ∈ ns, in32 n = true) → numsW (fillW fs ns) fs = some ns
  | [], [], _, _ => rfl
  | [], _ :: _, h, _ => by cases h
  | f :: fs, ns, h, hr => by
    by_cases hf : f = [35]
    · subst hf
      rw [List.count_cons_self] at h
      match ns, h, hr with
      | n :: t, h, hr =>
        obtain ⟨h0, h1⟩ := in32_iff.1 (hr n List.mem_cons_self)
        obtain ⟨k, rfl⟩ : ∃ k : Nat, n = (k : Int) := ⟨n.toNat, by omega⟩
        have ih := nums_fill (fs := fs) (ns := t) (by simpa using h) (fun m hm => hr m (List.mem_cons_of_mem _ hm))
        rw [fillW, if_pos rfl, numsW, if_pos rfl, List.headD_cons, List.tail_cons, itoa_nat, num_dec (by unfold m32; omega), ih]
        rfl
    · rw [List.count_cons_of_ne hf] at h
      rw [fillW, if_neg hf, numsW, if_neg hf, if_pos rfl]
      exact nums_fill h hr
theorem fill_nums : ∀ {fs ws : List Bs} {ns : List Int}, numsW ws fs = some ns → fillW fs ns = ws ∧ ns.length = fs.count [35] ∧ ∀ n ∈ ns, in32 n = true
  | [], [], ns, h => by
    injection h with h
    subst h
    exact ⟨rfl, rfl, fun n hn => by cases hn⟩
  | [], _ :: _, _, h => by cases h
  | _ :: _, [], _, h => by cases h
  | f :: fs, w :: ws, ns, h => by
    rw [numsW] at h
    by_cases hf : f = [35]
    · subst hf
      rw [if_pos rfl] at h
      cases hn : numL w m32 with
      | none => rw [hn] at h; cases h
      | some n =>
        rw [hn] at h
        obtain ⟨t, ht, rfl⟩ := Option.map_eq_some_iff.1 h
        obtain ⟨h1, h2, h3⟩ := fill_nums ht
        obtain ⟨h4, h5⟩ := dec_num hn
        unfold m32 at h5
        refine ⟨by rw [fillW, if_pos rfl, List.headD_cons, List.tail_cons, h1, itoa_nat, ← h4], by rw [List.length_cons, h2, List.count_cons_self], fun m hm => ?_⟩
        rcases List.mem_cons.1 hm with rfl | hm
        · exact in32_iff.2 (by omega)
        · exact h3 m hm
    · rw [if_neg hf] at h
      by_cases hw : w = f
      · subst hw
        rw [if_pos rfl] at h
        obtain ⟨h1, h2, h3⟩ := fill_nums h
        exact ⟨by rw [fillW, if_neg hf, h1], by rw [h2, List.count_cons_of_ne hf], h3⟩
      · rw [if_neg hw] at h
        cases h
theorem fill_blank : ∀ {fs : List Bs} {ns : List Int}, (∀ w ∈ fs, (32 : UInt8) ∉ w) → ∀ w ∈ fillW fs ns, (32 : UInt8) ∉ w
  | [], _, _, w, hw => by cases hw
  | f :: fs, ns, h, w, hw => by
    rw [fillW] at hw
    split at hw
    · rcases List.mem_cons.1 hw with rfl | hw
      · exact itoa_blank _
      · exact fill_blank (fun v hv => h v (List.mem_cons_of_mem _ hv)) w hw
    · rcases List.mem_cons.1 hw with rfl | hw
      · exact h w List.mem_cons_self
      · exact fill_blank (fun v hv => h v (List.mem_cons_of_mem _ hv)) w hw
theorem fill_ne {fs : List Bs} {ns : List Int} (h : fs ≠ []) : fillW fs ns ≠ [] := by
  cases fs with
  | nil => exact absurd rfl h
  | cons f fs =>
    rw [fillW]
    split <;> exact fun h => by cases h
theorem spl_fill {fs : List Bs} {ns : List Int} (h : fs ≠ []) (hb : ∀ w ∈ fs, (32 : UInt8) ∉ w) : spl (joinL (fillW fs ns)) = fillW fs ns := spl_join (fill_ne h) (fill_blank hb)
/-- the forms: disk # origin # chunk #; entry # #; slot # used|merging # # gen # room # [invalid] -/
def wD : List Bs := [[100, 105, 115, 107], [35], [111, 114, 105, 103, 105, 110], [35], [99, 104, 117, 110, 107], [35]]
def wE : List Bs := [[101, 110, 116, 114, 121], [35], [35]]
def wU (mg : Bool) : Bs := if mg then [109, 101, 114, 103, 105, 110, 103] else [117, 115, 101, 100]
def wS (mg inv : Bool) : List Bs := [[115, 108, 111, 116], [35], wU mg, [35], [35], [103, 101, 110], [35], [114, 111, 111, 109], [35]] ++ (if inv then [[105, 110, 118, 97, 108, 105, 100]] else [])
theorem wS_blank (mg inv : Bool) : ∀ w ∈ wS mg inv, (32 : UInt8) ∉ w := by
  cases mg <;> cases inv <;> decide
theorem wS_ne (mg inv : Bool) : wS mg inv ≠ [] := by unfold wS; exact fun h => by cases h
theorem wS_count (mg inv : Bool) : (wS mg inv).count [35] = 5 := by
  cases mg <;> cases inv <;> decide
theorem wD_blank : ∀ w ∈ wD, (32 : UInt8) ∉ w := by decide
theorem wE_blank : ∀ w ∈ wE, (32 : UInt8) ∉ w := by decide
def numsS (x : Sl) : List Int := [x.id, x.st, x.len, x.gen, x.room]
def slotLine (x : Sl) : Bs := joinL (fillW (wS (decide (x.state = 2)) x.inv) (numsS x))
def entLine (e : En) : Bs := joinL (fillW wE [e.o, e.i])
def okE (e : En) : Bool := in32 e.o && in32 e.i
def okS (x : Sl) : Bool := (numsS x).all in32 && (decide (x.state = 1) || decide (x.state = 2)) && x.ents.all okE
def slotLines (x : Sl) : List Bs := slotLine x :: x.ents.map entLine
def headL (r : Rp) : Bs := joinL (fillW wD [r.sec, r.org, r.chk])
def okH (r : Rp) : Bool := [r.sec, r.org, r.chk].all in32
def linesD (r : Rp) : Option (List Bs) := if okH r = true ∧ r.lines.all okS = true then some (headL r :: r.lines.flatMap slotLines) else none
def toS (mg inv : Bool) (ns : List Int) : Sl := ⟨ns.getD 0 0, ns.getD 1 0, ns.getD 2 0, ns.getD 3 0, ns.getD 4 0, if mg then 2 else 1, inv, []⟩
def slotW (ws : List Bs) : Option Sl := ((numsW ws (wS false false)).map (toS false false)).or (((numsW ws (wS true false)).map (toS true false)).or (((numsW ws (wS false true)).map (toS false true)).or ((numsW ws (wS true true)).map (toS true true))))
def stepW (acc : List Sl) (ws : List Bs) : Option (List Sl) := match slotW ws with
  | some x => some (acc ++ [x])
  | none => match numsW ws wE, acc.getLast? with
    | some ns, some x => some (acc.dropLast ++ [{ x with ents := x.ents ++ [⟨ns.getD 0 0, ns.getD 1 0⟩] }])
    | _, _ => none
def stepP (acc : List Sl) (s : Bs) : Option (List Sl) := stepW acc (spl s)
def parseD : List Bs → Option Rp
  | [] => none
  | h :: t => (numsW (spl h) wD).bind fun ns => (t.foldlM stepP []).map fun ls => ⟨ns.getD 0 0, ns.getD 1 0, ns.getD 2 0, ls⟩
theorem parseD_cons (h : Bs) (t : List Bs) : parseD (h :: t) = (numsW (spl h) wD).bind fun ns => (t.foldlM stepP []).map fun ls => ⟨ns.getD 0 0, ns.getD 1 0, ns.getD 2 0, ls⟩ := rfl
theorem fill_slot (mg inv : Bool) (a b c d e : Int) : fillW (wS mg inv) [a, b, c, d, e] = [[115, 108, 111, 116], itoa a, wU mg, itoa b, itoa c, [103, 101, 110], itoa d, [114, 111, 111, 109], itoa e] ++ (if inv then [[105, 110, 118, 97, 108, 105, 100]] else []) := by
  cases mg <;> cases inv <;> rfl
theorem nums_other {mg inv mg' inv' : Bool} {ns ms : List Int} (hn : ns.length = 5) (h : numsW (fillW (wS mg inv) ns) (wS mg' inv') = some ms) : mg = mg' ∧ inv = inv' := by
  obtain ⟨h1, h2, _⟩ := fill_nums h
  rw [wS_count] at h2
  match ns, hn, ms, h2 with
  | [a, b, c, d, e], _, [a', b', c', d', e'], _ =>
    rw [fill_slot, fill_slot] at h1
    have hl := congrArg List.length h1
    have hu := congrArg (fun l => l[2]?) h1
    revert hl hu
    cases mg <;> cases inv <;> cases mg' <;> cases inv' <;> simp [wU]
theorem slot_fill {mg inv : Bool} {ns : List Int} (hn : ns.length = 5) (hr : ∀ n ∈ ns, in32 n = true) : slotW (fillW (wS mg inv) ns) = some (toS mg inv ns) := by
  have hy := nums_fill (fs := wS mg inv) (ns := ns) (by rw [wS_count]; exact hn) hr
  have hno : ∀ mg' inv', ¬ (mg = mg' ∧ inv = inv') → numsW (fillW (wS mg inv) ns) (wS mg' inv') = none := by
    intro mg' inv' h
    cases hm : numsW (fillW (wS mg inv) ns) (wS mg' inv') with
    | none => rfl
    | some ms => exact absurd (nums_other hn hm) h
  unfold slotW
  cases mg <;> cases inv
  · rw [hy]; rfl
  · rw [hno false false (by decide), hno true false (by decide), hy]; rfl
  · rw [hno false false (by decide), hy]; rfl
  · rw [hno false false (by decide), hno true false (by decide), hno false true (by decide), hy]; rfl
theorem slot_some {ws : List Bs} {x : Sl} (h : slotW ws = some x) : ∃ mg inv ns, numsW ws (wS mg inv) = some ns ∧ x = toS mg inv ns := by
  unfold slotW at h
  rcases Option.or_eq_some_iff.1 h with h | ⟨_, h⟩
  · obtain ⟨ns, h1, rfl⟩ := Option.map_eq_some_iff.1 h
    exact ⟨_, _, ns, h1, rfl⟩
  · rcases Option.or_eq_some_iff.1 h with h | ⟨_, h⟩
    · obtain ⟨ns, h1, rfl⟩ := Option.map_eq_some_iff.1 h
      exact ⟨_, _, ns, h1, rfl⟩
    · rcases Option.or_eq_some_iff.1 h with h | ⟨_, h⟩
      · obtain ⟨ns, h1, rfl⟩ := Option.map_eq_some_iff.1 h
        exact ⟨_, _, ns, h1, rfl⟩
      · obtain ⟨ns, h1, rfl⟩ := Option.map_eq_some_iff.1 h
        exact ⟨_, _, ns, h1, rfl⟩
theorem okS_parts {x : Sl} (h : okS x = true) : (∀ n ∈ numsS x, in32 n = true) ∧ (x.state = 1 ∨ x.state = 2) ∧ ∀ e ∈ x.ents, okE e = true := by
  unfold okS at h
  simp only [Bool.and_eq_true, Bool.or_eq_true, decide_eq_true_eq, List.all_eq_true] at h
  exact ⟨h.1.1, h.1.2, h.2⟩
theorem step_slot {x : Sl} (h : okS x = true) (acc : List Sl) : stepP acc (slotLine x) = some (acc ++ [{ x with ents := [] }]) := by
  obtain ⟨h1, h2, _⟩ := okS_parts h
  unfold stepP slotLine stepW
  rw [spl_fill (wS_ne _ _) (wS_blank _ _), slot_fill rfl h1]
  obtain ⟨id, st, len, gen, room, state, inv, ents⟩ := x
  unfold toS numsS
  dsimp only at h2 ⊢
  rcases h2 with rfl | rfl <;> rfl
theorem slot_ent (a b : Int) : slotW (fillW wE [a, b]) = none := by
  cases h : slotW (fillW wE [a, b]) with
  | none => rfl
  | some x =>
    obtain ⟨mg, inv, ns, h1, _⟩ := slot_some h
    obtain ⟨h1, h2, _⟩ := fill_nums h1
    rw [wS_count] at h2
    match ns, h2 with
    | [a', b', c', d', e'], _ =>
      rw [fill_slot] at h1
      have hl := congrArg (fun l => l[0]?) h1
      simp [fillW, wE] at hl
theorem step_ent {e : En} (h : okE e = true) (acc : List Sl) (x : Sl) : stepP (acc ++ [x]) (entLine e) = some (acc ++ [{ x with ents := x.ents ++ [e] }]) := by
  unfold okE at h
  simp only [Bool.and_eq_true] at h
  unfold stepP entLine stepW
  rw [spl_fill (by decide) wE_blank, slot_ent, nums_fill (fs := wE) (ns := [e.o, e.i]) rfl (by simp [h.1, h.2])]
  simp
theorem fold_ents : ∀ {es : List En}, (∀ e ∈ es, okE e = true) → ∀ (acc : List Sl) (x : Sl), (es.map entLine).foldlM stepP (acc ++ [x]) = some (acc ++ [{ x with ents := x.ents ++ es }])
  | [], _, acc, x => by simp
  | e :: es, h, acc, x => by
    rw [List.map_cons, List.foldlM_cons, step_ent (h e List.mem_cons_self)]
    refine (fold_ents (fun y hy => h y (List.mem_cons_of_mem _ hy)) acc _).trans ?_
    simp
theorem fold_lines : ∀ {ls : List Sl}, (∀ x ∈ ls, okS x = true) → ∀ acc : List Sl, (ls.flatMap slotLines).foldlM stepP acc = some (acc ++ ls)
  | [], _, acc => by simp
  | x :: ls, h, acc => by
    have hx := h x List.mem_cons_self
    rw [List.flatMap_cons, List.foldlM_append, slotLines, List.foldlM_cons, step_slot hx]
    show ((x.ents.map entLine).foldlM stepP _ >>= _) = _
    rw [fold_ents (okS_parts hx).2.2]
    refine (fold_lines (fun y hy => h y (List.mem_cons_of_mem _ hy)) _).trans ?_
    simp
theorem parse_lines {r : Rp} {l : List Bs} (h : linesD r = some l) : parseD l = some r := by
  unfold linesD at h
  split at h
  · rename_i hh
    injection h with h
    subst h
    unfold okH at hh
    rw [parseD_cons]
    unfold headL
    rw [spl_fill (by decide) wD_blank, nums_fill (fs := wD) (ns := [r.sec, r.org, r.chk]) rfl (List.all_eq_true.1 hh.1)]
    show Option.map _ _ = _
    rw [fold_lines (List.all_eq_true.1 hh.2)]
    rfl
  · cases h
theorem lines_ne {r : Rp} {l : List Bs} (h : linesD r = some l) : l ≠ [] := by
  unfold linesD at h
  split at h
  · injection h with h
    subst h
    exact fun h => by cases h
  · cases h
theorem parse_tail {r : Rp} {h : Bs} {t : List Bs} (hl : linesD r = some (h :: t)) : parseD t = none := by
  unfold linesD at hl
  split at hl
  · injection hl with hl
    injection hl with h1 h2
    subst h2
    cases r.lines with
    | nil => rfl
    | cons x xs =>
      rw [List.flatMap_cons, slotLines]
      show parseD (slotLine x :: (x.ents.map entLine ++ xs.flatMap slotLines)) = none
      rw [parseD_cons]
      unfold slotLine
      rw [spl_fill (wS_ne _ _) (wS_blank _ _)]
      unfold numsS
      rw [fill_slot]
      rfl
  · cases hl
theorem step_back {acc acc' : List Sl} {s : Bs} (h : stepP acc s = some acc') (hk : ∀ x ∈ acc, okS x = true) : (∀ x ∈ acc', okS x = true) ∧ acc'.flatMap slotLines = acc.flatMap slotLines ++ [s] := by
  unfold stepP stepW at h
  have hj : joinL (spl s) = s := join_spl s
  cases hs : slotW (spl s) with
  | some x =>
    rw [hs] at h
    injection h with h
    subst h
    obtain ⟨mg, inv, ns, h1, rfl⟩ := slot_some hs
    obtain ⟨h2, h3, h4⟩ := fill_nums h1
    rw [wS_count] at h3
    match ns, h3 with
    | [a, b, c, d, e], _ =>
      have hmg : decide ((if mg = true then (2 : Int) else 1) = 2) = mg := by cases mg <;> rfl
      have e1 : slotLines (toS mg inv [a, b, c, d, e]) = [s] := by
        show [joinL (fillW (wS (decide ((if mg = true then (2 : Int) else 1) = 2)) inv) [a, b, c, d, e])] = [s]
        rw [hmg, h2, hj]
      refine ⟨fun x hx => ?_, by rw [List.flatMap_append, List.flatMap_cons, List.flatMap_nil, List.append_nil, e1]⟩
      rcases List.mem_append.1 hx with hx | hx
      · exact hk x hx
      · obtain rfl := List.mem_singleton.1 hx
        unfold okS
        simp only [Bool.and_eq_true, Bool.or_eq_true, decide_eq_true_eq, List.all_eq_true]
        refine ⟨⟨h4, ?_⟩, fun e he => by cases he⟩
        cases mg
        · exact .inl rfl
        · exact .inr rfl
  | none =>
    rw [hs] at h
    dsimp only at h
    cases hn : numsW (spl s) wE with
    | none => rw [hn] at h; cases h
    | some ns =>
      cases hg : acc.getLast? with
      | none => rw [hn, hg] at h; cases h
      | some x =>
        rw [hn, hg] at h
        dsimp only at h
        injection h with h
        subst h
        obtain ⟨h2, h3, h4⟩ := fill_nums hn
        match ns, h3 with
        | [a, b], _ =>
          have ha : acc = acc.dropLast ++ [x] := by
            have hne : acc ≠ [] := fun h => by rw [h] at hg; cases hg
            have := List.dropLast_concat_getLast hne
            rw [List.getLast?_eq_some_getLast hne] at hg
            injection hg with hg
            rw [← hg, this]
          generalize acc.dropLast = p at ha ⊢
          subst ha
          have hx := hk x (by simp)
          obtain ⟨k1, k2, k3⟩ := okS_parts hx
          have he : entLine ⟨a, b⟩ = s := by
            unfold entLine
            rw [h2, hj]
          refine ⟨fun y hy => ?_, ?_⟩
          · rcases List.mem_append.1 hy with hy | hy
            · exact hk y (List.mem_append_left _ hy)
            · obtain rfl := List.mem_singleton.1 hy
              unfold okS
              simp only [Bool.and_eq_true, Bool.or_eq_true, decide_eq_true_eq, List.all_eq_true]
              refine ⟨⟨k1, k2⟩, fun e hm => ?_⟩
              rcases List.mem_append.1 hm with hm | hm
              · exact k3 e hm
              · obtain rfl := List.mem_singleton.1 hm
                unfold okE
                simp only [Bool.and_eq_true]
                exact ⟨h4 a (by simp), h4 b (by simp)⟩
          · rw [List.flatMap_append, List.flatMap_append, List.append_assoc]
            congr 1
            simp only [List.flatMap_cons, List.flatMap_nil, List.append_nil, slotLines]
            show slotLine x :: (x.ents ++ [_]).map entLine = _
            rw [List.map_append]
            show slotLine x :: (x.ents.map entLine ++ [entLine ⟨a, b⟩]) = _
            rw [he]
            rfl
theorem fold_back : ∀ {t : List Bs} {acc ls : List Sl}, t.foldlM stepP acc = some ls → (∀ x ∈ acc, okS x = true) → (∀ x ∈ ls, okS x = true) ∧ ls.flatMap slotLines = acc.flatMap slotLines ++ t
  | [], acc, ls, h, hk => by
    injection h with h
    subst h
    exact ⟨hk, by simp⟩
  | s :: t, acc, ls, h, hk => by
    rw [List.foldlM_cons] at h
    cases hs : stepP acc s with
    | none => rw [hs] at h; cases h
    | some acc' =>
      rw [hs] at h
      obtain ⟨h1, h2⟩ := step_back hs hk
      obtain ⟨h3, h4⟩ := fold_back (t := t) (acc := acc') h h1
      exact ⟨h3, by rw [h4, h2, List.append_assoc]; rfl⟩
theorem lines_parse {l : List Bs} {r : Rp} (h : parseD l = some r) : linesD r = some l := by
  cases l with
  | nil => cases h
  | cons s t =>
    rw [parseD_cons] at h
    cases hn : numsW (spl s) wD with
    | none => rw [hn] at h; cases h
    | some ns =>
      rw [hn] at h
      obtain ⟨ls, h1, rfl⟩ := Option.map_eq_some_iff.1 h
      obtain ⟨h2, h3, h4⟩ := fill_nums hn
      obtain ⟨h5, h6⟩ := fold_back h1 (fun x hx => by cases hx)
      match ns, h3 with
      | [a, b, c], _ =>
        unfold linesD
        rw [if_pos ⟨List.all_eq_true.2 h4, List.all_eq_true.2 h5⟩, h6]
        unfold headL
        show some (joinL (fillW wD [a, b, c]) :: _) = _
        rw [h2, join_spl]
        rfl
end Go.Proofs.YtooplogodcadgaaDoor
