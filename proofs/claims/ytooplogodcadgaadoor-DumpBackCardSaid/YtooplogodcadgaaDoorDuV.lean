/- Dumps: the program's slot: a slot's line, and those behind it. -/
import Derived.Test.YtooplogodcadgaaDoorDuR
import Derived.Test.YtooplogodcadgaaDoorDuO
namespace Go.Proofs.YtooplogodcadgaaDoor
open Go.RowKit Go.Lib

theorem line_is (mg inv : Bool) (a b c d e : Int) : hashL (tS mg false) [a, b, c, d, e] ++ (if inv then tI else []) = joinL (fillW (wS mg inv) [a, b, c, d, e]) := by
  cases inv
  · rw [if_neg (by decide), List.append_nil, line_slot]
  · rw [if_pos rfl, line_inv, line_slot]
theorem okS_no4 {x : Sl} (h : [x.id, x.st, x.len, x.room].all in32 = false) : okS x = false := by
  rw [Bool.eq_false_iff]
  intro ho
  obtain ⟨h1, _, _⟩ := okS_parts ho
  rw [Bool.eq_false_iff] at h
  exact h (List.all_eq_true.2 (fun n hn => h1 n (by
    simp only [List.mem_cons, List.not_mem_nil, or_false] at hn
    rcases hn with rfl | rfl | rfl | rfl <;> simp [numsS])))
theorem okS_state {x : Sl} (h1 : x.state ≠ 1) (h2 : x.state ≠ 2) : okS x = false := by
  rw [Bool.eq_false_iff]
  intro ho
  rcases (okS_parts ho).2.1 with h | h
  · exact h1 h
  · exact h2 h
theorem okS_ent {x : Sl} {e : En} (he : e ∈ x.ents) (h : okE e = false) : okS x = false := by
  rw [Bool.eq_false_iff]
  intro ho
  rw [(okS_parts ho).2.2 e he] at h
  cases h
theorem okS_yes {x : Sl} (h4 : [x.id, x.st, x.len, x.room].all in32 = true) (hg : in32 x.gen = true) (hs : x.state = 1 ∨ x.state = 2) (he : ∀ e ∈ x.ents, okE e = true) : okS x = true := by
  simp only [List.all_cons, List.all_nil, Bool.and_true, Bool.and_eq_true] at h4
  unfold okS
  simp only [numsS, List.all_cons, List.all_nil, Bool.and_true, Bool.and_eq_true, Bool.or_eq_true, decide_eq_true_eq, List.all_eq_true]
  exact ⟨⟨⟨h4.1, h4.2.1, h4.2.2.1, hg, h4.2.2.2⟩, hs⟩, he⟩
theorem okE_two (e : En) : [e.o, e.i].all in32 = okE e := by
  unfold okE
  simp
theorem IAt.new' {V : World} {b : Nat} {l : List Int} (hb : b = V.heap.size) : IAt (V.alloc (.cells (l.map fun z => Value.int .i64 z).toArray 3)) b l := hb ▸ IAt.new V l
theorem hash_len : ∀ {f : Bs} {ns : List Int}, (∀ n ∈ ns, in32 n = true) → (hashL f ns).length ≤ 20 * f.length
  | [], _, _ => Nat.zero_le _
  | c :: f, ns, h => by
    rw [hashL]
    split
    · have ih := hash_len (f := f) (ns := ns.tail) (fun n hn => h n (List.mem_of_mem_tail hn))
      have h0 : (itoa (ns.headD 0)).length ≤ 20 := itoa_len (by
        cases ns with
        | nil => exact ⟨by decide, by decide⟩
        | cons n t =>
          have := in32_iff.1 (h n List.mem_cons_self)
          show -9223372036854775808 ≤ n ∧ n ≤ 9223372036854775807
          omega)
      rw [List.length_append, List.length_cons]
      omega
    · have ih := hash_len (f := f) (ns := ns) h
      rw [List.length_cons, List.length_cons]
      omega
def PSlotPost (x : Sl) (w : World) (e : Ending) (w' : World) : Prop := Kept [] w w' ∧ ((okS x = false ∧ e = .returned (.tuple #[.slice none 0 0, .bool false])) ∨ (okS x = true ∧ ∃ (L : List Bs) (A : Option Addr) (c : Nat), L = slotLines x ∧ e = .returned (.tuple #[.slice A L.length c, .bool true]) ∧ SAt w.heap.size w' A c L))
set_option maxRecDepth 8000 in
set_option maxHeartbeats 8000000 in
theorem dump_slot (x : Sl) (AE : Option Addr) (cE : Nat) (w : World) (hL : Laid w) (hE : ERd w (.slice AE x.ents.length cE) x.ents) (hg : in32 x.gen = true) (hn : x.ents.length ≤ 100000) : Calls Tryd.prog 18 #[.agg (lineC x (.slice AE x.ents.length cE))] w (PSlotPost x w) := by
  have HNo : Hid (∀ w', okS x = false → Kept [] w w' → PSlotPost x w (.returned (.tuple #[.slice none 0 0, .bool false])) w') := fun w' h k => ⟨k, .inl ⟨h, rfl⟩⟩
  have HYes : Hid (∀ w' (L : List Bs) (A : Option Addr) (c : Nat), okS x = true → L = slotLines x → SAt w.heap.size w' A c L → Kept [] w w' → PSlotPost x w (.returned (.tuple #[.slice A L.length c, .bool true])) w') := fun w' L A c h e o k => ⟨k, .inr ⟨h, L, A, c, e, rfl, o⟩⟩
  generalize PSlotPost x w = Q at *
  have HE := Lib.hid hE
  have HLd := Lib.hid hL
  have HG := Lib.hid hg
  have HLi : Hid (∀ (f : Bs) (V : World) (b c : Nat) (l : List Int), Kept [] w V → IAt V b l → f.length ≤ 1000 → f.count 35 = l.length → (∀ y ∈ l, in32 y = true) → Calls Tryd.prog 17 #[.string ⟨f.toArray⟩, .slice (some ⟨b, 0, none⟩) l.length c] V (LinePost f l V)) := fun f V b c l k h1 h2 h3 h4 => dump_line f b c l V (hL.kept k) h1 h2 h3 h4
  unfold LinePost at HLi
  obtain ⟨id, st, len, gen, room, state, inv, ents⟩ := x
  unfold lineC
  dsimp only at HE HG hn ⊢
  have hg2 := in32_iff.1 HG.out
  have hwg : IntKind.i64.wrap gen = gen := IntWalk.i64_in _ (by omega)
  have B0 := Lib.hid ((Blk.new w 54 #[.int .i64 id, .int .i64 state, .int .i64 st, .int .i64 len, .int .u32 gen, .int .i64 room, .bool inv, .slice AE ents.length cE]).alloc (.cells #[.int .i64 state, .int .i64 st, .int .i64 len, .int .u32 gen] 51))
  have K0 := Lib.hid (((Kept.refl [] w).alloc (.cells #[.int .i64 id, .int .i64 state, .int .i64 st, .int .i64 len, .int .u32 gen, .int .i64 room, .bool inv, .slice AE ents.length cE] 54)).alloc (.cells #[.int .i64 state, .int .i64 st, .int .i64 len, .int .u32 gen] 51))
  have HIn : Hid (∀ (zs : List Int) (V : World) (b c : Nat), IAt V b zs → zs.length ≤ 1000 → Calls Tryd.prog 16 #[.slice (some ⟨b, 0, none⟩) zs.length c] V (InPost zs V)) := fun zs V b c h1 h2 => dump_in V b c zs h1 (by omega)
  unfold InPost at HIn
  clear hL hE hg
  go_enter Tryd.func18, Tryd.ntmps18
  cases h4 : [id, st, len, room].all in32 with
  | false =>
    have hv := Lib.hid (okS_no4 (x := ⟨id, st, len, gen, room, state, inv, ents⟩) h4)
    go_wp2_with fail
    refine (HIn.out [id, st, len, room] _ _ _ (IAt.new' (l := [id, st, len, room]) (by simp)) (by simp)).mono ?_
    rintro e w1 ⟨rfl, rfl⟩
    rw [h4]
    clear h4
    go_wp2_with fail
    exact HNo.out _ hv.out (K0.out.alloc _)
  | true =>
    have H4 := Lib.hid h4
    by_cases hs2 : state = 2
    · subst hs2
      have HH : Hid (hashL (tS true false) [id, st, len, gen, room] ++ (if inv then tI else []) = slotLine ⟨id, st, len, gen, room, 2, inv, ents⟩) := line_is true inv id st len gen room
      have hrr : ∀ y ∈ [id, st, len, gen, room], in32 y = true := fun y hy => by
        have h5 := H4.out
        simp only [List.all_cons, List.all_nil, Bool.and_true, Bool.and_eq_true] at h5
        simp only [List.mem_cons, List.not_mem_nil, or_false] at hy
        rcases hy with rfl | rfl | rfl | rfl | rfl
        · exact h5.1
        · exact h5.2.1
        · exact h5.2.2.1
        · exact HG.out
        · exact h5.2.2.2
      have hhl := hash_len (f := tS true false) hrr
      have hfl : (tS true false).length ≤ 100 := by decide
      have HL5 := Lib.hid (fun V b c k h => HLi.out (tS true false) V b c [id, st, len, gen, room] k h (by decide) (show (tS true false).count 35 = 5 by decide) hrr)
      clear hrr
      obtain ⟨h0, hh0⟩ : ∃ h0, hashL (tS true false) [id, st, len, gen, room] = h0 := ⟨_, rfl⟩
      rw [hh0] at HH HL5 hhl
      clear hh0
      have hh8 : h0.length + 8 ≤ 9223372036854775807 := by omega
      replace hhl := Lib.hid hhl
      have ht1 : (⟨#[115, 108, 111, 116, 32, 35, 32]⟩ : ByteArray) ++ ⟨#[109, 101, 114, 103, 105, 110, 103]⟩ = ⟨#[115, 108, 111, 116, 32, 35, 32, 109, 101, 114, 103, 105, 110, 103]⟩ := rfl
      have ht2 : (⟨#[115, 108, 111, 116, 32, 35, 32, 109, 101, 114, 103, 105, 110, 103]⟩ : ByteArray) ++ ⟨#[32, 35, 32, 35, 32, 103, 101, 110, 32, 35, 32, 114, 111, 111, 109, 32, 35]⟩ = ⟨(tS true false).toArray⟩ := rfl
      go_wp2_with fail
      refine (HIn.out [id, st, len, room] _ _ _ (IAt.new' (l := [id, st, len, room]) (by simp)) (by simp)).mono ?_
      rintro e w1 ⟨rfl, rfl⟩
      rw [H4.out]
      go_wp2_with fail
      refine (HL5.out _ _ _ ((K0.out.alloc _).alloc _) (IAt.new' (l := [id, st, len, gen, room]) (by simp))).mono ?_
      rintro e w2 ⟨rfl, k2⟩
      have K2 := Lib.hid (((K0.out.alloc _).alloc _).trans k2)
      have B2 := Lib.hid (((B0.out.alloc (.cells #[.int .i64 id, .int .i64 st, .int .i64 len, .int .i64 room] 3)).alloc (.cells #[.int .i64 id, .int .i64 st, .int .i64 len, .int .i64 gen, .int .i64 room] 3)).kept k2 (fun h => by cases h))
      have b6 := B2.out.cell 6
      simp only [List.getElem?_toArray, List.getElem?_cons_zero, List.getElem?_cons_succ] at b6
      clear k2 ht1 ht2 HL5 hwg
      cases inv
      · replace HH : Hid (h0 = slotLine ⟨id, st, len, gen, room, 2, false, ents⟩) := by
          have h := HH.out
          rw [if_neg (by decide)] at h
          rw [List.append_nil] at h
          exact h
        obtain ⟨hd, rfl⟩ : ∃ hd, hd = h0 := ⟨_, rfl⟩
        have b7 := B2.out.cell 7
        simp only [List.getElem?_toArray, List.getElem?_cons_zero, List.getElem?_cons_succ] at b7
        have b7a := ((Kept.refl [] w2).alloc (.cells #[.string ⟨hd.toArray⟩] 9)).cell b7 (fun h => by cases h)
        have O2 := Lib.hid (own_down (oneS w2 hd) K2.out.size)
        go_wp2_with fail
        go_loopw [7, 61] (fun t i V => ∃ (k : Nat) (L : List Bs) (A' : Option Addr) (c' : Nat), k ≤ ents.length ∧ i = .int .i64 k ∧ t = .slice A' L.length c' ∧ Hid (L.length = k + 1) ∧ Hid (L = hd :: (ents.take k).map entLine) ∧ Hid (∀ e ∈ ents.take k, okE e = true) ∧ Hid (SAt w.heap.size V A' c' L) ∧ Hid (Kept [] w V)) (fun _ i _ => ents.length - (RowKit.intOf i).toNat)
        case atStart => exact ⟨0, [hd], some ⟨w2.heap.size, 0, none⟩, 1, Nat.zero_le _, rfl, rfl, rfl, rfl, (fun _ h => by cases h), O2.out, K2.out.alloc _⟩
        case round =>
          obtain ⟨k, L, A', c', hk, rfl, rfl, HN, HT, HO, HS, HK⟩ := hrel
          by_cases hlt : k < ents.length
          · obtain ⟨b, o, rfl, d0, d1⟩ := HE.out.at_ hlt
            have c0 := HK.out.cell d0 (fun h => by cases h)
            have c1 := HK.out.cell d1 (fun h => by cases h)
            have hki : (k : Int) < (ents.length : Int) := by omega
            have hwk : IntKind.i64.wrap ((k : Int) + 1) = (k : Int) + 1 := IntWalk.i64_in _ (by omega)
            have HME : Hid (okE ents[k] = false → okS ⟨id, st, len, gen, room, 2, false, ents⟩ = false) := okS_ent (List.getElem_mem hlt)
            have HTk : Hid (ents.take (k + 1) = ents.take k ++ [ents[k]]) := List.take_succ_eq_append_getElem hlt
            clear d0 d1
            generalize ents[k] = en at *
            obtain ⟨eo, ei⟩ := en
            dsimp only at c0 c1
            have hoe := okE_two ⟨eo, ei⟩
            dsimp only at hoe
            cases hok : okE ⟨eo, ei⟩ with
            | false =>
              have hv := Lib.hid (HME.out hok)
              rw [hok] at hoe
              clear hok HTk
              go_wp2_with fail
              refine (HIn.out [eo, ei] _ _ _ (IAt.new' (l := [eo, ei]) (by simp)) (by simp)).mono ?_
              rintro e w3 ⟨rfl, rfl⟩
              rw [hoe]
              go_wp2_with fail
              exact HNo.out _ hv.out ((HK.out.alloc _).alloc _)
            | true =>
              rw [hok] at hoe
              have hrr : ∀ y ∈ [eo, ei], in32 y = true := List.all_eq_true.1 hoe
              have HLE := Lib.hid (fun V b c k h => HLi.out tE V b c [eo, ei] k h (by decide) rfl hrr)
              have hle : hashL tE [eo, ei] = entLine ⟨eo, ei⟩ := line_ent eo ei
              rw [hle] at HLE
              have HT2 : Hid (L ++ [entLine ⟨eo, ei⟩] = hd :: (ents.take (k + 1)).map entLine) := by
                rw [Hid, HTk.out, HT.out, List.map_append]
                rfl
              have HO2 : Hid (∀ e ∈ ents.take (k + 1), okE e = true) := fun e he => by
                rw [HTk.out] at he
                rcases List.mem_append.1 he with he | he
                · exact HO.out e he
                · obtain rfl := List.mem_singleton.1 he
                  exact hok
              clear hok HTk hrr hle
              obtain ⟨le, hle⟩ : ∃ le, entLine ⟨eo, ei⟩ = le := ⟨_, rfl⟩
              rw [hle] at HLE HT2
              clear hle
              go_wp2_with fail
              refine (HIn.out [eo, ei] _ _ _ (IAt.new' (l := [eo, ei]) (by simp)) (by simp)).mono ?_
              rintro e w3 ⟨rfl, rfl⟩
              rw [hoe]
              clear hoe
              go_wp2_with fail
              refine (HLE.out _ _ _ (((HK.out.alloc _).alloc _).alloc _) (IAt.new' (l := [eo, ei]) (by simp))).mono ?_
              rintro e w5 ⟨rfl, k5⟩
              have kA := (((Kept.refl [] wr).alloc (.cells #[.int .i64 eo, .int .i64 ei] 56)).alloc (.cells #[.int .i64 eo, .int .i64 ei] 3)).alloc (.cells #[.int .i64 eo, .int .i64 ei] 3)
              have S5 := HS.out.kept (kA.trans k5)
              have K5 := HK.out.trans (kA.trans k5)
              have HRun := Lib.hid (app_S le S5 K5 (by have := HN.out; omega))
              clear kA k5 S5 K5
              go_wp2_with (at_builtin; refine wpList_app rfl (.tmp 72) (.tmp 79) _ rfl _ _ rfl rfl (HRun.out _) ?_; rintro v6 w6 ⟨A6, c6, rfl, o6, k6⟩; clear HRun)
              go_roundw
              case rel => exact ⟨k + 1, L ++ [le], A6, c6, by omega, by go_num, by simp, by rw [Hid, List.length_append, List.length_singleton, HN.out], HT2, HO2, Lib.hid o6, Lib.hid k6⟩
              case measure => simp [RowKit.intOf]; omega
          · obtain rfl : k = ents.length := by omega
            have hLs : L = slotLines ⟨id, st, len, gen, room, 2, false, ents⟩ := by
              rw [HT.out, HH.out, List.take_length]
              rfl
            have hv : okS ⟨id, st, len, gen, room, 2, false, ents⟩ = true := okS_yes H4.out HG.out (by simp) (by
              have := HO.out
              rw [List.take_length] at this
              exact this)
            replace hLs := Lib.hid hLs
            replace hv := Lib.hid hv
            go_wp2_with fail
            exact HYes.out _ L A' c' hv.out hLs.out HS.out HK.out
      · replace HH : Hid (h0 ++ tI = slotLine ⟨id, st, len, gen, room, 2, true, ents⟩) := by
          have h := HH.out
          rw [if_pos rfl] at h
          exact h
        have hla : (⟨h0.toArray⟩ : ByteArray) ++ ⟨#[32, 105, 110, 118, 97, 108, 105, 100]⟩ = ⟨(h0 ++ tI).toArray⟩ := list_append h0 tI
        obtain ⟨hd, hhd⟩ : ∃ hd, h0 ++ tI = hd := ⟨_, rfl⟩
        rw [hhd] at HH hla
        clear hhd
        have b7 := B2.out.cell 7
        simp only [List.getElem?_toArray, List.getElem?_cons_zero, List.getElem?_cons_succ] at b7
        have b7a := ((Kept.refl [] w2).alloc (.cells #[.string ⟨hd.toArray⟩] 9)).cell b7 (fun h => by cases h)
        have O2 := Lib.hid (own_down (oneS w2 hd) K2.out.size)
        go_wp2_with fail
        go_loopw [7, 61] (fun t i V => ∃ (k : Nat) (L : List Bs) (A' : Option Addr) (c' : Nat), k ≤ ents.length ∧ i = .int .i64 k ∧ t = .slice A' L.length c' ∧ Hid (L.length = k + 1) ∧ Hid (L = hd :: (ents.take k).map entLine) ∧ Hid (∀ e ∈ ents.take k, okE e = true) ∧ Hid (SAt w.heap.size V A' c' L) ∧ Hid (Kept [] w V)) (fun _ i _ => ents.length - (RowKit.intOf i).toNat)
        case atStart => exact ⟨0, [hd], some ⟨w2.heap.size, 0, none⟩, 1, Nat.zero_le _, rfl, rfl, rfl, rfl, (fun _ h => by cases h), O2.out, K2.out.alloc _⟩
        case round =>
          obtain ⟨k, L, A', c', hk, rfl, rfl, HN, HT, HO, HS, HK⟩ := hrel
          by_cases hlt : k < ents.length
          · obtain ⟨b, o, rfl, d0, d1⟩ := HE.out.at_ hlt
            have c0 := HK.out.cell d0 (fun h => by cases h)
            have c1 := HK.out.cell d1 (fun h => by cases h)
            have hki : (k : Int) < (ents.length : Int) := by omega
            have hwk : IntKind.i64.wrap ((k : Int) + 1) = (k : Int) + 1 := IntWalk.i64_in _ (by omega)
            have HME : Hid (okE ents[k] = false → okS ⟨id, st, len, gen, room, 2, true, ents⟩ = false) := okS_ent (List.getElem_mem hlt)
            have HTk : Hid (ents.take (k + 1) = ents.take k ++ [ents[k]]) := List.take_succ_eq_append_getElem hlt
            clear d0 d1
            generalize ents[k] = en at *
            obtain ⟨eo, ei⟩ := en
            dsimp only at c0 c1
            have hoe := okE_two ⟨eo, ei⟩
            dsimp only at hoe
            cases hok : okE ⟨eo, ei⟩ with
            | false =>
              have hv := Lib.hid (HME.out hok)
              rw [hok] at hoe
              clear hok HTk
              go_wp2_with fail
              refine (HIn.out [eo, ei] _ _ _ (IAt.new' (l := [eo, ei]) (by simp)) (by simp)).mono ?_
              rintro e w3 ⟨rfl, rfl⟩
              rw [hoe]
              go_wp2_with fail
              exact HNo.out _ hv.out ((HK.out.alloc _).alloc _)
            | true =>
              rw [hok] at hoe
              have hrr : ∀ y ∈ [eo, ei], in32 y = true := List.all_eq_true.1 hoe
              have HLE := Lib.hid (fun V b c k h => HLi.out tE V b c [eo, ei] k h (by decide) rfl hrr)
              have hle : hashL tE [eo, ei] = entLine ⟨eo, ei⟩ := line_ent eo ei
              rw [hle] at HLE
              have HT2 : Hid (L ++ [entLine ⟨eo, ei⟩] = hd :: (ents.take (k + 1)).map entLine) := by
                rw [Hid, HTk.out, HT.out, List.map_append]
                rfl
              have HO2 : Hid (∀ e ∈ ents.take (k + 1), okE e = true) := fun e he => by
                rw [HTk.out] at he
                rcases List.mem_append.1 he with he | he
                · exact HO.out e he
                · obtain rfl := List.mem_singleton.1 he
                  exact hok
              clear hok HTk hrr hle
              obtain ⟨le, hle⟩ : ∃ le, entLine ⟨eo, ei⟩ = le := ⟨_, rfl⟩
              rw [hle] at HLE HT2
              clear hle
              go_wp2_with fail
              refine (HIn.out [eo, ei] _ _ _ (IAt.new' (l := [eo, ei]) (by simp)) (by simp)).mono ?_
              rintro e w3 ⟨rfl, rfl⟩
              rw [hoe]
              clear hoe
              go_wp2_with fail
              refine (HLE.out _ _ _ (((HK.out.alloc _).alloc _).alloc _) (IAt.new' (l := [eo, ei]) (by simp))).mono ?_
              rintro e w5 ⟨rfl, k5⟩
              have kA := (((Kept.refl [] wr).alloc (.cells #[.int .i64 eo, .int .i64 ei] 56)).alloc (.cells #[.int .i64 eo, .int .i64 ei] 3)).alloc (.cells #[.int .i64 eo, .int .i64 ei] 3)
              have S5 := HS.out.kept (kA.trans k5)
              have K5 := HK.out.trans (kA.trans k5)
              have HRun := Lib.hid (app_S le S5 K5 (by have := HN.out; omega))
              clear kA k5 S5 K5
              go_wp2_with (at_builtin; refine wpList_app rfl (.tmp 72) (.tmp 79) _ rfl _ _ rfl rfl (HRun.out _) ?_; rintro v6 w6 ⟨A6, c6, rfl, o6, k6⟩; clear HRun)
              go_roundw
              case rel => exact ⟨k + 1, L ++ [le], A6, c6, by omega, by go_num, by simp, by rw [Hid, List.length_append, List.length_singleton, HN.out], HT2, HO2, Lib.hid o6, Lib.hid k6⟩
              case measure => simp [RowKit.intOf]; omega
          · obtain rfl : k = ents.length := by omega
            have hLs : L = slotLines ⟨id, st, len, gen, room, 2, true, ents⟩ := by
              rw [HT.out, HH.out, List.take_length]
              rfl
            have hv : okS ⟨id, st, len, gen, room, 2, true, ents⟩ = true := okS_yes H4.out HG.out (by simp) (by
              have := HO.out
              rw [List.take_length] at this
              exact this)
            replace hLs := Lib.hid hLs
            replace hv := Lib.hid hv
            go_wp2_with fail
            exact HYes.out _ L A' c' hv.out hLs.out HS.out HK.out
    · by_cases hs1 : state = 1
      · subst hs1
        have hs2 : ((1 : Int) == 2) = false := by decide
        have HH : Hid (hashL (tS false false) [id, st, len, gen, room] ++ (if inv then tI else []) = slotLine ⟨id, st, len, gen, room, 1, inv, ents⟩) := line_is false inv id st len gen room
        have hrr : ∀ y ∈ [id, st, len, gen, room], in32 y = true := fun y hy => by
          have h5 := H4.out
          simp only [List.all_cons, List.all_nil, Bool.and_true, Bool.and_eq_true] at h5
          simp only [List.mem_cons, List.not_mem_nil, or_false] at hy
          rcases hy with rfl | rfl | rfl | rfl | rfl
          · exact h5.1
          · exact h5.2.1
          · exact h5.2.2.1
          · exact HG.out
          · exact h5.2.2.2
        have hhl := hash_len (f := tS false false) hrr
        have hfl : (tS false false).length ≤ 100 := by decide
        have HL5 := Lib.hid (fun V b c k h => HLi.out (tS false false) V b c [id, st, len, gen, room] k h (by decide) (show (tS false false).count 35 = 5 by decide) hrr)
        clear hrr
        obtain ⟨h0, hh0⟩ : ∃ h0, hashL (tS false false) [id, st, len, gen, room] = h0 := ⟨_, rfl⟩
        rw [hh0] at HH HL5 hhl
        clear hh0
        have hh8 : h0.length + 8 ≤ 9223372036854775807 := by omega
        replace hhl := Lib.hid hhl
        have ht1 : (⟨#[115, 108, 111, 116, 32, 35, 32]⟩ : ByteArray) ++ ⟨#[117, 115, 101, 100]⟩ = ⟨#[115, 108, 111, 116, 32, 35, 32, 117, 115, 101, 100]⟩ := rfl
        have ht2 : (⟨#[115, 108, 111, 116, 32, 35, 32, 117, 115, 101, 100]⟩ : ByteArray) ++ ⟨#[32, 35, 32, 35, 32, 103, 101, 110, 32, 35, 32, 114, 111, 111, 109, 32, 35]⟩ = ⟨(tS false false).toArray⟩ := rfl
        go_wp2_with fail
        refine (HIn.out [id, st, len, room] _ _ _ (IAt.new' (l := [id, st, len, room]) (by simp)) (by simp)).mono ?_
        rintro e w1 ⟨rfl, rfl⟩
        rw [H4.out]
        go_wp2_with fail
        refine (HL5.out _ _ _ ((K0.out.alloc _).alloc _) (IAt.new' (l := [id, st, len, gen, room]) (by simp))).mono ?_
        rintro e w2 ⟨rfl, k2⟩
        have K2 := Lib.hid (((K0.out.alloc _).alloc _).trans k2)
        have B2 := Lib.hid (((B0.out.alloc (.cells #[.int .i64 id, .int .i64 st, .int .i64 len, .int .i64 room] 3)).alloc (.cells #[.int .i64 id, .int .i64 st, .int .i64 len, .int .i64 gen, .int .i64 room] 3)).kept k2 (fun h => by cases h))
        have b6 := B2.out.cell 6
        simp only [List.getElem?_toArray, List.getElem?_cons_zero, List.getElem?_cons_succ] at b6
        clear k2 ht1 ht2 HL5 hwg
        cases inv
        · replace HH : Hid (h0 = slotLine ⟨id, st, len, gen, room, 1, false, ents⟩) := by
            have h := HH.out
            rw [if_neg (by decide)] at h
            rw [List.append_nil] at h
            exact h
          obtain ⟨hd, rfl⟩ : ∃ hd, hd = h0 := ⟨_, rfl⟩
          have b7 := B2.out.cell 7
          simp only [List.getElem?_toArray, List.getElem?_cons_zero, List.getElem?_cons_succ] at b7
          have b7a := ((Kept.refl [] w2).alloc (.cells #[.string ⟨hd.toArray⟩] 9)).cell b7 (fun h => by cases h)
          have O2 := Lib.hid (own_down (oneS w2 hd) K2.out.size)
          go_wp2_with fail
          go_loopw [7, 61] (fun t i V => ∃ (k : Nat) (L : List Bs) (A' : Option Addr) (c' : Nat), k ≤ ents.length ∧ i = .int .i64 k ∧ t = .slice A' L.length c' ∧ Hid (L.length = k + 1) ∧ Hid (L = hd :: (ents.take k).map entLine) ∧ Hid (∀ e ∈ ents.take k, okE e = true) ∧ Hid (SAt w.heap.size V A' c' L) ∧ Hid (Kept [] w V)) (fun _ i _ => ents.length - (RowKit.intOf i).toNat)
          case atStart => exact ⟨0, [hd], some ⟨w2.heap.size, 0, none⟩, 1, Nat.zero_le _, rfl, rfl, rfl, rfl, (fun _ h => by cases h), O2.out, K2.out.alloc _⟩
          case round =>
            obtain ⟨k, L, A', c', hk, rfl, rfl, HN, HT, HO, HS, HK⟩ := hrel
            by_cases hlt : k < ents.length
            · obtain ⟨b, o, rfl, d0, d1⟩ := HE.out.at_ hlt
              have c0 := HK.out.cell d0 (fun h => by cases h)
              have c1 := HK.out.cell d1 (fun h => by cases h)
              have hki : (k : Int) < (ents.length : Int) := by omega
              have hwk : IntKind.i64.wrap ((k : Int) + 1) = (k : Int) + 1 := IntWalk.i64_in _ (by omega)
              have HME : Hid (okE ents[k] = false → okS ⟨id, st, len, gen, room, 1, false, ents⟩ = false) := okS_ent (List.getElem_mem hlt)
              have HTk : Hid (ents.take (k + 1) = ents.take k ++ [ents[k]]) := List.take_succ_eq_append_getElem hlt
              clear d0 d1
              generalize ents[k] = en at *
              obtain ⟨eo, ei⟩ := en
              dsimp only at c0 c1
              have hoe := okE_two ⟨eo, ei⟩
              dsimp only at hoe
              cases hok : okE ⟨eo, ei⟩ with
              | false =>
                have hv := Lib.hid (HME.out hok)
                rw [hok] at hoe
                clear hok HTk
                go_wp2_with fail
                refine (HIn.out [eo, ei] _ _ _ (IAt.new' (l := [eo, ei]) (by simp)) (by simp)).mono ?_
                rintro e w3 ⟨rfl, rfl⟩
                rw [hoe]
                go_wp2_with fail
                exact HNo.out _ hv.out ((HK.out.alloc _).alloc _)
              | true =>
                rw [hok] at hoe
                have hrr : ∀ y ∈ [eo, ei], in32 y = true := List.all_eq_true.1 hoe
                have HLE := Lib.hid (fun V b c k h => HLi.out tE V b c [eo, ei] k h (by decide) rfl hrr)
                have hle : hashL tE [eo, ei] = entLine ⟨eo, ei⟩ := line_ent eo ei
                rw [hle] at HLE
                have HT2 : Hid (L ++ [entLine ⟨eo, ei⟩] = hd :: (ents.take (k + 1)).map entLine) := by
                  rw [Hid, HTk.out, HT.out, List.map_append]
                  rfl
                have HO2 : Hid (∀ e ∈ ents.take (k + 1), okE e = true) := fun e he => by
                  rw [HTk.out] at he
                  rcases List.mem_append.1 he with he | he
                  · exact HO.out e he
                  · obtain rfl := List.mem_singleton.1 he
                    exact hok
                clear hok HTk hrr hle
                obtain ⟨le, hle⟩ : ∃ le, entLine ⟨eo, ei⟩ = le := ⟨_, rfl⟩
                rw [hle] at HLE HT2
                clear hle
                go_wp2_with fail
                refine (HIn.out [eo, ei] _ _ _ (IAt.new' (l := [eo, ei]) (by simp)) (by simp)).mono ?_
                rintro e w3 ⟨rfl, rfl⟩
                rw [hoe]
                clear hoe
                go_wp2_with fail
                refine (HLE.out _ _ _ (((HK.out.alloc _).alloc _).alloc _) (IAt.new' (l := [eo, ei]) (by simp))).mono ?_
                rintro e w5 ⟨rfl, k5⟩
                have kA := (((Kept.refl [] wr).alloc (.cells #[.int .i64 eo, .int .i64 ei] 56)).alloc (.cells #[.int .i64 eo, .int .i64 ei] 3)).alloc (.cells #[.int .i64 eo, .int .i64 ei] 3)
                have S5 := HS.out.kept (kA.trans k5)
                have K5 := HK.out.trans (kA.trans k5)
                have HRun := Lib.hid (app_S le S5 K5 (by have := HN.out; omega))
                clear kA k5 S5 K5
                go_wp2_with (at_builtin; refine wpList_app rfl (.tmp 72) (.tmp 79) _ rfl _ _ rfl rfl (HRun.out _) ?_; rintro v6 w6 ⟨A6, c6, rfl, o6, k6⟩; clear HRun)
                go_roundw
                case rel => exact ⟨k + 1, L ++ [le], A6, c6, by omega, by go_num, by simp, by rw [Hid, List.length_append, List.length_singleton, HN.out], HT2, HO2, Lib.hid o6, Lib.hid k6⟩
                case measure => simp [RowKit.intOf]; omega
            · obtain rfl : k = ents.length := by omega
              have hLs : L = slotLines ⟨id, st, len, gen, room, 1, false, ents⟩ := by
                rw [HT.out, HH.out, List.take_length]
                rfl
              have hv : okS ⟨id, st, len, gen, room, 1, false, ents⟩ = true := okS_yes H4.out HG.out (by simp) (by
                have := HO.out
                rw [List.take_length] at this
                exact this)
              replace hLs := Lib.hid hLs
              replace hv := Lib.hid hv
              go_wp2_with fail
              exact HYes.out _ L A' c' hv.out hLs.out HS.out HK.out
        · replace HH : Hid (h0 ++ tI = slotLine ⟨id, st, len, gen, room, 1, true, ents⟩) := by
            have h := HH.out
            rw [if_pos rfl] at h
            exact h
          have hla : (⟨h0.toArray⟩ : ByteArray) ++ ⟨#[32, 105, 110, 118, 97, 108, 105, 100]⟩ = ⟨(h0 ++ tI).toArray⟩ := list_append h0 tI
          obtain ⟨hd, hhd⟩ : ∃ hd, h0 ++ tI = hd := ⟨_, rfl⟩
          rw [hhd] at HH hla
          clear hhd
          have b7 := B2.out.cell 7
          simp only [List.getElem?_toArray, List.getElem?_cons_zero, List.getElem?_cons_succ] at b7
          have b7a := ((Kept.refl [] w2).alloc (.cells #[.string ⟨hd.toArray⟩] 9)).cell b7 (fun h => by cases h)
          have O2 := Lib.hid (own_down (oneS w2 hd) K2.out.size)
          go_wp2_with fail
          go_loopw [7, 61] (fun t i V => ∃ (k : Nat) (L : List Bs) (A' : Option Addr) (c' : Nat), k ≤ ents.length ∧ i = .int .i64 k ∧ t = .slice A' L.length c' ∧ Hid (L.length = k + 1) ∧ Hid (L = hd :: (ents.take k).map entLine) ∧ Hid (∀ e ∈ ents.take k, okE e = true) ∧ Hid (SAt w.heap.size V A' c' L) ∧ Hid (Kept [] w V)) (fun _ i _ => ents.length - (RowKit.intOf i).toNat)
          case atStart => exact ⟨0, [hd], some ⟨w2.heap.size, 0, none⟩, 1, Nat.zero_le _, rfl, rfl, rfl, rfl, (fun _ h => by cases h), O2.out, K2.out.alloc _⟩
          case round =>
            obtain ⟨k, L, A', c', hk, rfl, rfl, HN, HT, HO, HS, HK⟩ := hrel
            by_cases hlt : k < ents.length
            · obtain ⟨b, o, rfl, d0, d1⟩ := HE.out.at_ hlt
              have c0 := HK.out.cell d0 (fun h => by cases h)
              have c1 := HK.out.cell d1 (fun h => by cases h)
              have hki : (k : Int) < (ents.length : Int) := by omega
              have hwk : IntKind.i64.wrap ((k : Int) + 1) = (k : Int) + 1 := IntWalk.i64_in _ (by omega)
              have HME : Hid (okE ents[k] = false → okS ⟨id, st, len, gen, room, 1, true, ents⟩ = false) := okS_ent (List.getElem_mem hlt)
              have HTk : Hid (ents.take (k + 1) = ents.take k ++ [ents[k]]) := List.take_succ_eq_append_getElem hlt
              clear d0 d1
              generalize ents[k] = en at *
              obtain ⟨eo, ei⟩ := en
              dsimp only at c0 c1
              have hoe := okE_two ⟨eo, ei⟩
              dsimp only at hoe
              cases hok : okE ⟨eo, ei⟩ with
              | false =>
                have hv := Lib.hid (HME.out hok)
                rw [hok] at hoe
                clear hok HTk
                go_wp2_with fail
                refine (HIn.out [eo, ei] _ _ _ (IAt.new' (l := [eo, ei]) (by simp)) (by simp)).mono ?_
                rintro e w3 ⟨rfl, rfl⟩
                rw [hoe]
                go_wp2_with fail
                exact HNo.out _ hv.out ((HK.out.alloc _).alloc _)
              | true =>
                rw [hok] at hoe
                have hrr : ∀ y ∈ [eo, ei], in32 y = true := List.all_eq_true.1 hoe
                have HLE := Lib.hid (fun V b c k h => HLi.out tE V b c [eo, ei] k h (by decide) rfl hrr)
                have hle : hashL tE [eo, ei] = entLine ⟨eo, ei⟩ := line_ent eo ei
                rw [hle] at HLE
                have HT2 : Hid (L ++ [entLine ⟨eo, ei⟩] = hd :: (ents.take (k + 1)).map entLine) := by
                  rw [Hid, HTk.out, HT.out, List.map_append]
                  rfl
                have HO2 : Hid (∀ e ∈ ents.take (k + 1), okE e = true) := fun e he => by
                  rw [HTk.out] at he
                  rcases List.mem_append.1 he with he | he
                  · exact HO.out e he
                  · obtain rfl := List.mem_singleton.1 he
                    exact hok
                clear hok HTk hrr hle
                obtain ⟨le, hle⟩ : ∃ le, entLine ⟨eo, ei⟩ = le := ⟨_, rfl⟩
                rw [hle] at HLE HT2
                clear hle
                go_wp2_with fail
                refine (HIn.out [eo, ei] _ _ _ (IAt.new' (l := [eo, ei]) (by simp)) (by simp)).mono ?_
                rintro e w3 ⟨rfl, rfl⟩
                rw [hoe]
                clear hoe
                go_wp2_with fail
                refine (HLE.out _ _ _ (((HK.out.alloc _).alloc _).alloc _) (IAt.new' (l := [eo, ei]) (by simp))).mono ?_
                rintro e w5 ⟨rfl, k5⟩
                have kA := (((Kept.refl [] wr).alloc (.cells #[.int .i64 eo, .int .i64 ei] 56)).alloc (.cells #[.int .i64 eo, .int .i64 ei] 3)).alloc (.cells #[.int .i64 eo, .int .i64 ei] 3)
                have S5 := HS.out.kept (kA.trans k5)
                have K5 := HK.out.trans (kA.trans k5)
                have HRun := Lib.hid (app_S le S5 K5 (by have := HN.out; omega))
                clear kA k5 S5 K5
                go_wp2_with (at_builtin; refine wpList_app rfl (.tmp 72) (.tmp 79) _ rfl _ _ rfl rfl (HRun.out _) ?_; rintro v6 w6 ⟨A6, c6, rfl, o6, k6⟩; clear HRun)
                go_roundw
                case rel => exact ⟨k + 1, L ++ [le], A6, c6, by omega, by go_num, by simp, by rw [Hid, List.length_append, List.length_singleton, HN.out], HT2, HO2, Lib.hid o6, Lib.hid k6⟩
                case measure => simp [RowKit.intOf]; omega
            · obtain rfl : k = ents.length := by omega
              have hLs : L = slotLines ⟨id, st, len, gen, room, 1, true, ents⟩ := by
                rw [HT.out, HH.out, List.take_length]
                rfl
              have hv : okS ⟨id, st, len, gen, room, 1, true, ents⟩ = true := okS_yes H4.out HG.out (by simp) (by
                have := HO.out
                rw [List.take_length] at this
                exact this)
              replace hLs := Lib.hid hLs
              replace hv := Lib.hid hv
              go_wp2_with fail
              exact HYes.out _ L A' c' hv.out hLs.out HS.out HK.out
      · have hv := Lib.hid (okS_state (x := ⟨id, st, len, gen, room, state, inv, ents⟩) hs1 hs2)
        have hb1 : (state == 1) = false := by simpa using hs1
        have hb2 : (state == 2) = false := by simpa using hs2
        go_wp2_with fail
        refine (HIn.out [id, st, len, room] _ _ _ (IAt.new' (l := [id, st, len, room]) (by simp)) (by simp)).mono ?_
        rintro e w1 ⟨rfl, rfl⟩
        rw [H4.out]
        go_wp2_with fail
        exact HNo.out _ hv.out (K0.out.alloc _)
end Go.Proofs.YtooplogodcadgaaDoor
