/- Dumps: the document's numbers. -/
import Derived.Test.YtooplogodcadgaaDoorDuC
import Derived.Deep.RegionHeld3
namespace Go.Proofs.YtooplogodcadgaaDoor
open Go.RowKit Go.Lib

def iV (n : Int) : Value := .int .i64 n
theorem infoI : (Tryd.prog.info? 3).map (fun i => (i.zero, i.size, i.bytes)) = some (some (.int .i64 0), 1, 8) := by kernel_rfl
/-- a row of numbers of one's own -/
abbrev IOw (n₀ : Nat) (w : World) (A : Option Addr) (c : Nat) (l : List Int) : Prop := w.ownsRow n₀ 3 1 (.slice A l.length c) l.length (l.map iV)
theorem IOw.iat {n₀ c : Nat} {w : World} {A : Option Addr} {l : List Int} (h : IOw n₀ w A c l) (hne : l ≠ []) : ∃ b, A = some ⟨b, 0, none⟩ ∧ n₀ ≤ b ∧ IAt w b l := by
  obtain ⟨g, c', e, hc⟩ := own_some h (List.length_pos_iff.2 hne)
  injection e with e _ e2
  subst e
  subst e2
  exact ⟨g, rfl, (World.ownsRow.lt h g rfl).1, fun k hk => own_cell1 h k _ (by rw [List.getElem?_map, List.getElem?_eq_getElem hk]; rfl)⟩
set_option maxRecDepth 4000 in
/-- one number more -/
theorem app_I {W w : World} {A' : Option Addr} {c' : Nat} {l : List Int} (x : Int) (HO : IOw W.heap.size w A' c' l) (HK : Kept [] W w) (hn : l.length ≤ 4000000) (ty : TypeId) :
    ∃ v' w', (Builtin.append_ #[61, 61] ty #[.slice A' l.length c', .slice (some ⟨w.heap.size, 0, none⟩) 1 1]).run Tryd.prog (w.alloc (.cells #[.int .i64 x] 3)) = .ok v' w' ∧ ∃ (A2 : Option Addr) (c2 : Nat), v' = .slice A2 (l ++ [x]).length c2 ∧ IOw W.heap.size w' A2 c2 (l ++ [x]) ∧ Kept [] W w' := by
  obtain ⟨i0, p0, p1, p2, p3⟩ := info_parts infoI
  have hlo : ∀ j, (Value.slice A' l.length c').ownBlock = some j → W.heap.size ≤ j := fun j hj => (World.ownsRow.lt HO j hj).1
  obtain ⟨v', w', hr, h2, h3, h4⟩ := run_app (P := Tryd.prog) (w.alloc (.cells #[.int .i64 x] 3)) 61 ty 3 i0 _ 1 8 Tryd.underlying61 p0 p1 p2 p3 rfl (by decide) _ _ _ (own_down (World.ownsRow.alloc HO _) (Nat.zero_le _)) (some ⟨w.heap.size, 0, none⟩) 1 1 [iV x] rfl (fun h => by cases h) (fun _ => ⟨_, 0, rfl, fun j u hu => by
    have := World.news_of_block (Blk.new w 3 #[iV x]) j u hu
    rwa [Addr.add_lit] at this⟩) (by simp [iV, Value.oneCell']) (by simp only [maxLen]; omega) (by omega)
  have h5 : w'.ownsRow W.heap.size 3 1 v' (l.length + 1) ((l ++ [x]).map iV) := by
    rw [List.map_append]
    refine own_up h2 (fun j hj => ?_)
    rcases h4 with h | h
    · exact hlo j (h ▸ hj)
    · rw [h] at hj
      injection hj with hj
      subst hj
      have := HK.size
      simp
      omega
  have e1 : l.length + 1 = (l ++ [x]).length := by simp
  rw [e1] at h5
  obtain ⟨A2, c2, rfl, _⟩ := own_slice h5
  exact ⟨_, w', hr, A2, c2, rfl, h5, (HK.alloc _).grown h3 (fun j e => .inr (hlo j e))⟩
def NumsPost (s f : Bs) (w : World) (e : Ending) (w' : World) : Prop := Kept [] w w' ∧ ((numsW (spl s) (spl f) = none ∧ e = .returned (.tuple #[.slice none 0 0, .bool false])) ∨ ∃ (ns : List Int) (A : Option Addr) (c : Nat), numsW (spl s) (spl f) = some ns ∧ e = .returned (.tuple #[.slice A ns.length c, .bool true]) ∧ IOw w.heap.size w' A c ns)
set_option maxRecDepth 4000 in
set_option maxHeartbeats 4000000 in
theorem ref_numbers (s f : Bs) (w : World) (hs : s.length ≤ 1000000) (hf : f.length ≤ 1000000) : Calls Tryd.prog 24 #[.string ⟨s.toArray⟩, .string ⟨f.toArray⟩] w (NumsPost s f w) := by
  have HNo : Hid (∀ w', numsW (spl s) (spl f) = none → Kept [] w w' → NumsPost s f w (.returned (.tuple #[.slice none 0 0, .bool false])) w') := fun w' h k => ⟨k, .inl ⟨h, rfl⟩⟩
  have HYes : Hid (∀ w' (ns : List Int) (A : Option Addr) (c : Nat), numsW (spl s) (spl f) = some ns → IOw w.heap.size w' A c ns → Kept [] w w' → NumsPost s f w (.returned (.tuple #[.slice A ns.length c, .bool true])) w') := fun w' ns A c h o k => ⟨k, .inr ⟨ns, A, c, h, rfl, o⟩⟩
  have HW := Lib.hid (fun (V : World) => ref_Words s V hs)
  have HV := Lib.hid (fun (V : World) => ref_Words f V hf)
  unfold WordsPost at HW HV
  generalize NumsPost s f w = Q at *
  have HSz : Hid (∀ x ∈ spl s, x.length ≤ 1000000) := fun x hx => by
    have := spl_size s x hx
    omega
  have hls : (spl s).length ≤ 1000001 := by
    rw [spl_len]
    have := List.count_le_length (a := (32 : UInt8)) (l := s)
    omega
  have hlf : (spl f).length ≤ 1000001 := by
    rw [spl_len]
    have := List.count_le_length (a := (32 : UInt8)) (l := f)
    omega
  generalize spl s = ls at *
  generalize spl f = fs at *
  go_enter Tryd.func24, Tryd.ntmps24
  go_wp2_with fail
  refine (HW.out _).mono ?_
  rintro e w1 ⟨A1, c1, rfl, o1, k1⟩
  have K1 := Lib.hid k1
  have O1 := Lib.hid o1
  clear k1 o1
  go_wp2_with fail
  refine (HV.out _).mono ?_
  rintro e w2 ⟨A2, c2, rfl, o2, k2⟩
  have K2 := Lib.hid (K1.out.trans k2)
  have O2 := Lib.hid o2
  have P2 := Lib.hid (O1.out.kept k2)
  have hz2 : w.heap.size ≤ w2.heap.size := K2.out.size
  clear k2 o2 O1 K1 HW HV
  by_cases hl : ls.length = fs.length
  · have hli : ((ls.length : Int) == (fs.length : Int)) = true := by rw [hl]; exact beq_self_eq_true _
    have hle : (ls.length : Int) = (fs.length : Int) := by omega
    replace hl := Lib.hid hl
    go_wp2_with fail
    go_loopw [8, 9] (fun o i V => ∃ (k : Nat) (L : List Int) (A' : Option Addr) (c' : Nat), k ≤ ls.length ∧ i = .int .i64 k ∧ o = .slice A' L.length c' ∧ L.length ≤ k ∧ Hid (numsW ls fs = (numsW (ls.drop k) (fs.drop k)).map fun r => L ++ r) ∧ Hid (IOw w2.heap.size V A' c' L) ∧ Hid (Kept [] w2 V)) (fun _ i _ => ls.length - (RowKit.intOf i).toNat)
    case atStart => exact ⟨0, [], none, 0, Nat.zero_le _, rfl, rfl, Nat.le_refl _, by simp [Hid], World.ownsRow_nil _ _ _ _, Kept.refl _ _⟩
    case round =>
      obtain ⟨k, L, A', c', hk, rfl, rfl, hLk, HE, HO, HK⟩ := hrel
      by_cases hlt : k < ls.length
      · have hki : (k : Int) < (ls.length : Int) := by omega
        have hlf2 : k < fs.length := by have := hl.out; omega
        have hkf : (k : Int) < (fs.length : Int) := by omega
        have hwk : IntKind.i64.wrap ((k : Int) + 1) = (k : Int) + 1 := IntWalk.i64_in _ (by omega)
        obtain ⟨b1, rfl, _, d1, _⟩ := SAt.at_ P2.out hlt
        obtain ⟨b2, rfl, _, d2, _⟩ := SAt.at_ O2.out hlf2
        have c1 := HK.out.cell d1 (fun h => by cases h)
        have c2 := HK.out.cell d2 (fun h => by cases h)
        have hxl := HSz.out _ (List.getElem_mem hlt)
        have HD1 := Lib.hid (List.drop_eq_getElem_cons hlt)
        have HD2 := Lib.hid (List.drop_eq_getElem_cons hlf2)
        clear d1 d2
        generalize ls[k] = x at *
        generalize fs[k] = y at *
        by_cases hy : y = [35]
        · subst hy
          have HN : Hid (numsW ls fs = ((numP x).bind fun n => (numsW (ls.drop (k + 1)) (fs.drop (k + 1))).map fun r => (L ++ [n]) ++ r)) := by
            rw [Hid, HE.out, HD1.out, HD2.out, nums_map]
            cases numP x with
            | none => rfl
            | some n =>
              cases numsW (ls.drop (k + 1)) (fs.drop (k + 1)) with
              | none => rfl
              | some r => simp
          have HNum := Lib.hid (fun (V : World) => ref_Number x m32 V (by decide) (by omega))
          unfold NumPost numI at HNum
          unfold m32 at HNum
          cases hx : numL x 4294967295 with
          | none =>
            have hn : Hid (numsW ls fs = none) := by
              rw [Hid, HN.out]
              unfold numP m32
              rw [hx]
              rfl
            rw [hx] at HNum
            clear hx HN
            dsimp only [Option.isSome_none] at HNum
            go_wp2_with fail
            refine (HNum.out _).mono ?_
            rintro e w4 ⟨rfl, rfl⟩
            go_wp2_with fail
            exact HNo.out _ hn.out (K2.out.trans HK.out)
          | some n =>
            have HE2 : Hid (numsW ls fs = (numsW (ls.drop (k + 1)) (fs.drop (k + 1))).map fun r => (L ++ [(n : Int)]) ++ r) := by
              rw [Hid, HN.out]
              unfold numP m32
              rw [hx]
              rfl
            rw [hx] at HNum
            clear hx HN
            dsimp only [Option.isSome_some] at HNum
            have HRun := Lib.hid (app_I (W := w2) (n : Int) HO.out HK.out (by omega))
            go_wp2_with fail
            refine (HNum.out _).mono ?_
            rintro e w4 ⟨rfl, rfl⟩
            go_wp2_with (at_builtin; refine wpList_app rfl (.tmp 51) (.tmp 53) _ rfl _ _ rfl rfl (HRun.out _) ?_; rintro v5 w5 ⟨A5, c5, rfl, o5, k5⟩; clear HRun)
            go_roundw
            case rel => exact ⟨k + 1, L ++ [(n : Int)], A5, c5, by omega, by go_num, by simp, by rw [List.length_append, List.length_singleton]; omega, HE2, Lib.hid o5, Lib.hid k5⟩
            case measure => simp [RowKit.intOf]; omega
        · have e1 : (y == [35]) = false := by simpa using hy
          have d1 : ¬ y = [35] := hy
          by_cases hxy : x = y
          · subst hxy
            have HE2 : Hid (numsW ls fs = (numsW (ls.drop (k + 1)) (fs.drop (k + 1))).map fun r => L ++ r) := by
              rw [Hid, HE.out, HD1.out, HD2.out, nums_word hy, if_pos rfl]
            clear hy
            go_wp2_with fail
            go_region
            go_wp2_with fail
            go_roundw
            case rel => exact ⟨k + 1, L, A', c', by omega, by go_num, rfl, by omega, HE2, Lib.hid (World.ownsRow.drew HO.out), Lib.hid (HK.out.drew)⟩
            case measure => simp [RowKit.intOf]; omega
          · have hn : Hid (numsW ls fs = none) := by
              rw [Hid, HE.out, HD1.out, HD2.out, nums_word hy, if_neg hxy]
              rfl
            have hbx := bs_ne hxy
            have e2 : (x == y) = false := by simpa using hxy
            clear hy
            go_wp2_with fail
            go_region
            go_wp2_with fail
            exact HNo.out _ hn.out (K2.out.trans HK.out.drew)
      · obtain rfl : k = ls.length := by omega
        have HV : Hid (numsW ls fs = some L) := by
          have h1 := HE.out
          have h2 := hl.out
          rw [List.drop_length, h2, List.drop_length] at h1
          rw [Hid, h1]
          simp [numsW]
        go_wp2_with fail
        exact HYes.out _ L A' c' HV.out (own_down HO.out hz2) (K2.out.trans HK.out)
  · have hle : ¬ (ls.length : Int) = (fs.length : Int) := by omega
    have hn := Lib.hid (nums_len hl)
    replace hl := Lib.hid hl
    go_wp2_with fail
    exact HNo.out w2 hn.out K2.out
end Go.Proofs.YtooplogodcadgaaDoor
