/- Commands: the document's words. -/
import Derived.Test.YtooplogodcadgaaDoorCmC
import Derived.Deep.RegionHeld3
namespace Go.Proofs.YtooplogodcadgaaDoor
open Go.RowKit Go.Lib

def sV (l : Bs) : Value := .string ⟨l.toArray⟩
theorem infoS : (Tryd.prog.info? 9).map (fun i => (i.zero, i.size, i.bytes)) = some (some (.string ByteArray.empty), 1, 16) := by kernel_rfl
theorem extract_list2 (l : Bs) (a b : Nat) : (⟨l.toArray⟩ : ByteArray).extract a b = ⟨((l.drop a).take (b - a)).toArray⟩ := by
  apply ByteArray.ext
  rw [ByteArray.data_extract]
  simp [List.extract_eq_take_drop]
/-- texts lie there, of one's own -/
def SAt (n₀ : Nat) (W : World) (A : Option Addr) (c : Nat) (l : List Bs) : Prop := W.ownsRow n₀ 9 1 (.slice A l.length c) l.length (l.map sV)
theorem own_cell1 {w : World} {base e n g c : Nat} {xs : List Value} (h : w.ownsRow base e 1 (.slice (some ⟨g, 0, none⟩) n c) n xs) (j : Nat) (u : Value) (hu : xs[j]? = some u) : w.cell? ⟨g, j, none⟩ = some u := by
  have := h.cells (g := g) rfl j u hu
  rwa [Addr.add_lit, Nat.zero_add] at this
theorem own_frozen {w : World} {base e size n g c : Nat} {xs : List Value} (h : w.ownsRow base e size (.slice (some ⟨g, 0, none⟩) n c) n xs) (j : Nat) : w.frozen? ⟨g, j, none⟩ = false := by
  rcases h.2 with ⟨h2, _⟩ | ⟨g', cap, cur, e', hb, hh, _⟩
  · cases h2
  · injection e' with e1
    injection e1 with e1
    injection e1 with e1
    subst e1
    exact Blk.frozen (show Blk w g e cur from hh) j
theorem own_putE {w : World} {base e size n g c k : Nat} {xs : List Value} (h : w.ownsRow base e size (.slice (some ⟨g, 0, none⟩) n c) n xs) (u : Value) : (w.setCell ⟨g, k, none⟩ u).ownsRow base e size (.slice (some ⟨g, 0, none⟩) n c) n (xs.set k u) := by
  refine ⟨by simpa using h.1, ?_⟩
  rcases h.2 with ⟨h2, _⟩ | ⟨g', cap, cur, e', hb, hh, h1, h2, h3, h4⟩
  · cases h2
  · injection e' with e1 _ e3
    injection e1 with e1
    injection e1 with e1
    subst e1
    subst e3
    refine .inr ⟨g, c, cur.setIfInBounds k u, rfl, hb, Blk.set_ (show Blk w g e cur from hh) k u, h1, h2, by simpa using h3, ?_⟩
    rw [← h4, Array.toList_setIfInBounds, List.take_set]
theorem own_up {w : World} {base e size n : Nat} {v : Value} {xs : List Value} (h : w.ownsRow 0 e size v n xs) (hb : ∀ k, v.ownBlock = some k → base ≤ k) : w.ownsRow base e size v n xs := by
  refine ⟨h.1, ?_⟩
  rcases h.2 with h2 | ⟨g, cap, cur, rfl, _, h3⟩
  · exact .inl h2
  · exact .inr ⟨g, cap, cur, rfl, hb g rfl, h3⟩
theorem own_down {w : World} {base base' e size n : Nat} {v : Value} {xs : List Value} (h : w.ownsRow base e size v n xs) (hb : base' ≤ base) : w.ownsRow base' e size v n xs := by
  refine ⟨h.1, ?_⟩
  rcases h.2 with h2 | ⟨g, cap, cur, e, h1, h3⟩
  · exact .inl h2
  · exact .inr ⟨g, cap, cur, e, Nat.le_trans hb h1, h3⟩
theorem SAt.at_ {n₀ : Nat} {W : World} {A : Option Addr} {c : Nat} {l : List Bs} (h : SAt n₀ W A c l) {k : Nat} (hk : k < l.length) : ∃ b, A = some ⟨b, 0, none⟩ ∧ n₀ ≤ b ∧ W.cell? ⟨b, k, none⟩ = some (.string ⟨l[k].toArray⟩) ∧ W.frozen? ⟨b, k, none⟩ = false := by
  obtain ⟨b, _, e, _⟩ := own_some h (by omega)
  injection e with e _ e2
  subst e
  subst e2
  exact ⟨b, rfl, (World.ownsRow.lt h b rfl).1, own_cell1 h k _ (by simp [hk, sV]), own_frozen h k⟩
theorem SAt.kept {n₀ c : Nat} {w w' : World} {A : Option Addr} {l : List Bs} (h : SAt n₀ w A c l) (k : Kept [] w w') : SAt n₀ w' A c l := k.owns h (fun _ _ h => by cases h)
set_option maxRecDepth 4000 in
/-- one text more -/
theorem app_S {W w : World} {A' : Option Addr} {c' : Nat} {l : List Bs} (x : Bs) (HO : SAt W.heap.size w A' c' l) (HK : Kept [] W w) (hn : l.length ≤ 4000000) (ty : TypeId) :
    ∃ v' w', (Builtin.append_ #[29, 29] ty #[.slice A' l.length c', .slice (some ⟨w.heap.size, 0, none⟩) 1 1]).run Tryd.prog (w.alloc (.cells #[.string ⟨x.toArray⟩] 9)) = .ok v' w' ∧ ∃ (A2 : Option Addr) (c2 : Nat), v' = .slice A2 (l ++ [x]).length c2 ∧ SAt W.heap.size w' A2 c2 (l ++ [x]) ∧ Kept [] W w' := by
  obtain ⟨i0, p0, p1, p2, p3⟩ := info_parts infoS
  have hlo : ∀ j, (Value.slice A' l.length c').ownBlock = some j → W.heap.size ≤ j := fun j hj => (World.ownsRow.lt HO j hj).1
  obtain ⟨v', w', hr, h2, h3, h4⟩ := run_app (P := Tryd.prog) (w.alloc (.cells #[.string ⟨x.toArray⟩] 9)) 29 ty 9 i0 _ 1 16 Tryd.underlying29 p0 p1 p2 p3 rfl (by decide) _ _ _ (own_down (World.ownsRow.alloc HO _) (Nat.zero_le _)) (some ⟨w.heap.size, 0, none⟩) 1 1 [sV x] rfl (fun h => by cases h) (fun _ => ⟨_, 0, rfl, fun j u hu => by
    have := World.news_of_block (Blk.new w 9 #[sV x]) j u hu
    rwa [Addr.add_lit] at this⟩) (by simp [sV, Value.oneCell']) (by simp only [maxLen]; omega) (by omega)
  have h5 : w'.ownsRow W.heap.size 9 1 v' (l.length + 1) ((l ++ [x]).map sV) := by
    rw [List.map_append]
    refine own_up h2 (fun j hj => ?_)
    rcases h4 with h | h
    · exact hlo j (h ▸ hj)
    · rw [h] at hj
      injection hj with hj
      subst hj
      have := HK.size
      simp
      omega
  have e1 : l.length + 1 = (l ++ [x]).length := by simp
  rw [e1] at h5
  obtain ⟨A2, c2, rfl, _⟩ := own_slice h5
  exact ⟨_, w', hr, A2, c2, rfl, h5, (HK.alloc _).grown h3 (fun j e => .inr (hlo j e))⟩
theorem spl_snoc : ∀ {p : Bs} {c : UInt8} {pre : List Bs} {x : Bs}, c ≠ 32 → spl p = pre ++ [x] → spl (p ++ [c]) = pre ++ [x ++ [c]]
  | [], c, pre, x, hc, h => by
    cases pre with
    | nil =>
      injection h with h
      subst h
      rw [List.nil_append, spl_other hc (show spl [] = [] :: [] from rfl)]
      rfl
    | cons a t =>
      have := congrArg List.length h
      simp [spl] at this
  | d :: p, c, pre, x, hc, h => by
    obtain ⟨a, r, e⟩ := spl_ne p
    rw [List.cons_append]
    by_cases hd : d = 32
    · subst hd
      rw [spl_blank] at h ⊢
      cases pre with
      | nil =>
        have := congrArg List.length h
        rw [List.length_cons, e] at this
        simp at this
      | cons y t =>
        injection h with h1 h2
        rw [spl_snoc hc h2, ← h1]
        rfl
    · rw [spl_other hd e] at h
      cases pre with
      | nil =>
        injection h with h1 h2
        subst h2
        have e2 := spl_snoc (pre := []) hc (show spl p = [] ++ [a] from e)
        rw [spl_other hd e2, ← h1]
        rfl
      | cons y t =>
        injection h with h1 h2
        have e2 := spl_snoc (pre := a :: t) (x := x) hc (show spl p = (a :: t) ++ [x] by rw [e, h2]; rfl)
        rw [spl_other hd e2, ← h1]
        rfl
def WordsPost (s : Bs) (w : World) (e : Ending) (w' : World) : Prop := ∃ (A : Option Addr) (c : Nat), e = .returned (.slice A (spl s).length c) ∧ SAt w.heap.size w' A c (spl s) ∧ Kept [] w w'
theorem oneS (w : World) (x : Bs) : SAt w.heap.size (w.alloc (.cells #[.string ⟨x.toArray⟩] 9)) (some ⟨w.heap.size, 0, none⟩) 1 [x] := ⟨by simp, .inr ⟨w.heap.size, 1, #[.string ⟨x.toArray⟩], rfl, Nat.le_refl _, heap_alloc_new w _, Nat.le_refl _, by decide, by simp, by simp [sV]⟩⟩
set_option maxRecDepth 4000 in
set_option maxHeartbeats 2000000 in
theorem ref_Words (s : Bs) (w : World) (hs : s.length ≤ 1000000) : Calls Tryd.prog 37 #[.string ⟨s.toArray⟩] w (WordsPost s w) := by
  have HF : Hid (∀ e w', (∃ (A : Option Addr) (c : Nat), e = .returned (.slice A (spl s).length c) ∧ SAt w.heap.size w' A c (spl s) ∧ Kept [] w w') → WordsPost s w e w') := fun _ _ h => h
  generalize WordsPost s w = Q at *
  have HO1 := Lib.hid (oneS w [])
  have K1 := Lib.hid ((Kept.refl [] w).alloc (.cells #[.string ⟨([] : Bs).toArray⟩] 9))
  go_enter Tryd.func37, Tryd.ntmps37
  go_wp2_with fail
  go_loopw [3, 4] (fun o i V => ∃ (k : Nat) (L : List Bs) (A' : Option Addr) (c' : Nat), k ≤ s.length ∧ i = .int .i64 k ∧ o = .slice A' L.length c' ∧ Hid (L = spl (s.take k)) ∧ Hid (SAt w.heap.size V A' c' L) ∧ Hid (Kept [] w V)) (fun _ i _ => s.length - (intOf i).toNat)
  case atStart => exact ⟨0, [[]], _, 1, Nat.zero_le _, rfl, rfl, rfl, HO1, K1⟩
  case round =>
    obtain ⟨k, L, A', c', hk, rfl, rfl, HE, HO, HK⟩ := hrel
    by_cases hlt : k < s.length
    · have hb : (⟨s.toArray⟩ : ByteArray)[k]'hlt = s[k] := rfl
      have hki : (k : Int) < (s.length : Int) := by omega
      have hL0 : Hid (L ≠ []) := by
        obtain ⟨a, r, e⟩ := spl_ne (s.take k)
        rw [Hid, HE.out, e]
        exact fun h => by cases h
      have hLn : L.length ≤ s.length + 1 := by
        rw [HE.out, spl_len]
        have h1 := List.count_le_length (a := (32 : UInt8)) (l := s.take k)
        rw [List.length_take] at h1
        omega
      have HT : Hid (s.take (k + 1) = s.take k ++ [s[k]]) := List.take_succ_eq_append_getElem hlt
      by_cases hc : s[k] = 32
      · have hbn : (⟨s.toArray⟩ : ByteArray)[k]'hlt = 32 := hc
        have HN : Hid (L ++ [[]] = spl (s.take (k + 1))) := by rw [Hid, HT.out, hc, spl_behind, HE.out]
        have HRun := Lib.hid (app_S [] HO.out HK.out (by omega))
        clear hb hc
        go_wp2_with (at_builtin; refine wpList_app rfl (.tmp 16) (.tmp 17) _ rfl _ _ rfl rfl (HRun.out _) ?_; rintro v5 w5 ⟨A5, c5, rfl, o5, k5⟩; clear HRun)
        go_roundw
        case rel => exact ⟨k + 1, L ++ [[]], A5, c5, by omega, by go_num, by simp, HN, Lib.hid o5, Lib.hid k5⟩
        case measure => simp [intOf]; omega
      · have hcb : (((s[k].toNat : Nat) : Int) == 32) = false := by
          rw [beq_eq_false_iff_ne]
          intro h
          exact hc (UInt8.toNat_inj.1 (by
            have e : (32 : UInt8).toNat = 32 := rfl
            omega))
        obtain ⟨pre, x, rfl⟩ : ∃ pre x, L = pre ++ [x] := ⟨L.dropLast, L.getLast hL0.out, (List.dropLast_concat_getLast hL0.out).symm⟩
        have HN : Hid (pre ++ [x ++ [s[k]]] = spl (s.take (k + 1))) := by rw [Hid, HT.out, spl_snoc hc HE.out.symm]
        have hxl : x.length ≤ s.length := by
          have h1 := spl_size (s.take k) x (by rw [← HE.out]; exact List.mem_append_right _ (List.mem_singleton.2 rfl))
          rw [List.length_take] at h1
          omega
        have hpl : (pre ++ [x]).length = pre.length + 1 := by simp
        obtain ⟨b, rfl, hbz, c0, f0⟩ := SAt.at_ HO.out (k := pre.length) (by omega)
        have hx : (pre ++ [x])[pre.length]'(by omega) = x := by simp
        rw [hx] at c0
        have hwl : IntKind.i64.wrap ((pre.length : Int) + 1 - 1) = (pre.length : Int) := by rw [show (pre.length : Int) + 1 - 1 = (pre.length : Int) by omega]; exact IntWalk.i64_in _ (by omega)
        have hwk : IntKind.i64.wrap ((k : Int) + 1) = (k : Int) + 1 := IntWalk.i64_in _ (by omega)
        have hex : (⟨s.toArray⟩ : ByteArray).extract k (k + 1) = ⟨[s[k]].toArray⟩ := by
          rw [extract_list2, List.drop_eq_getElem_cons hlt, show k + 1 - k = 1 by omega]
          rfl
        have hk1 : (k : Int) + 1 ≤ (s.length : Int) := by omega
        have hk0 : (0 : Int) ≤ (k : Int) := by omega
        have hcat : x.length + 1 ≤ 9223372036854775807 := by omega
        have hla := list_append x [s[k]]
        have hk2 : (k : Int) ≤ (k : Int) + 1 := by omega
        have hk3 : (0 : Int) ≤ (k : Int) + 1 := by omega
        have hp0 : (0 : Int) ≤ (pre.length : Int) := by omega
        have hp1 : (pre.length : Int) < (pre.length : Int) + 1 := by omega
        have hwp : IntKind.i64.wrap (pre.length : Int) = (pre.length : Int) := IntWalk.i64_in _ (by omega)
        rw [hpl]
        replace hpl := Lib.hid hpl
        replace hx := Lib.hid hx
        have HPut : Hid (∀ V, SAt w.heap.size V (some ⟨b, 0, none⟩) c' (pre ++ [x]) → SAt w.heap.size (V.setCell ⟨b, pre.length, none⟩ (.string ⟨(x ++ [s[k]]).toArray⟩)) (some ⟨b, 0, none⟩) c' (pre ++ [x ++ [s[k]]])) := fun V h => by
          have h1 := own_putE (k := pre.length) h (sV (x ++ [s[k]]))
          have e : ((pre ++ [x]).map sV).set pre.length (sV (x ++ [s[k]])) = (pre ++ [x ++ [s[k]]]).map sV := by
            rw [List.map_append, List.map_append, List.set_append_right _ _ (by simp), List.length_map, Nat.sub_self]
            rfl
          rw [e] at h1
          unfold SAt
          rw [List.length_append, List.length_singleton] at h1 ⊢
          exact h1
        clear hc
        go_wp2_with fail
        go_region
        have k5 : Kept [] w ((wr.setCell ⟨b, pre.length, none⟩ (.string ⟨(x ++ [s[k]]).toArray⟩)).drew) := (HK.out.setCell (.inr hbz) _).drew
        have o5 : SAt w.heap.size ((wr.setCell ⟨b, pre.length, none⟩ (.string ⟨(x ++ [s[k]]).toArray⟩)).drew) (some ⟨b, 0, none⟩) c' (pre ++ [x ++ [s[k]]]) := World.ownsRow.drew (HPut.out _ HO.out)
        go_wp2_with fail
        go_roundw
        case rel => exact ⟨k + 1, pre ++ [x ++ [s[k]]], _, c', by omega, by go_num, by simp, HN, Lib.hid o5, Lib.hid k5⟩
        case measure => simp [intOf]; omega
    · obtain rfl : k = s.length := by omega
      have HN : Hid (L = spl s) := by
        have := HE.out
        rwa [List.take_length] at this
      go_wp2_with fail
      refine HF.out _ _ ?_
      rw [← HN.out]
      exact ⟨A', c', rfl, HO.out, HK.out⟩
end Go.Proofs.YtooplogodcadgaaDoor
