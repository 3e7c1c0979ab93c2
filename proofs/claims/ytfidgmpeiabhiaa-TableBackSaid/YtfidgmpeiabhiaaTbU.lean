/- Tables: the document's: All: its walk; whether two lists of exceptions are one. -/
import Derived.Test.YtfidgmpeiabhiaaTbT
namespace Go.Proofs.Ytfidgmpeiabhiaa
open Go.RowKit Go.Maps

theorem enApp_run {W wr : World} {A' : Option Addr} {c' : Nat} {l : List En} (x : En) (HO : wr.ownsRow W.heap.size 55 2 (.slice A' l.length c') l.length (l.flatMap enE)) (hn : l.length ≤ 2000000) (ty : TypeId) :
    ∃ v' w', (Builtin.append_ #[51, 51] ty #[.slice A' l.length c', .slice (some ⟨wr.heap.size, 0, none⟩) 1 1]).run Try.prog (wr.alloc (.cells #[.int .i64 x.org, .int .i64 x.idx] 55)) = .ok v' w' ∧ w'.ownsRow 0 55 2 v' (l.length + 1) (l.flatMap enE ++ enE x) ∧ (wr.alloc (.cells #[.int .i64 x.org, .int .i64 x.idx] 55)).grownBy w' (Value.slice A' l.length c').ownBlock ∧
      (v'.ownBlock = (Value.slice A' l.length c').ownBlock ∨ v'.ownBlock = some (wr.alloc (.cells #[.int .i64 x.org, .int .i64 x.idx] 55)).heap.size) := by
  obtain ⟨i0, p0, p1, p2, p3⟩ := info_parts infoE
  exact run_app (P := Try.prog) (wr.alloc (.cells #[.int .i64 x.org, .int .i64 x.idx] 55)) 51 ty 55 i0 _ 2 16 Try.underlying51 p0 p1 p2 p3 rfl (by decide) _ _ _ (own_down (HO.alloc _) (Nat.zero_le _)) (some ⟨wr.heap.size, 0, none⟩) 1 1 (enE x) (by simp [enE]) (fun h => by cases h) (fun _ => ⟨_, 0, rfl, fun j u hu => by
    have := World.news_of_block (Blk.new wr 55 #[.int .i64 x.org, .int .i64 x.idx]) j u hu
    rwa [Addr.add_lit] at this⟩) (by intro u hu; simp [enE] at hu; rcases hu with rfl | rfl <;> rfl) (by simp only [maxLen]; omega) (by omega)
theorem enApp_fin {W wr w4 : World} {A' : Option Addr} {c' : Nat} {l : List En} {x : En} {v : Value} (HO : wr.ownsRow W.heap.size 55 2 (.slice A' l.length c') l.length (l.flatMap enE)) (HK : Kept [] W wr)
    (h2 : w4.ownsRow 0 55 2 v (l.length + 1) (l.flatMap enE ++ enE x)) (h3 : (wr.alloc (.cells #[.int .i64 x.org, .int .i64 x.idx] 55)).grownBy w4 (Value.slice A' l.length c').ownBlock)
    (h4 : v.ownBlock = (Value.slice A' l.length c').ownBlock ∨ v.ownBlock = some (wr.alloc (.cells #[.int .i64 x.org, .int .i64 x.idx] 55)).heap.size) :
    w4.ownsRow W.heap.size 55 2 v (l ++ [x]).length ((l ++ [x]).flatMap enE) ∧ Kept [] W w4 := by
  have hlo : ∀ j, (Value.slice A' l.length c').ownBlock = some j → W.heap.size ≤ j := fun j hj => (HO.lt j hj).1
  refine ⟨?_, (HK.alloc _).grown h3 (fun j e => .inr (hlo j e))⟩
  rw [List.length_append, List.length_singleton, List.flatMap_append]
  refine own_up (by simpa using h2) (fun j hj => ?_)
  rcases h4 with h | h
  · exact hlo j (h ▸ hj)
  · rw [h] at hj
    injection hj with hj
    subst hj
    have := HK.size
    simp
    omega
def intOf' : Value → Int
  | .int _ n => n
  | _ => 0
def DAllPost (p : List Int) (W : World) (e : Ending) (w' : World) : Prop := ∃ (A : Option Addr) (c : Nat) (l : List En), e = .returned (.slice A l.length c) ∧ IsAll p l ∧ w'.ownsRow W.heap.size 55 2 (.slice A l.length c) l.length (l.flatMap enE) ∧ Kept [] W w'
set_option maxRecDepth 4000 in
set_option maxHeartbeats 4000000 in
theorem rf_All (W : World) (n₀ : Nat) (A : Option Addr) (c : Nat) (p : List Int) (h : DtAt n₀ W (.slice A p.length c) p) (hp : Tok p) (hn : p.length ≤ 1048576) :
    Calls Try.prog 29 #[.slice A p.length c] W (DAllPost p W) := by
  have HS := h.at_
  have HP := Lib.hid hp
  clear h hp
  go_enter Try.func29, Try.ntmps29
  go_wp2_with fail
  go_loopw [3, 4] (fun v i V => ∃ (last : Int) (l : List En) (c' : Nat) (A' : Option Addr), i = .int .i64 last ∧ v = .slice A' l.length c' ∧ Hid (AllI p last l) ∧ Hid (V.ownsRow W.heap.size 55 2 (.slice A' l.length c') l.length (l.flatMap enE)) ∧ Hid (Kept [] W V)) (fun _ i _ => p.countP (fun x => decide (intOf' i < x)))
  case atStart => exact ⟨-1, [], 0, none, rfl, rfl, AllI.start p, World.ownsRow_nil _ _ _ _, Kept.refl _ _⟩
  case round =>
    obtain ⟨last, l, c', A', rfl, rfl, HA, HO, HK⟩ := hrel
    have hlo := HA.out.lo
    obtain ⟨W0, rfl⟩ : ∃ W0, W0 = wr := ⟨wr, rfl⟩
    go_wp2_with fail
    go_loopw [5, 6] (fun b i V => ∃ (bv : Int) (k : Nat), k ≤ p.length ∧ i = .int .i64 k ∧ b = .int .i64 bv ∧ -1 ≤ bv ∧ bv ≤ p.length ∧ Hid (Best p last k bv) ∧ Hid (Dr W0 V)) (fun _ i _ => p.length - (intOf i).toNat)
    case atStart => exact ⟨-1, 0, Nat.zero_le _, rfl, rfl, by omega, by omega, .inl ⟨rfl, fun j _ h => by omega⟩, Dr.refl _⟩
    case round =>
      obtain ⟨bv, k, hk, rfl, rfl, hb1, hb2, HB, HD⟩ := hrel
      by_cases hlt : k < p.length
      · obtain ⟨b, rfl, h0⟩ := HS.out k hlt
        have c0 := (HK.out.trans HD.out.kept).cell h0 (fun h => by cases h)
        have hki : (k : Int) < (p.length : Int) := by omega
        have HBs := Lib.hid (HB.out.skip hlt)
        have HBf := Lib.hid (fun h1 h2 => HB.out.first h1 hlt h2)
        obtain ⟨y, hy⟩ : ∃ y, Hid (p[k] = y) := ⟨_, Lib.hid rfl⟩
        rw [hy.out] at c0 HBs HBf
        clear h0
        by_cases hyl : y ≤ last
        · have hyn : ¬ last < y := by omega
          replace HBs := Lib.hid (HBs.out hyl)
          have hyd : decide (last < y) = false := decide_eq_false hyn
          clear hyl hyn
          go_wp2_with fail
          go_quiet (fail)
          go_wp2_with fail
          go_roundw
          case rel => exact ⟨bv, k + 1, by omega, by go_num, rfl, hb1, hb2, HBs.out, HD.out.drewN nq⟩
          case measure => simp [intOf]; omega
        · have hyl2 : last < y := by omega
          by_cases hb0 : bv < 0
          · have HBg := Lib.hid (HBf.out hb0 hyl2)
            clear HB HBs HBf
            obtain rfl : bv = -1 := by omega
            clear hb0 hb1 hb2
            go_wp2_with fail
            go_quiet (fail)
            go_wp2_with fail
            go_roundw
            case rel => exact ⟨k, k + 1, by omega, by go_num, rfl, by omega, by omega, HBg.out, HD.out.drewN nq⟩
            case measure => simp [intOf]; omega
          · obtain ⟨d, rfl⟩ : ∃ d : Nat, bv = (d : Int) := ⟨bv.toNat, by omega⟩
            have hdl : d < p.length := by
              rcases HB.out with ⟨h1, _⟩ | ⟨e, he, h1, _⟩ <;> omega
            obtain ⟨b2, e2, h2⟩ := HS.out d hdl
            injection e2 with e2
            injection e2 with e2
            subst e2
            have c2 := (HK.out.trans HD.out.kept).cell h2 (fun h => by cases h)
            have HBl := Lib.hid (fun h1 h2 => HB.out.less hdl hlt h1 h2)
            have HBk := Lib.hid (fun h1 => HB.out.keep hdl hlt h1)
            obtain ⟨z, hz⟩ : ∃ z, Hid (p[d] = z) := ⟨_, Lib.hid rfl⟩
            rw [hy.out, hz.out] at HBl HBk
            rw [hz.out] at c2
            have hdi : (d : Int) < (p.length : Int) := by omega
            clear h2
            by_cases hyz : y < z
            · go_wp2_with fail
              go_quiet (fail)
              go_wp2_with fail
              go_roundw
              case rel => exact ⟨k, k + 1, by omega, by go_num, rfl, by omega, by omega, HBl.out hyl2 hyz, HD.out.drewN nq⟩
              case measure => simp [intOf]; omega
            · go_wp2_with fail
              go_quiet (fail)
              go_wp2_with fail
              go_roundw
              case rel => exact ⟨d, k + 1, by omega, by go_num, rfl, hb1, hb2, HBk.out hyz, HD.out.drewN nq⟩
              case measure => simp [intOf]; omega
      · obtain rfl : k = p.length := by omega
        have HK2 := Lib.hid (HK.out.trans HD.out.kept)
        have HO2 := Lib.hid (HD.out.kept.owns HO.out (fun _ _ h => by cases h))
        by_cases hb0 : bv < 0
        · have hall : Hid (∀ j, (hj : j < p.length) → j < p.length → p[j] ≤ last) := by
            rcases HB.out with ⟨_, h⟩ | ⟨e, he, h1, _⟩
            · exact h
            · omega
          replace hall := Lib.hid (HA.out.end_ hall.out)
          clear HB hb1 hb2
          go_wp2_with fail
          go_ret
          exact ⟨A', c', l, rfl, hall.out, HO2.out, HK2.out⟩
        · obtain ⟨d, rfl⟩ : ∃ d : Nat, bv = (d : Int) := ⟨bv.toNat, by omega⟩
          have hdl : d < p.length := by
            rcases HB.out with ⟨h1, _⟩ | ⟨e, he, h1, _⟩ <;> omega
          obtain ⟨b2, rfl, h2⟩ := HS.out d hdl
          have c2 := (HK.out.trans HD.out.kept).cell h2 (fun h => by cases h)
          have HSt := Lib.hid (HA.out.step HP.out hdl HB.out)
          have hlast : last < p[d] := by
            rcases HB.out with ⟨h1, _⟩ | ⟨e, he, h1, h2, h3, _⟩
            · omega
            · obtain rfl : d = e := by omega
              exact h3
          have HLs := Lib.hid hlast
          have HC := Lib.hid (count_less (p := p) (f := fun x => decide (p[d] < x)) (g := fun x => decide (last < x)) (fun x hx => by simp only [decide_eq_true_eq] at hx ⊢; omega) (List.getElem_mem hdl) (by simpa using hlast) (by simp))
          have hll : l.length ≤ 1048576 := by
            have := HA.out.cnt
            omega
          obtain ⟨z, hz⟩ : ∃ z, Hid (p[d] = z) := ⟨_, Lib.hid rfl⟩
          rw [hz.out] at c2 HSt HC
          have hdi : (d : Int) < (p.length : Int) := by omega
          clear h2 hlast HLs HB
          have HRun := Lib.hid (fun ty => enApp_run (W := W) ⟨z, d⟩ HO2.out (by omega) ty)
          go_wp2_with (at_builtin; refine wpList_app rfl (.tmp 42) (.tmp 46) _ rfl _ _ rfl rfl (HRun.out _) ?_; rintro v3 w4 ⟨hr2, hr3, hr4⟩; obtain ⟨A3, c3, rfl, _⟩ := own_slice hr2; have HR2 := Lib.hid hr2; have HR3 := Lib.hid hr3; have HR4 := Lib.hid hr4; clear hr2 hr3 hr4 HRun)
          go_roundw
          case rel =>
            have h5 := enApp_fin HO2.out HK2.out HR2.out HR3.out HR4.out
            have hle : (l ++ [(⟨z, d⟩ : En)]).length = l.length + 1 := by simp
            refine ⟨z, _, c3, A3, rfl, by rw [hle], HSt.out, ?_, h5.2⟩
            rw [Hid, hle]
            rw [hle] at h5
            exact h5.1
          case measure => exact HC.out
end Go.Proofs.Ytfidgmpeiabhiaa
