/- Tables: All: its walk. -/
import Derived.Test.YtfidgmpeiabhiaaTbK
namespace Go.Proofs.Ytfidgmpeiabhiaa
open Go.RowKit Go.Maps

theorem infoE : (Try.prog.info? 55).map (fun i => (i.zero, i.size, i.bytes)) = some (some (.agg #[.int .i64 0, .int .i64 0]), 2, 16) := by kernel_rfl
theorem enE_one (l : List En) : ∀ u ∈ l.flatMap enE, u.oneCell' = true := by
  intro u hu
  obtain ⟨x, _, hx⟩ := List.mem_flatMap.1 hu
  simp only [enE, List.mem_cons, List.not_mem_nil, or_false] at hx
  rcases hx with rfl | rfl <;> rfl
def AllPost (p : List Int) (W : World) (e : Ending) (w' : World) : Prop := ∃ (v : Value) (l : List En), e = .returned v ∧ IsAll p l ∧ l.length ≤ lenP p ∧ w'.ownsRow W.heap.size 55 2 v l.length (l.flatMap enE) ∧ Kept [] W w'
set_option maxRecDepth 4000 in
set_option maxHeartbeats 2000000 in
theorem tb_All (W : World) (n₀ : Nat) (t : Tb) (p : List Int) (h : TbAt n₀ W t p) : Calls Try.prog 22 #[tbV t] W (AllPost p W) := by
  obtain ⟨n, D, hown, hn, hs, h1, h2⟩ := h.mp
  have c1 := h.tb.cell 1
  have hbl := hown.lt
  have HO := Lib.hid hown
  have HP := Lib.hid h.ok
  have H1 := Lib.hid h1
  have H2 := Lib.hid h2
  have hlen : Maps.size D ≤ 1048576 := by rw [hs]; exact Nat.le_trans (lenP_le p) h.len
  replace hs := Lib.hid hs
  obtain ⟨i0, p0, p1, p2, p3⟩ := info_parts infoE
  replace p0 := Lib.hid p0
  replace p1 := Lib.hid p1
  replace p2 := Lib.hid p2
  replace p3 := Lib.hid p3
  clear h hown h1 h2 hn
  unfold tbV
  go_enter Try.func22, Try.ntmps22
  go_wp2_with (at_range; refine wpList_range_own _ rfl _ 57 rfl 3 3 lawI Try.underlying57 _ t.bm n _ rfl HO.out ?_; intro w0 hrg0 hg0 hs0)
  go_frame
  go_loopw [3] (fun v wr => ∃ (left : Lit → Bool) (cnt : Nat) (l : List En), wr.ranges Try.prog 3 (plainElem Try.prog 3) t.bm W.heap.size n D left cnt ∧ l.length + cnt ≤ Maps.size D ∧ Hid (wr.ownsRow W.heap.size 55 2 v l.length (l.flatMap enE)) ∧ Hid (Coll p D left l) ∧ Hid (Kept [] W wr))
    (fun _ wr => wr.rangeLeft t.bm W.heap.size)
  case atStart => exact ⟨_, _, [], hrg0, by simp, World.ownsRow_nil _ _ _ _, Coll.start H1.out HP.out, (Kept.refl [] W).grown hg0 (fun _ h => by cases h)⟩
  case round =>
    obtain ⟨left, cnt, l, hrg, hcs, hV, hC, hK⟩ := hrel
    obtain ⟨A', c', rfl, _⟩ := own_slice hV.out
    go_wp2_with (at_next; refine wpList_next_ranges_ii _ rfl _ rfl 3 3 .i64 .i64 lawI Try.underlying3 Try.underlying3 t.bm W.heap.size n _ _ _ rfl hrg ?_ ?_)
    · intro hc0 hl0
      have hll : l.length ≤ 1048576 := by omega
      have hlp : Hid (l.length ≤ lenP p) := by rw [Hid, ← hs.out]; omega
      go_wp2_with (go_at_call 38; refine (sort_E _ W.heap.size _ l hll hV.out).mono ?_; rintro e w2 ⟨rfl, l', hp, hs2, ho2, k2⟩)
      go_ret
      have hle := hp.length_eq
      refine ⟨_, l', rfl, hC.out.end_ HP.out hl0 hp hs2, by rw [hle]; exact hlp.out, ?_, hK.out.trans' k2 (fun z hz => .inr (hV.out.lt z (by simpa using hz)).1)⟩
      rw [hle]
      exact ho2
    · intro x c w1 cnt1 hwx hwc hlx hat hrg1 hlt hg1 hs1 hen
      have hV1 := hV.out.kept hg1 (by
        cases hA : (Value.slice A' l.length c').ownBlock with
        | none => exact .inl rfl
        | some j => exact .inr (by rw [← hA]; exact fun e => Go.row_ne_iter hV.out hrg e.symm))
      have hK1 := Lib.hid (hK.out.grown hg1 (fun j e => .inr (by cases e; exact Nat.le_refl _)))
      have hC1 := Lib.hid (hC.out.step H1.out H2.out hwx hlx hat)
      have hV1' := Lib.hid hV1
      have HRun := Lib.hid (fun ty => run_app (P := Try.prog) (w1.alloc (.cells #[.int .i64 x, .int .i64 c] 55)) 51 ty 55 i0 _ 2 16 Try.underlying51 p0.out p1.out p2.out p3.out rfl (by decide) _ _ _ (own_down (hV1.alloc _) (Nat.zero_le _)) (some ⟨w1.heap.size, 0, none⟩) 1 1 (enE ⟨x, c⟩) (by simp [enE]) (fun h => by cases h) (fun _ => ⟨_, 0, rfl, fun j u hu => by
        have := World.news_of_block (Blk.new w1 55 #[.int .i64 x, .int .i64 c]) j u hu
        rwa [Addr.add_lit] at this⟩) (by intro u hu; simp [enE] at hu; rcases hu with rfl | rfl <;> rfl) (by simp only [maxLen]; omega) (by omega))
      have HG := Lib.hid hrg1
      have HS1 := Lib.hid hs1
      have hltc := Lib.hid hlt
      clear hV1 hrg1 hg1 hs1 hat hlx hwx hwc hlt
      go_wp2_with (at_builtin; refine wpList_app rfl (.tmp 18) (.tmp 22) _ rfl _ _ rfl rfl (HRun.out _) ?_; rintro v3 w4 ⟨hr2, hr3, hr4⟩; obtain ⟨A3, c3, rfl, _⟩ := own_slice hr2; have HR2 := Lib.hid hr2; have HR3 := Lib.hid hr3; have HR4 := Lib.hid hr4; clear hr2 hr3 hr4 HRun)
      have hrg2 : w4.ranges Try.prog 3 (plainElem Try.prog 3) t.bm W.heap.size n D (fun z => left z && !z.sameKey (.int .i64 x)) cnt1 := (HG.out.alloc _).kept HR3.out (fun e => by
        have := (hV.out.lt t.bm e.symm).1
        omega) (Go.row_ne_iter hV.out hrg)
      go_roundw
      case rel =>
        have hlo : ∀ j, (Value.slice A' l.length c').ownBlock = some j → W.heap.size ≤ j := fun j hj => (hV.out.lt j hj).1
        refine ⟨_, cnt1, l ++ [⟨x, c⟩], hrg2, ?_, ?_, hC1, (hK1.out.alloc _).grown HR3.out (fun j e => .inr (hlo j e))⟩
        · rw [List.length_append, List.length_singleton]
          have := hltc.out
          omega
        · rw [Hid, List.length_append, List.length_singleton, List.flatMap_append]
          refine own_up (by simpa using HR2.out) (fun j hj => ?_)
          rcases HR4.out with h | h
          · exact hlo j (h ▸ hj)
          · rw [h] at hj
            injection hj with hj
            subst hj
            have := hK1.out.size
            simp
            omega
      case measure => rw [hrg2.left_eq, hrg.left_eq]; exact hltc.out
end Go.Proofs.Ytfidgmpeiabhiaa
