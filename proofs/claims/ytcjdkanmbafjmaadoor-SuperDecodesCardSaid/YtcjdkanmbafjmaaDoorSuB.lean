/- A superblock: sizes; whether one may be; its sector. -/
import Derived.Test.YtcjdkanmbafjmaaDoorSuA
import Derived.Test.YtcjdkanmbafjmaaDoorSealZ
import Derived.Test.YtcjdkanmbafjmaaDoorRefY
import Derived.Deep.RegionHeld3
namespace Go.Proofs.YtcjdkanmbafjmaaDoor
open Go.RowKit

def sv (h : Su) : Value := .agg #[.int .i64 h.sec, .int .i64 h.org, .int .i64 h.chk]
def wfS (h : Su) : Prop := (-9223372036854775808 ≤ h.sec ∧ h.sec ≤ 9223372036854775807) ∧ (-9223372036854775808 ≤ h.org ∧ h.org ≤ 9223372036854775807) ∧ (-9223372036854775808 ≤ h.chk ∧ h.chk ≤ 9223372036854775807)
theorem super_sizes (w : World) : Calls Tryd.prog 14 #[] w fun e w' => e = .returned (.slice (some ⟨w.heap.size, 0, none⟩) 3 3) ∧ w' = w.alloc (.cells (zsS.map iv).toArray 3) := by
  go_enter Tryd.func14, Tryd.ntmps14
  go_wp2_with fail
  go_ret
  exact ⟨rfl, rfl⟩
def rightG (o c : Int) : Bool := (decide (1 ≤ o) && decide (o ≤ 1048576)) && (decide (1 ≤ c) && decide (c ≤ 128))
theorem geom_Right (o c : Int) (w : World) : Calls Tryd.prog 18 #[.agg #[.int .i64 o, .int .i64 c]] w fun e w' => e = .returned (.bool (rightG o c)) ∧ Kept [] w w' := by
  have H : Hid (∀ x, rightG o c = x ↔ ((decide (1 ≤ o) && decide (o ≤ 1048576)) && (decide (1 ≤ c) && decide (c ≤ 128))) = x) := fun x => Iff.rfl
  by_cases h2 : 1 ≤ o
  · by_cases h3 : o ≤ 1048576
    · by_cases h4 : 1 ≤ c
      · by_cases h5 : c ≤ 128
        all_goals
          go_enter Tryd.func18, Tryd.ntmps18
          go_wp2_with fail
          go_ret
          refine ⟨?_, (Kept.refl [] w).alloc _⟩
          rw [(H.out _).2 rfl]
          congr 2
          simp
          omega
      · go_enter Tryd.func18, Tryd.ntmps18
        go_wp2_with fail
        go_ret
        refine ⟨?_, (Kept.refl [] w).alloc _⟩
        rw [(H.out false).2 (by simp; omega)]
        rfl
    · go_enter Tryd.func18, Tryd.ntmps18
      go_wp2_with fail
      go_ret
      refine ⟨?_, (Kept.refl [] w).alloc _⟩
      rw [(H.out false).2 (by simp; omega)]
      rfl
  · go_enter Tryd.func18, Tryd.ntmps18
    go_wp2_with fail
    go_ret
    refine ⟨?_, (Kept.refl [] w).alloc _⟩
    rw [(H.out false).2 (by simp; omega)]
    rfl
theorem agg3 {w W : World} {b : Nat} {t : TypeId} {c0 c1 c2 : Value} (h : Blk w b t #[c0, c1, c2]) (k : Kept [] w W) :
    W.cell? ⟨b, 0, none⟩ = some c0 ∧ W.cell? ⟨b, 1, none⟩ = some c1 ∧ W.cell? ⟨b, 2, none⟩ = some c2 := by
  have h2 := h.kept k (fun h => by cases h)
  exact ⟨h2.cell 0, h2.cell 1, h2.cell 2⟩
set_option maxHeartbeats 1000000 in
theorem super_Right (h : Su) (hw : wfS h) (w : World) : Calls Tryd.prog 9 #[sv h] w fun e w' => e = .returned (.bool (rightS h)) ∧ Kept [] w w' := by
  obtain ⟨g, c, p⟩ := h
  obtain ⟨⟨g0, g1⟩, ⟨c0, c1⟩, p0, p1⟩ := hw
  simp only at g0 g1 c0 c1 p0 p1
  have H : Hid (rightS ⟨g, c, p⟩ = (rightG c p && (decide (g ≤ 1048576) && decide (c + 17 ≤ g)))) := by
    simp [Hid, rightS, rightG, Bool.and_assoc]
  unfold sv
  cases hG : rightG c p
  · go_enter Tryd.func9, Tryd.ntmps9
    go_wp2_with fail
    refine (geom_Right c p _).mono ?_
    rintro e w1 ⟨rfl, k1⟩
    rw [hG]
    go_wp2_with fail
    go_ret
    refine ⟨?_, ((Kept.refl [] w).alloc _).trans k1⟩
    rw [H.out, hG]
    rfl
  · have hc : 1 ≤ c ∧ c ≤ 1048576 := by
      simp [rightG] at hG
      omega
    by_cases h1 : g ≤ 1048576
    · by_cases h2 : c + 17 ≤ g
      all_goals
        go_enter Tryd.func9, Tryd.ntmps9
        go_wp2_with fail
        refine (geom_Right c p _).mono ?_
        rintro e w1 ⟨rfl, k1⟩
        rw [hG]
        obtain ⟨q0, q1, q2⟩ := agg3 (Blk.new w 23 #[.int .i64 g, .int .i64 c, .int .i64 p]) k1
        go_wp2_with fail
        go_ret
        refine ⟨?_, ((Kept.refl [] w).alloc _).trans k1⟩
        rw [H.out, hG]
        congr 2
        simp
        omega
    · go_enter Tryd.func9, Tryd.ntmps9
      go_wp2_with fail
      refine (geom_Right c p _).mono ?_
      rintro e w1 ⟨rfl, k1⟩
      rw [hG]
      obtain ⟨q0, q1, q2⟩ := agg3 (Blk.new w 23 #[.int .i64 g, .int .i64 c, .int .i64 p]) k1
      go_wp2_with fail
      go_ret
      refine ⟨?_, ((Kept.refl [] w).alloc _).trans k1⟩
      rw [H.out, hG]
      congr 2
      simp
      omega
theorem rd_iv {w : World} {b : Nat} {t : TypeId} {zs : List Int} (h : Blk w b t (zs.map iv).toArray) : Rd w w.heap.size 1 (some ⟨b, 0, none⟩) zs.length (zs.map iv) := by
  refine ⟨by simp, fun _ => ⟨_, 0, rfl, h.lt, fun j u hu => ?_⟩⟩
  rw [Nat.zero_add, h.cell]
  simpa using hu
theorem rd_uv {w : World} {b : Nat} {t : TypeId} {zs : List Nat} (h : Blk w b t (zs.map uv).toArray) : Rd w w.heap.size 1 (some ⟨b, 0, none⟩) zs.length (zs.map uv) := by
  refine ⟨by simp, fun _ => ⟨_, 0, rfl, h.lt, fun j u hu => ?_⟩⟩
  rw [Nat.zero_add, h.cell]
  simpa using hu
theorem blk_new {w : World} {t : TypeId} {cs : Array Value} {g : Nat} (h : g = w.heap.size) : Blk (w.alloc (.cells cs t)) g t cs := by
  subst h
  exact Blk.new w t cs
theorem blk_drew {w : World} {t : TypeId} {cs : Array Value} {g : Nat} (h : Blk w g t cs) : Blk w.drew g t cs := h
theorem join_three (W : World) (b d : Nat) (t u : TypeId) (g c p : Nat) (hA : Blk W b t (zsS.map iv).toArray) (hB : Blk W d u #[.int .u64 (g : Int), .int .u64 (c : Int), .int .u64 (p : Int)]) (J : List UInt8) (hJ : Hid (joinL zsS [g, c, p] = (J, 0)))
    (h : g < 4294967296 ∧ c < 4294967296 ∧ p < 4294967296) :
    Calls Tryd.prog 13 #[.slice (some ⟨b, 0, none⟩) 3 3, .slice (some ⟨d, 0, none⟩) 3 3] W fun e w' => e = .returned (.tuple #[.string ⟨J.toArray⟩, .int .i64 0]) ∧ Kept [] W w' := by
  have hj := oct_Join W (some ⟨b, 0, none⟩) (some ⟨d, 0, none⟩) 3 3 zsS [g, c, p] (rd_iv hA) (rd_uv hB) (by decide) (by simp) (by
    intro n hn
    simp only [List.mem_cons, List.not_mem_nil, or_false] at hn
    rcases hn with rfl | rfl | rfl <;> omega)
  rw [hJ.out] at hj
  exact hj

set_option maxRecDepth 4000 in
set_option maxHeartbeats 1000000 in
theorem super_Encode (w : World) (h : Su) (hw : wfS h) :
    Calls Tryd.prog 6 #[sv h] w fun e w' => e = .returned (.tuple #[.string ⟨(encS h).1.toArray⟩, .int .i64 (encS h).2]) ∧ Kept [] w w' := by
  cases hr : rightS h
  · have H : Hid (encS h = ([], 1)) := by rw [Hid, encS, if_neg (by rw [hr]; simp)]
    obtain ⟨g, c, p⟩ := h
    unfold sv
    go_enter Tryd.func6, Tryd.ntmps6
    go_wp2_with fail
    refine (super_Right ⟨g, c, p⟩ hw _).mono ?_
    rintro e w1 ⟨rfl, k1⟩
    rw [hr]
    go_wp2_with fail
    go_ret2
    rw [H.out]
    exact ⟨rfl, ((Kept.refl [] w).alloc _).trans k1⟩
  · have hJ := joinS h hr
    have H : Hid (encS h = sealL (lettersS ++ (joinL zsS (numsS h)).1) 64) := by rw [Hid, encS, if_pos hr]
    have hr' := (rightS_iff h).1 hr
    obtain ⟨g, c, p⟩ := h
    simp only at hr'
    obtain ⟨gn, rfl⟩ : ∃ n : Nat, g = n := ⟨g.toNat, by omega⟩
    obtain ⟨cn, rfl⟩ : ∃ n : Nat, c = n := ⟨c.toNat, by omega⟩
    obtain ⟨pn, rfl⟩ : ∃ n : Nat, p = n := ⟨p.toNat, by omega⟩
    simp only [numsS, Int.toNat_natCast] at hJ H
    obtain ⟨J, hJe⟩ : ∃ J, (joinL zsS [gn, cn, pn]).1 = J := ⟨_, rfl⟩
    have HJ : Hid (joinL zsS [gn, cn, pn] = (J, 0)) := by
      rw [Hid]
      show ((joinL zsS [gn, cn, pn]).1, (joinL zsS [gn, cn, pn]).2) = _
      rw [hJ.1, hJe]
    rw [hJe] at hJ H
    have hJl := hJ.2
    have HR := Lib.hid hr
    have HW := Lib.hid hw
    clear hJ hr hJe hw
    unfold sv
    have hb := Blk.new w 23 #[.int .i64 (gn : Int), .int .i64 (cn : Int), .int .i64 (pn : Int)]
    go_enter Tryd.func6, Tryd.ntmps6
    go_wp2_with fail
    refine (super_Right ⟨gn, cn, pn⟩ HW.out _).mono ?_
    rintro e w1 ⟨rfl, k1⟩
    rw [HR.out]
    have HK1 := Lib.hid k1
    obtain ⟨d0, d1, d2⟩ := agg3 hb k1
    clear hb k1
    have w1' : IntKind.u64.wrap (gn : Int) = (gn : Int) := by rw [IntWalk.u64_in _ (by omega)]
    have w2' : IntKind.u64.wrap (cn : Int) = (cn : Int) := by rw [IntWalk.u64_in _ (by omega)]
    have w3' : IntKind.u64.wrap (pn : Int) = (pn : Int) := by rw [IntWalk.u64_in _ (by omega)]
    have HB : Hid (gn < 4294967296 ∧ cn < 4294967296 ∧ pn < 4294967296) := ⟨by omega, by omega, by omega⟩
    clear hr'
    have happ : (⟨#[79, 65, 75, 49]⟩ : ByteArray) ++ ⟨J.toArray⟩ = ⟨(lettersS ++ J).toArray⟩ := app_arr lettersS J
    go_wp2_with fail
    go_region_held3 (fun W => W.cell? ⟨w.heap.size, 0, none⟩ = some (.int .i64 (gn : Int)) ∧ W.cell? ⟨w.heap.size, 1, none⟩ = some (.int .i64 (cn : Int)) ∧ W.cell? ⟨w.heap.size, 2, none⟩ = some (.int .i64 (pn : Int))) (first | go_keep | exact ⟨((((Kept.refl [] w1).alloc _).alloc _).drew.trans k3).cell d0 (fun h => by cases h), ((((Kept.refl [] w1).alloc _).alloc _).drew.trans k3).cell d1 (fun h => by cases h), ((((Kept.refl [] w1).alloc _).alloc _).drew.trans k3).cell d2 (fun h => by cases h)⟩) ((first | (go_at_call 14; refine (super_sizes _).mono ?_; rintro e w2 ⟨rfl, rfl⟩) | (go_at_call 13; refine (join_three _ _ _ _ _ gn cn pn (by first | exact blk_drew ((blk_new (by simp)).alloc _) | exact blk_drew (blk_new (by simp))) (by first | exact blk_drew ((blk_new (by simp)).alloc _) | exact blk_drew (blk_new (by simp))) J HJ HB.out).mono ?_; rintro e w3 ⟨rfl, k3⟩)))
    all_goals
      go_wp2_with fail
      have hk3 := Lib.hid ((((Kept.refl [] w1).alloc _).alloc _).drew.trans k3)
      clear k3
      refine (crc_Seal (lettersS ++ J) 64 w3 (by rw [List.length_append, hJl]; decide)).mono ?_
      rintro e w4 ⟨rfl, k4⟩
      rw [← H.out]
      go_wp2_with fail
      go_ret2
      exact ⟨rfl, ((((Kept.refl [] w).alloc _).trans HK1.out).trans hk3.out).trans k4⟩
end Go.Proofs.YtcjdkanmbafjmaaDoor
