/- A store's head: the document's sector; the law HeadEncodes: its walk. -/
import Derived.Test.YtkcapkineifhkaaDoorHdH
namespace Go.Proofs.YtkcapkineifhkaaDoor
open Go.RowKit

theorem sealed_four (W : World) (b d : Nat) (t u : TypeId) (g c p : Nat) (i : Nat) (hA : Blk W b t (zsH.map iv).toArray) (hB : Blk W d u #[.int .u64 (g : Int), .int .u64 (c : Int), .int .u64 (p : Int), .int .u64 (i : Int)]) (J : List UInt8) (hJ : Hid (joinL zsH [g, c, p, i] = (J, 0)))
    (h : g < 4294967296 ∧ c < 4294967296 ∧ p < 4294967296 ∧ i < 4294967296) (hl : (lettersH ++ J).length ≤ 4096) :
    Calls Tryd.prog 16 #[.string ⟨#[79, 65, 75, 72]⟩, .slice (some ⟨b, 0, none⟩) 4 4, .slice (some ⟨d, 0, none⟩) 4 4] W fun e w' => e = .returned (.string ⟨(sealL (lettersH ++ J) 64).1.toArray⟩) ∧ Kept [] W w' :=
  ref_sealed W lettersH (some ⟨b, 0, none⟩) (some ⟨d, 0, none⟩) 4 4 zsH [g, c, p, i] J hJ (rd_iv hA) (rd_uv hB) (by decide) (by simp) (by
    intro n hn
    simp only [List.mem_cons, List.not_mem_nil, or_false] at hn
    rcases hn with rfl | rfl | rfl | rfl <;> omega) hl

set_option maxRecDepth 4000 in
set_option maxHeartbeats 1000000 in
theorem ref_Encode (w : World) (h : Hd) (hg : h.gen < 4294967296) :
    Calls Tryd.prog 7 #[hv h] w fun e w' => e = .returned (.tuple #[.string ⟨(encH h).1.toArray⟩, .int .i64 (encH h).2]) ∧ Kept [] w w' := by
  cases hr : rightH h
  · have H : Hid (encH h = ([], 1)) := by rw [Hid, encH, if_neg (by rw [hr]; simp)]
    obtain ⟨g, c, p, i⟩ := h
    unfold hv
    go_enter Tryd.func7, Tryd.ntmps7
    go_wp2_with fail
    refine (ref_Right ⟨g, c, p, i⟩ _).mono ?_
    rintro e w1 ⟨rfl, k1⟩
    rw [hr]
    go_wp2_with fail
    go_ret2
    rw [H.out]
    exact ⟨rfl, ((Kept.refl [] w).alloc _).trans k1⟩
  · have hJ := joinH h hg hr
    have H : Hid (encH h = sealL (lettersH ++ (joinL zsH (numsH h)).1) 64) := by rw [Hid, encH, if_pos hr]
    have hr' : 0 < h.gen ∧ (1 ≤ h.chunk ∧ h.chunk ≤ 128) ∧ (1 ≤ h.cap ∧ h.cap ≤ 1048576) := by
      simpa [rightH, and_assoc] using hr
    obtain ⟨g, c, p, i⟩ := h
    obtain ⟨g0, ⟨c0, c1⟩, p0, p1⟩ := hr'
    obtain ⟨cn, rfl⟩ : ∃ n : Nat, c = n := ⟨c.toNat, by simp only at c0; omega⟩
    obtain ⟨pn, rfl⟩ : ∃ n : Nat, p = n := ⟨p.toNat, by simp only at p0; omega⟩
    simp only [numsH, Int.toNat_natCast] at hJ H
    obtain ⟨i2, hi2⟩ : ∃ i2 : Nat, (if i then 1 else 0 : Nat) = i2 := ⟨_, rfl⟩
    rw [hi2] at hJ H
    have hib : i2 < 2 := by rw [← hi2]; split <;> decide
    obtain ⟨J, hJe⟩ : ∃ J, (joinL zsH [g, cn, pn, i2]).1 = J := ⟨_, rfl⟩
    have HJ : Hid (joinL zsH [g, cn, pn, i2] = (J, 0)) := by
      rw [Hid]
      show ((joinL zsH [g, cn, pn, i2]).1, (joinL zsH [g, cn, pn, i2]).2) = _
      rw [hJ.1, hJe]
    rw [hJe] at hJ H
    have hJl := hJ.2
    have HR := Lib.hid hr
    clear hJ hr hJe
    simp only at hg g0 c0 c1 p0 p1
    unfold hv
    have hb := Blk.new w 24 #[.int .u32 (g : Int), .int .i64 (cn : Int), .int .i64 (pn : Int), .bool i]
    have C := fun (W : World) (k : Kept [] (w.alloc (.cells #[.int .u32 (g : Int), .int .i64 (cn : Int), .int .i64 (pn : Int), .bool i] 24)) W) (j : Nat) (v : Value) (hv : (#[.int .u32 (g : Int), .int .i64 (cn : Int), .int .i64 (pn : Int), .bool i] : Array Value)[j]? = some v) => k.cell (p := ⟨w.heap.size, j, none⟩) ((hb.cell j).trans hv) (fun h => by cases h)
    have HC := Lib.hid C
    clear C
    go_enter Tryd.func7, Tryd.ntmps7
    go_wp2_with fail
    refine (ref_Right ⟨g, cn, pn, i⟩ _).mono ?_
    rintro e w1 ⟨rfl, k1⟩
    rw [HR.out]
    have HK1 := Lib.hid k1
    have d0 : w1.cell? ⟨w.heap.size, 0, none⟩ = some (.int .u32 (g : Int)) := HC.out w1 k1 0 _ rfl
    have d1 : w1.cell? ⟨w.heap.size, 1, none⟩ = some (.int .i64 (cn : Int)) := HC.out w1 k1 1 _ rfl
    have d2 : w1.cell? ⟨w.heap.size, 2, none⟩ = some (.int .i64 (pn : Int)) := HC.out w1 k1 2 _ rfl
    have d3 : w1.cell? ⟨w.heap.size, 3, none⟩ = some (.bool i) := HC.out w1 k1 3 _ rfl
    clear hb HC k1
    have w1' : IntKind.u64.wrap (g : Int) = (g : Int) := by rw [IntWalk.u64_in _ (by omega)]
    have w2' : IntKind.u64.wrap (cn : Int) = (cn : Int) := by rw [IntWalk.u64_in _ (by omega)]
    have w3' : IntKind.u64.wrap (pn : Int) = (pn : Int) := by rw [IntWalk.u64_in _ (by omega)]
    have HB : Hid (g < 4294967296 ∧ cn < 4294967296 ∧ pn < 4294967296) := ⟨by omega, by omega, by omega⟩
    clear g0 c0 c1 p0 p1
    have hsl : (sealL (lettersH ++ J) 64).2 = 0 := by rw [seal_short _ (by rw [List.length_append, hJl]; decide)]
    have H2 : Hid (encH ⟨g, (cn : Int), (pn : Int), i⟩ = ((sealL (lettersH ++ J) 64).1, 0)) := by
      rw [Hid, H.out]
      show ((sealL (lettersH ++ J) 64).1, (sealL (lettersH ++ J) 64).2) = _
      rw [hsl]
    clear hsl
    have HB2 := Lib.hid hib
    have HI2 := Lib.hid hi2
    clear hib hi2
    go_wp2_with fail
    go_region_held3 (fun W => W.cell? ⟨w.heap.size, 0, none⟩ = some (.int .u32 (g : Int)) ∧ W.cell? ⟨w.heap.size, 1, none⟩ = some (.int .i64 (cn : Int)) ∧ W.cell? ⟨w.heap.size, 2, none⟩ = some (.int .i64 (pn : Int)) ∧ W.cell? ⟨w.heap.size, 3, none⟩ = some (.bool i)) (first | go_keep | exact ⟨((((Kept.refl [] w1).alloc _).alloc _).drew.trans k3).cell d0 (fun h => by cases h), ((((Kept.refl [] w1).alloc _).alloc _).drew.trans k3).cell d1 (fun h => by cases h), ((((Kept.refl [] w1).alloc _).alloc _).drew.trans k3).cell d2 (fun h => by cases h), ((((Kept.refl [] w1).alloc _).alloc _).drew.trans k3).cell d3 (fun h => by cases h)⟩) ((first | (go_at_call 17; refine (ref_heads _).mono ?_; rintro e w2 ⟨rfl, rfl⟩) | (go_at_call 18; refine (ref_flag i _).mono ?_; rw [HI2.out]; rintro e w2 ⟨rfl, rfl⟩) | (go_at_call 16; refine (sealed_four _ _ _ _ _ g cn pn i2 (by first | exact blk_drew ((blk_new (by simp)).alloc _) | exact blk_drew (blk_new (by simp))) (by first | exact blk_drew ((blk_new (by simp)).alloc _) | exact blk_drew (blk_new (by simp))) J HJ ⟨HB.out.1, HB.out.2.1, HB.out.2.2, Nat.lt_trans HB2.out (by decide)⟩ (by rw [List.length_append, hJl]; decide)).mono ?_; rintro e w3 ⟨rfl, k3⟩)))
    all_goals
      go_wp2_with fail
      have hk3 := Lib.hid ((((Kept.refl [] w1).alloc _).alloc _).drew.trans k3)
      clear k3
      go_ret2
      rw [H2.out]
      exact ⟨rfl, (((Kept.refl [] w).alloc _).trans HK1.out).trans hk3.out⟩
end Go.Proofs.YtkcapkineifhkaaDoor
