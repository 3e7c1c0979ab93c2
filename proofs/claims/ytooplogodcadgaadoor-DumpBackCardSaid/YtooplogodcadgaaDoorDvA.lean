/- Dumps: what the laws ask: are two reports one? -/
import Derived.Test.YtooplogodcadgaaDoorDuZ
namespace Go.Proofs.YtooplogodcadgaaDoor
open Go.RowKit Go.Lib

set_option maxRecDepth 8000 in
set_option maxHeartbeats 4000000 in
theorem law_same (a b c : Int) (A B : Option Addr) (cA cB : Nat) (ps qs : List Pr) (w : World) (hA : LRd w A ps) (hB : LRd w B qs) (hq : ps.map (·.1) = qs.map (·.1)) (hn : ps.length ≤ 1000) (he : ∀ p ∈ ps, p.1.ents.length ≤ 1000) : Calls Tryd.prog 15 #[repV a b c (.slice A ps.length cA), repV a b c (.slice B qs.length cB)] w fun e w' => e = .returned (.bool true) ∧ Kept [] w w' := by
  have hl : qs.length = ps.length := by
    have := congrArg List.length hq
    simpa using this.symm
  rw [hl]
  have HX : Hid (∀ k (hk : k < ps.length) (hkq : k < qs.length), qs[k].1 = ps[k].1) := fun k hk hkq => by
    have h := congrArg (fun l => l[k]?) hq
    simp only [List.getElem?_map, List.getElem?_eq_getElem hk, List.getElem?_eq_getElem hkq, Option.map_some] at h
    exact (Option.some.inj h).symm
  have HQ := Lib.hid hl
  have HA := Lib.hid hA
  have HB := Lib.hid hB
  have HE := Lib.hid he
  have R0 := Lib.hid ((Blk.new w 36 #[.int .i64 a, .int .i64 b, .int .i64 c, .slice A ps.length cA]).alloc (.cells #[.int .i64 a, .int .i64 b, .int .i64 c, .slice B ps.length cB] 36))
  have S0 : Hid (Blk ((w.alloc (.cells #[.int .i64 a, .int .i64 b, .int .i64 c, .slice A ps.length cA] 36)).alloc (.cells #[.int .i64 a, .int .i64 b, .int .i64 c, .slice B ps.length cB] 36)) (w.heap.size + 1) 36 #[.int .i64 a, .int .i64 b, .int .i64 c, .slice B ps.length cB]) := by
    have h := (Blk.new (w.alloc (.cells #[.int .i64 a, .int .i64 b, .int .i64 c, .slice A ps.length cA] 36)) 36 #[.int .i64 a, .int .i64 b, .int .i64 c, .slice B ps.length cB])
    rwa [show (w.alloc (.cells #[.int .i64 a, .int .i64 b, .int .i64 c, .slice A ps.length cA] 36)).heap.size = w.heap.size + 1 by simp] at h
  have K0 := Lib.hid (((Kept.refl [] w).alloc (.cells #[.int .i64 a, .int .i64 b, .int .i64 c, .slice A ps.length cA] 36)).alloc (.cells #[.int .i64 a, .int .i64 b, .int .i64 c, .slice B ps.length cB] 36))
  clear hA hB hq hl he
  unfold repV
  go_enter Tryd.func15, Tryd.ntmps15
  go_wp2_with fail
  go_loopw [5] (fun i V => ∃ k : Nat, k ≤ ps.length ∧ i = .int .i64 k ∧ Hid (Blk V w.heap.size 36 #[.int .i64 a, .int .i64 b, .int .i64 c, .slice A ps.length cA]) ∧ Hid (Blk V (w.heap.size + 1) 36 #[.int .i64 a, .int .i64 b, .int .i64 c, .slice B ps.length cB]) ∧ Hid (Kept [] w V)) (fun i _ => ps.length - (RowKit.intOf i).toNat)
  case atStart => exact ⟨0, Nat.zero_le _, rfl, R0.out, S0.out, K0.out⟩
  case round =>
    obtain ⟨k, hk, rfl, HR, HS, HK⟩ := hrel
    have r3 := HR.out.cell 3
    have s3 := HS.out.cell 3
    simp only [List.getElem?_toArray, List.getElem?_cons_zero, List.getElem?_cons_succ] at r3 s3
    by_cases hlt : k < ps.length
    · have hlq : k < qs.length := by have := HQ.out; omega
      obtain ⟨b', o, rfl, d0, d1, d2, d3, d4, d5, d6, d7⟩ := HA.out.at_ hlt
      obtain ⟨b2, o2, rfl, f0, f1, f2, f3, f4, f5, f6, f7⟩ := HB.out.at_ hlq
      obtain ⟨AE, cE, hEv, hEr⟩ := HA.out.2 _ (List.getElem_mem hlt)
      obtain ⟨AF, cF, hFv, hFr⟩ := HB.out.2 _ (List.getElem_mem hlq)
      have hen := HE.out _ (List.getElem_mem hlt)
      have hx := HX.out k hlt hlq
      rw [hx] at f0 f1 f2 f3 f4 f5 f6 hFv hFr
      rw [hEv] at d7
      rw [hFv] at f7
      have hi : (k : Int) < (ps.length : Int) := by omega
      have hwk : IntKind.i64.wrap ((k : Int) + 1) = (k : Int) + 1 := IntWalk.i64_in _ (by omega)
      clear hx hEv hFv
      generalize ps[k] = p at *
      obtain ⟨x, E⟩ := p
      dsimp only at d0 d1 d2 d3 d4 d5 d6 d7 f0 f1 f2 f3 f4 f5 f6 f7 hEr hFr hen
      have hER := Lib.hid (show ERd w (.slice AE x.ents.length cE) x.ents from ⟨AE, cE, rfl, hEr⟩)
      have hFR := Lib.hid (show ERd w (.slice AF x.ents.length cF) x.ents from ⟨AF, cF, rfl, hFr⟩)
      have e0 := HK.out.cell d0 (fun h => by cases h)
      have e1 := HK.out.cell d1 (fun h => by cases h)
      have e2 := HK.out.cell d2 (fun h => by cases h)
      have e3 := HK.out.cell d3 (fun h => by cases h)
      have e4 := HK.out.cell d4 (fun h => by cases h)
      have e5 := HK.out.cell d5 (fun h => by cases h)
      have e6 := HK.out.cell d6 (fun h => by cases h)
      have e7 := HK.out.cell d7 (fun h => by cases h)
      have k1 := (Kept.refl [] wr).alloc (.cells #[.int .i64 x.id, .int .i64 x.state, .int .i64 x.st, .int .i64 x.len, .int .u32 x.gen, .int .i64 x.room, .bool x.inv, .slice AE x.ents.length cE] 64)
      have K1 := HK.out.trans k1
      have h0 := K1.cell f0 (fun h => by cases h)
      have h1 := K1.cell f1 (fun h => by cases h)
      have h2 := K1.cell f2 (fun h => by cases h)
      have h3 := K1.cell f3 (fun h => by cases h)
      have h4 := K1.cell f4 (fun h => by cases h)
      have h5 := K1.cell f5 (fun h => by cases h)
      have h6 := K1.cell f6 (fun h => by cases h)
      have h7 := K1.cell f7 (fun h => by cases h)
      have s3a := k1.cell s3 (fun h => by cases h)
      have KB := Lib.hid (K1.alloc (.cells #[.int .i64 x.id, .int .i64 x.state, .int .i64 x.st, .int .i64 x.len, .int .u32 x.gen, .int .i64 x.room, .bool x.inv, .slice AF x.ents.length cF] 64))
      have RB := Lib.hid ((HR.out.kept k1 (fun h => by cases h)).alloc (.cells #[.int .i64 x.id, .int .i64 x.state, .int .i64 x.st, .int .i64 x.len, .int .u32 x.gen, .int .i64 x.room, .bool x.inv, .slice AF x.ents.length cF] 64))
      have SB := Lib.hid ((HS.out.kept k1 (fun h => by cases h)).alloc (.cells #[.int .i64 x.id, .int .i64 x.state, .int .i64 x.st, .int .i64 x.len, .int .u32 x.gen, .int .i64 x.room, .bool x.inv, .slice AF x.ents.length cF] 64))
      clear d0 d1 d2 d3 d4 d5 d6 d7 f0 f1 f2 f3 f4 f5 f6 f7 hEr hFr k1 K1
      go_wp2_with fail
      refine (same_ents AE AF cE cF x.ents _ (hER.out.kept KB.out) (hFR.out.kept KB.out) (by omega)).mono ?_
      rintro e w5 ⟨rfl, k5⟩
      clear e0 e1 e2 e3 e4 e5 e6 e7 h0 h1 h2 h3 h4 h5 h6 h7
      go_wp2_with fail
      go_roundw
      case rel => exact ⟨k + 1, by omega, by go_num, RB.out.kept k5 (fun h => by cases h), SB.out.kept k5 (fun h => by cases h), KB.out.trans k5⟩
      case measure => simp [RowKit.intOf]; omega
    · obtain rfl : k = ps.length := by omega
      go_wp2_with fail
      go_ret
      exact ⟨rfl, HK.out⟩
end Go.Proofs.YtooplogodcadgaaDoor
