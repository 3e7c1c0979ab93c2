/- Dumps: what the laws ask: a report as the document has it, two reports. -/
import Derived.Test.YtooplogodcadgaaDoorDuY
namespace Go.Proofs.YtooplogodcadgaaDoor
open Go.RowKit Go.Lib

def RowR (W w : World) (k : Nat) (xs : List Value) (p : Pr) (v' : Value) (w' : World) : Prop := w'.ownsRow W.heap.size 64 8 v' (k + 1) (xs ++ pc p) ∧ Kept [] W w' ∧ ∀ (g t : Nat) (cs : Array Value), Blk w g t cs → 64 ≠ t → Blk w' g t cs
theorem row_push {W w : World} {V : Value} {k : Nat} {xs : List Value} (p : Pr) (hp : ∃ A n c, p.2 = .slice A n c) (H : w.ownsRow W.heap.size 64 8 V k xs) (HK : Kept [] W w) (hn : k ≤ 1000000) (ty : TypeId) :
    ∃ v' w', (Builtin.append_ #[34, 34] ty #[V, .slice (some ⟨w.heap.size, 0, none⟩) 1 1]).run Tryd.prog (w.alloc (.cells (lineC p.1 p.2) 64)) = .ok v' w' ∧ RowR W w k xs p v' w' := by
  obtain ⟨i0, p0, p1, p2, p3⟩ := info_parts infoR
  have hlo : ∀ j, V.ownBlock = some j → W.heap.size ≤ j := fun j hj => (World.ownsRow.lt H j hj).1
  obtain ⟨v', w', hr, h2, h3, h4⟩ := run_app (P := Tryd.prog) (w.alloc (.cells (lineC p.1 p.2) 64)) 34 ty 64 i0 _ 8 80 Tryd.underlying34 p0 p1 p2 p3 rfl (by decide) _ _ _ (own_down (World.ownsRow.alloc H _) (Nat.zero_le _)) (some ⟨w.heap.size, 0, none⟩) 1 1 (pc p) rfl (fun h => by cases h) (fun _ => ⟨_, 0, rfl, fun j u hu => by
    have := World.news_of_block (Blk.new w 64 (lineC p.1 p.2)) j u hu
    rwa [Addr.add_lit] at this⟩) (cells8_one p.1 p.2 hp) (by simp only [maxLen]; omega) (by omega)
  have hz := HK.size
  have k1 : Kept V.ownBlock.toList w w' := ((Kept.refl _ w).alloc _).grown h3 (fun y hy => .inl (by rw [Option.mem_toList]; exact hy))
  refine ⟨v', w', hr, own_up h2 (fun j hj => ?_), (HK.alloc _).grown h3 (fun j e => .inr (hlo j e)), fun g t cs hb hne => hb.kept k1 (fun hm => own_ne H hb hne g (by simpa using hm) rfl)⟩
  rcases h4 with h | h
  · exact hlo j (h ▸ hj)
  · rw [h] at hj
    injection hj with hj
    subst hj
    simp
    omega
theorem results_of (tmps : Array Value) (w : World) (b2 : Nat) (a b c : Int) (V : Value) (hp : tmps[2]?.getD undef = .pointer (some ⟨b2, 0, none⟩)) (h0 : Blk w b2 36 #[.int .i64 a, .int .i64 b, .int .i64 c, V]) :
    (results Tryd.f10 tmps).run Tryd.prog w = .ok (repV a b c V) w := by
  obtain ⟨c0, c1, c2, c3⟩ := blk4 h0
  simp [results, hp, asAddr, c0, c1, c2, c3, go_sem, repV]
def OfPost (a b c : Int) (ps : List Pr) (w : World) (e : Ending) (w' : World) : Prop := ∃ (B : Option Addr) (cB : Nat), e = .returned (repV a b c (.slice B ps.length cB)) ∧ LRd w' B ps ∧ Kept [] w w'
set_option maxRecDepth 8000 in
set_option maxHeartbeats 4000000 in
theorem law_of (a b c : Int) (A : Option Addr) (cA : Nat) (ps : List Pr) (w : World) (hA : LRd w A ps) (hn : ps.length ≤ 1000) : Calls Tryd.prog 10 #[repV a b c (.slice A ps.length cA)] w (OfPost a b c ps w) := by
  have HF : Hid (∀ w' B cB, LRd w' B ps → Kept [] w w' → OfPost a b c ps w (.returned (repV a b c (.slice B ps.length cB))) w') := fun w' B cB h k => ⟨B, cB, rfl, h, k⟩
  generalize OfPost a b c ps w = Q at *
  have HA := Lib.hid hA
  have ka := (((Kept.refl [] w).alloc (.cells #[.int .i64 a, .int .i64 b, .int .i64 c, .slice A ps.length cA] 26)).alloc (.cells #[.int .i64 0, .int .i64 0, .int .i64 0, .slice none 0 0] 36)).alloc (.cells #[.int .i64 a, .int .i64 b, .int .i64 c, .slice none 0 0] 36)
  obtain ⟨w0, hw0⟩ : ∃ w0, w0 = ((w.alloc (.cells #[.int .i64 a, .int .i64 b, .int .i64 c, .slice A ps.length cA] 26)).alloc (.cells #[.int .i64 0, .int .i64 0, .int .i64 0, .slice none 0 0] 36)).alloc (.cells #[.int .i64 a, .int .i64 b, .int .i64 c, .slice none 0 0] 36) := ⟨_, rfl⟩
  have R0 : Blk w0 w.heap.size 26 #[.int .i64 a, .int .i64 b, .int .i64 c, .slice A ps.length cA] := by
    rw [hw0]
    exact ((Blk.new w _ _).alloc _).alloc _
  have Y0 : Blk w0 (w.heap.size + 1) 36 #[.int .i64 0, .int .i64 0, .int .i64 0, .slice none 0 0] := by
    rw [hw0]
    have h := (Blk.new (w.alloc (.cells #[.int .i64 a, .int .i64 b, .int .i64 c, .slice A ps.length cA] 26)) 36 #[.int .i64 0, .int .i64 0, .int .i64 0, .slice none 0 0]).alloc (.cells #[.int .i64 a, .int .i64 b, .int .i64 c, .slice none 0 0] 36)
    rwa [show (w.alloc (.cells #[.int .i64 a, .int .i64 b, .int .i64 c, .slice A ps.length cA] 26)).heap.size = w.heap.size + 1 by simp] at h
  have M0 : Blk w0 (w.heap.size + 1 + 1) 36 #[.int .i64 a, .int .i64 b, .int .i64 c, .slice none 0 0] := by
    rw [hw0]
    have h := (Blk.new ((w.alloc (.cells #[.int .i64 a, .int .i64 b, .int .i64 c, .slice A ps.length cA] 26)).alloc (.cells #[.int .i64 0, .int .i64 0, .int .i64 0, .slice none 0 0] 36)) 36 #[.int .i64 a, .int .i64 b, .int .i64 c, .slice none 0 0])
    rwa [show ((w.alloc (.cells #[.int .i64 a, .int .i64 b, .int .i64 c, .slice A ps.length cA] 26)).alloc (.cells #[.int .i64 0, .int .i64 0, .int .i64 0, .slice none 0 0] 36)).heap.size = w.heap.size + 1 + 1 by simp] at h
  rw [← hw0] at ka
  replace R0 := Lib.hid R0
  replace Y0 := Lib.hid Y0
  replace M0 := Lib.hid M0
  replace ka := Lib.hid ka
  replace hw0 := Lib.hid hw0
  have n1 : w.heap.size ≠ w.heap.size + 1 + 1 := by omega
  have n2 : w.heap.size + 1 ≠ w.heap.size + 1 + 1 := by omega
  have n3 : w.heap.size ≤ w.heap.size + 1 + 1 := by omega
  clear hA
  unfold repV at HF ⊢
  go_enter Tryd.func10, Tryd.ntmps10
  go_wp2_with fail
  rw [← hw0.out]
  go_loopw [4] (fun i V => ∃ (k : Nat) (Vl : Value), k ≤ ps.length ∧ i = .int .i64 k ∧ Hid (V.ownsRow w.heap.size 64 8 Vl k ((ps.take k).flatMap pc)) ∧ Hid (Blk V (w.heap.size + 1 + 1) 36 #[.int .i64 a, .int .i64 b, .int .i64 c, Vl]) ∧ Hid (Blk V (w.heap.size + 1) 36 #[.int .i64 0, .int .i64 0, .int .i64 0, .slice none 0 0]) ∧ Hid (Blk V w.heap.size 26 #[.int .i64 a, .int .i64 b, .int .i64 c, .slice A ps.length cA]) ∧ Hid (Kept [] w V)) (fun i _ => ps.length - (RowKit.intOf i).toNat)
  case atStart => exact ⟨0, .slice none 0 0, Nat.zero_le _, rfl, World.ownsRow_nil _ _ _ _, M0.out, Y0.out, R0.out, ka.out⟩
  case round =>
    obtain ⟨k, Vl, hk, rfl, HO, HM, HY, HR, HK⟩ := hrel
    obtain ⟨Av, cv, rfl, _⟩ := own_slice HO.out
    have r3 := HR.out.cell 3
    have m3 := HM.out.cell 3
    simp only [List.getElem?_toArray, List.getElem?_cons_zero, List.getElem?_cons_succ] at r3 m3
    by_cases hlt : k < ps.length
    · obtain ⟨b', o, rfl, d0, d1, d2, d3, d4, d5, d6, d7⟩ := HA.out.at_ hlt
      obtain ⟨AE, cE, hEv, _⟩ := HA.out.2 _ (List.getElem_mem hlt)
      rw [hEv] at d7
      have hi : (k : Int) < (ps.length : Int) := by omega
      have hwk : IntKind.i64.wrap ((k : Int) + 1) = (k : Int) + 1 := IntWalk.i64_in _ (by omega)
      have HTk : Hid (ps.take (k + 1) = ps.take k ++ [ps[k]]) := List.take_succ_eq_append_getElem hlt
      have e0 := HK.out.cell d0 (fun h => by cases h)
      have e1 := HK.out.cell d1 (fun h => by cases h)
      have e2 := HK.out.cell d2 (fun h => by cases h)
      have e3 := HK.out.cell d3 (fun h => by cases h)
      have e4 := HK.out.cell d4 (fun h => by cases h)
      have e5 := HK.out.cell d5 (fun h => by cases h)
      have e6 := HK.out.cell d6 (fun h => by cases h)
      have e7 := HK.out.cell d7 (fun h => by cases h)
      clear d0 d1 d2 d3 d4 d5 d6 d7
      generalize ps[k] = p at *
      obtain ⟨x, E⟩ := p
      dsimp only at hEv e0 e1 e2 e3 e4 e5 e6 e7
      subst hEv
      have kA := (Kept.refl [] wr).alloc (.cells #[.int .i64 x.id, .int .i64 x.state, .int .i64 x.st, .int .i64 x.len, .int .u32 x.gen, .int .i64 x.room, .bool x.inv, .slice AE x.ents.length cE] 54)
      have OA := kA.owns HO.out (fun _ _ h => by cases h)
      have MA := Lib.hid (HM.out.kept kA (fun h => by cases h))
      have YA := Lib.hid (HY.out.kept kA (fun h => by cases h))
      have RA := Lib.hid (HR.out.kept kA (fun h => by cases h))
      have m3a := kA.cell m3 (fun h => by cases h)
      have hRun := row_push (x, .slice AE x.ents.length cE) ⟨_, _, _, rfl⟩ OA (HK.out.trans kA) (by omega)
      rw [show (wr.alloc (.cells #[.int .i64 x.id, .int .i64 x.state, .int .i64 x.st, .int .i64 x.len, .int .u32 x.gen, .int .i64 x.room, .bool x.inv, .slice AE x.ents.length cE] 54)).heap.size = wr.heap.size + 1 by simp] at hRun
      unfold lineC at hRun
      dsimp only at hRun
      replace hRun := Lib.hid hRun
      have HT2 : Hid ((ps.take k).flatMap pc ++ pc (x, .slice AE x.ents.length cE) = (ps.take (k + 1)).flatMap pc) := by
        rw [Hid, HTk.out, List.flatMap_append]
        simp
      clear kA OA HTk
      go_wp2_with (at_builtin; refine wpList_app rfl (.tmp 22) (.tmp 34) _ rfl _ _ rfl rfl (hRun.out _) ?_; rintro v5 w5 ⟨o5, k5, hkb⟩; clear hRun; obtain ⟨A5, c5, rfl, _⟩ := own_slice o5; have M5 := hkb _ _ _ MA.out (by decide); have q3 := M5.cell 3; have f3 := M5.frozen 3)
      have Y5 := hkb _ _ _ YA.out (by decide)
      have R5 := hkb _ _ _ RA.out (by decide)
      rw [HT2.out] at o5
      go_roundw
      case rel => exact ⟨k + 1, .slice A5 (k + 1) c5, by omega, by go_num, own_set o5 (own_ne o5 M5 (by decide)) _, M5.set_ 3 _, Y5.far n2 _, R5.far n1 _, k5.setCell (.inr n3) _⟩
      case measure => simp [RowKit.intOf]; omega
    · obtain rfl : k = ps.length := by omega
      obtain ⟨y0, y1, y2, y3⟩ := blk4 HY.out
      obtain ⟨g0, g1, g2, g3⟩ := frz4 HY.out
      obtain ⟨t0, t1, t2, t3⟩ := blk4 HM.out
      go_wp2_with fail
      refine bodyPost_ret (results_of _ _ (w.heap.size + 1) a b c (.slice Av ps.length cv) rfl (blk4_set HY.out _ _ _ _)) rfl ?_
      have KF := kept4 HK.out (g := w.heap.size + 1) (.inr (Nat.le_succ _)) (.int .i64 a) (.int .i64 b) (.int .i64 c) (.slice Av ps.length cv)
      have ho := HO.out
      rw [List.take_length] at ho
      have s1 := own_set (p := ⟨w.heap.size + 1, 0, none⟩) ho (own_ne ho HY.out (by decide)) (.int .i64 a)
      have b1 := HY.out.set_ 0 (.int .i64 a)
      have s2 := own_set (p := ⟨w.heap.size + 1, 1, none⟩) s1 (own_ne s1 b1 (by decide)) (.int .i64 b)
      have b2 := b1.set_ 1 (.int .i64 b)
      have s3 := own_set (p := ⟨w.heap.size + 1, 2, none⟩) s2 (own_ne s2 b2 (by decide)) (.int .i64 c)
      have b3 := b2.set_ 2 (.int .i64 c)
      have s4 := own_set (p := ⟨w.heap.size + 1, 3, none⟩) s3 (own_ne s3 b3 (by decide)) (.slice Av ps.length cv)
      exact HF.out _ Av cv ⟨Rd.of_own s4, fun p hp => (HA.out.2 p hp).kept KF⟩ KF
end Go.Proofs.YtooplogodcadgaaDoor
