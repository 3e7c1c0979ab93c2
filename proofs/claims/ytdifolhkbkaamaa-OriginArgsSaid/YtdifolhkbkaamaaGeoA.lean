/- A geometry: whether it may be; the pieces of one sector. -/
import Derived.Test.YtdifolhkbkaamaaRange
import Derived.Lib.Hide
import Derived.Deep.RegionHeld3
import Derived.Deep.RegionWith
import Derived.IntWalk
import Derived.Deep.Cut
namespace Go.Proofs.Ytdifolhkbkaamaa
open Go.RowKit
attribute [local go_sem] Oper.semAt_some

def rightG (o c : Int) : Bool := (decide (1 ≤ o) && decide (o ≤ 1048576)) && (decide (1 ≤ c) && decide (c ≤ 128))
def gv (o c : Int) : Value := .agg #[.int .i64 o, .int .i64 c]
theorem blk_drew {w : World} {t : TypeId} {cs : Array Value} {g : Nat} (h : Blk w g t cs) : Blk w.drew g t cs := h
theorem geom_pieces (o c at_ n : Int) (w : World) : Calls Try.prog 34 #[.agg #[.int .i64 o, .int .i64 c], .int .i64 at_, .int .i64 n] w fun e w' =>
    e = .returned (.func (.func 44) #[] #[.pointer (some ⟨w.heap.size + 2, 0, none⟩), .pointer (some ⟨w.heap.size + 1, 0, none⟩), .pointer (some ⟨w.heap.size, 0, none⟩)]) ∧
    w' = ((w.alloc (.cells #[.int .i64 o, .int .i64 c] 52)).alloc (.cells #[.int .i64 at_] 3)).alloc (.cells #[.int .i64 n] 3) := by
  go_enter Try.func34, Try.ntmps34
  go_wp2_with fail
  go_ret
  exact ⟨rfl, rfl⟩
/-- what a round keeps: the boxes, and whatever lies there of a type -/
def KpT (Cs : List Nat) (T : TypeId) (W W' : World) : Prop := ∀ b cs t fr, W.heap[b]? = some (.cells cs t fr) → (b ∈ Cs ∨ t = T) → W'.heap[b]? = some (.cells cs t fr)
theorem KpT.trans {Cs : List Nat} {T : TypeId} {A B C : World} (h : KpT Cs T A B) (k : KpT Cs T B C) : KpT Cs T A C := fun b cs t fr hb ho => k b cs t fr (h b cs t fr hb ho) ho
theorem KpT.putObj {Cs : List Nat} {T : TypeId} {W : World} {l : Nat} {o : Obj} (o' : Obj) (h : W.heap[l]? = some o) (ho : o.isCells = false) : KpT Cs T W (W.putObj l o') := fun b cs t fr hb _ => by
  by_cases e : b = l
  · subst e
    rw [hb] at h
    injection h with h
    subst h
    cases ho
  · exact (World.putObj_heap_other e).trans hb
theorem KpT.blk {Cs : List Nat} {T t : TypeId} {W W' : World} {b : Nat} {cs : Array Value} (h : KpT Cs T W W') (hb : Blk W b t cs) (ho : b ∈ Cs ∨ t = T) : Blk W' b t cs := h b cs t (0, 0) hb ho
/-- the one piece of one sector -/
def pc (at_ c : Int) : Value := .agg #[.int .i64 (at_ / c), .int .i64 (at_ % c), .int .i64 1]
set_option maxRecDepth 4000 in
set_option maxHeartbeats 2000000 in
theorem pieces_one (n : Nat) (bn ba bg : Nat) (o c at_ : Int) (w : World) (hc : 1 ≤ c) (hc2 : c ≤ 128) (h0 : 0 ≤ at_) (h1 : at_ ≤ 1048576) (hn : 1 ≤ n)
    (hN : Blk w bn 3 #[.int .i64 1]) (hA : Blk w ba 3 #[.int .i64 at_]) (hG : Blk w bg 52 #[.int .i64 o, .int .i64 c]) (hna : bn ≠ ba) :
    SeqB Fence.wide n Try.prog 44 #[.pointer (some ⟨bn, 0, none⟩), .pointer (some ⟨ba, 0, none⟩), .pointer (some ⟨bg, 0, none⟩)] (fun _ : Unit => #[pc at_ c]) [bn, ba]
      (KpT [bn, ba, bg] 75) (fun _ => True) (fun _ => True) 1 w := by
  intro l J Jx W hW hJ hJx hY hJ0
  have HN := hN.kept hW (fun h => by cases h)
  have HA := hA.kept hW (fun h => by cases h)
  have HG := hG.kept hW (fun h => by cases h)
  refine callsIn_wide.2 ?_
  go_enter Try.func44, Try.ntmps44
  go_wp2_with fail
  go_loopw [5] (fun _ V => ∃ k : Nat, k ≤ 1 ∧ Hid (Blk V bn 3 #[.int .i64 (1 - (k : Int))]) ∧ Hid (Blk V ba 3 #[.int .i64 (at_ + k)]) ∧ Hid (Blk V bg 52 #[.int .i64 o, .int .i64 c]) ∧ Hid (J (List.replicate k ()) V))
    (fun _ V => (intOf ((V.cell? ⟨bn, 0, none⟩).getD undef)).toNat)
  case atStart => exact ⟨0, by omega, HN, by rw [Hid]; simpa using HA, HG, hJ0⟩
  case round =>
    obtain ⟨k, hk, BN, BA, BG, HJ⟩ := hrel
    rcases (show k = 0 ∨ k = 1 by omega) with rfl | rfl
    · have n0 : wr.cell? ⟨bn, 0, none⟩ = some (.int .i64 1) := BN.out.cell 0
      have a0 : wr.cell? ⟨ba, 0, none⟩ = some (.int .i64 at_) := by
        have := BA.out.cell 0
        simpa using this
      have g1 : wr.cell? ⟨bg, 1, none⟩ = some (.int .i64 c) := BG.out.cell 1
      have hq : at_.tdiv c = at_ / c := Int.tdiv_eq_ediv_of_nonneg h0
      have hm : at_.tmod c = at_ % c := Int.tmod_eq_emod_of_nonneg h0
      have hc0 : (c == 0) = false := by rw [beq_eq_false_iff_ne]; omega
      have hmr : 0 ≤ at_ % c ∧ at_ % c < c := ⟨Int.emod_nonneg _ (by omega), Int.emod_lt_of_pos _ (by omega)⟩
      have hqr : 0 ≤ at_ / c ∧ at_ / c ≤ 1048576 := ⟨Int.ediv_nonneg h0 (by omega), Int.le_trans (Int.ediv_le_self _ h0) h1⟩
      have hcne : c ≠ 0 := by omega
      have hwq : IntKind.i64.wrap (at_ / c) = at_ / c := IntWalk.i64_in _ (by omega)
      go_wp2_with fail
      go_region_held3 (fun W => W.cell? ⟨ba, 0, none⟩ = some (.int .i64 at_) ∧ W.cell? ⟨bg, 1, none⟩ = some (.int .i64 c)) (go_keep) (fail)
      have hB5 := blk_drew (Blk.new wr 75 #[.int .i64 (at_ / c), .int .i64 (at_ % c), .int .i64 0])
      have HB6 := Lib.hid (hB5.set_ 2 (.int .i64 1))
      have hK6 := Lib.hid (((Kept.refl [] wr).alloc (.cells #[.int .i64 (at_ / c), .int .i64 (at_ % c), .int .i64 0] 75)).drew.setCell (p := ⟨wr.heap.size, 2, none⟩) (.inr (Nat.le_refl _)) (.int .i64 1))
      have hmin : min 1 (c - at_ % c) = 1 := by omega
      have hws : IntKind.i64.wrap (c - at_ % c) = c - at_ % c := IntWalk.i64_in _ (by omega)
      have kD : Kept [] wr (wr.alloc (.cells #[.int .i64 (at_ / c), .int .i64 (at_ % c), .int .i64 0] 75)).drew := ((Kept.refl [] wr).alloc _).drew
      have n1 := kD.cell n0 (fun h => by cases h)
      have g2 := kD.cell g1 (fun h => by cases h)
      have b0 := hB5.cell 0
      have b1 := hB5.cell 1
      have b2 := hB5.cell 2
      have bf := hB5.frozen 2
      have d0 := HB6.out.cell 0
      have d1 := HB6.out.cell 1
      have d2 := HB6.out.cell 2
      generalize (wr.alloc (.cells #[.int .i64 (at_ / c), .int .i64 (at_ % c), .int .i64 0] 75)).drew = V at *
      clear kD
      go_upto_region 3 with (fail)
      obtain ⟨fn, tmps, assign, body, hy, hR⟩ := hY [] () (V.setCell ⟨wr.heap.size, 2, none⟩ (.int .i64 1)) (hJ _ _ _ HJ.out (hK6.out.mono fun _ h => by cases h)) (by decide)
      dsimp only [pc] at hy
      refine (wpIn_wide (n := n)).1 ?_
      gi_wp2
      refine hR.mono ?_
      have BN6 := Lib.hid (BN.out.kept hK6.out (fun h => by cases h))
      have BA6 := Lib.hid (BA.out.kept hK6.out (fun h => by cases h))
      have BG6 := Lib.hid (BG.out.kept hK6.out (fun h => by cases h))
      clear hR hy n0 a0 g1 n1 g2 b0 b1 b2 bf d0 d1 d2
      rintro e W' (⟨rfl, hJ', hk⟩ | ⟨rfl, hJx'⟩)
      · have BN7 := Lib.hid (hk.blk BN6.out (.inl (by simp)))
        have BA7 := Lib.hid (hk.blk BA6.out (.inl (by simp)))
        have BG7 := Lib.hid (hk.blk BG6.out (.inl (by simp)))
        have BP7 := Lib.hid (hk.blk HB6.out (.inr rfl))
        have n0 : W'.cell? ⟨bn, 0, none⟩ = some (.int .i64 1) := BN7.out.cell 0
        have nf : W'.frozen? ⟨bn, 0, none⟩ = false := BN7.out.frozen 0
        have a0 : W'.cell? ⟨ba, 0, none⟩ = some (.int .i64 at_) := by
          have := BA7.out.cell 0
          simpa using this
        have af : W'.frozen? ⟨ba, 0, none⟩ = false := BA7.out.frozen 0
        have p2 : W'.cell? ⟨wr.heap.size, 2, none⟩ = some (.int .i64 1) := BP7.out.cell 2
        have hwa : IntKind.i64.wrap (at_ + 1) = at_ + 1 := IntWalk.i64_in _ (by omega)
        have hna2 : ¬ bn = ba := hna
        have hna3 : ¬ ba = bn := fun h => hna h.symm
        have hpn : ¬ wr.heap.size = bn := fun h => by have := BN.out.lt; omega
        have hpa : ¬ wr.heap.size = ba := fun h => by have := BA.out.lt; omega
        have hg1 : ¬ bg = bn := fun h => BG7.out.ne_ BN7.out (by decide) h
        have hg2 : ¬ bg = ba := fun h => BG7.out.ne_ BA7.out (by decide) h
        have R1 := blk_drew ((BN7.out.far (p := ⟨ba, 0, none⟩) hna2 (.int .i64 (at_ + 1))).set_ 0 (.int .i64 (IntKind.i64.wrap 0)))
        have R2 := blk_drew ((BA7.out.set_ 0 (.int .i64 (at_ + 1))).far (p := ⟨bn, 0, none⟩) hna3 (.int .i64 (IntKind.i64.wrap 0)))
        have R3 := blk_drew ((BG7.out.far (p := ⟨ba, 0, none⟩) hg2 (.int .i64 (at_ + 1))).far (p := ⟨bn, 0, none⟩) hg1 (.int .i64 (IntKind.i64.wrap 0)))
        have RJ := hJ _ _ _ hJ' (((Kept.refl [bn, ba] W').setCell (p := ⟨ba, 0, none⟩) (.inl (by simp)) (.int .i64 (at_ + 1))).setCell (p := ⟨bn, 0, none⟩) (.inl (by simp)) (.int .i64 (IntKind.i64.wrap 0))).drew
        have m0 : wr.cell? ⟨bn, 0, none⟩ = some (.int .i64 1) := BN.out.cell 0
        gi_wp2
        go_wp2_with fail
        go_region_with (fail)
        all_goals
          go_wp2_with fail
          go_roundw
          case rel =>
            exact ⟨1, Nat.le_refl _, R1, R2, R3, RJ⟩
          case measure =>
            simp [intOf, R1.cell 0, m0]
            decide
      · gi_wp2
        go_wp2_with fail
        refine bodyPost_ret (results_none rfl _ _ _) rfl ?_
        exact ⟨⟨_, rfl⟩, .inr ⟨_, trivial, hJx'⟩⟩
    · have n0 : wr.cell? ⟨bn, 0, none⟩ = some (.int .i64 0) := BN.out.cell 0
      go_wp2_with fail
      refine bodyPost_end (results_none rfl _ _ _) rfl ?_
      exact ⟨⟨_, rfl⟩, .inl ⟨_, trivial, HJ.out⟩⟩
end Go.Proofs.Ytdifolhkbkaamaa
