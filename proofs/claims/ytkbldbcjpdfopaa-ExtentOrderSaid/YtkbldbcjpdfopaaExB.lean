/- Extents: how they lie in memory; what a slice's own iterator hands out. -/
import Derived.Test.YtkbldbcjpdfopaaBase
import Derived.Test.YtkbldbcjpdfopaaCopy
import Derived.Test.YtkbldbcjpdfopaaRangeO
import Derived.IntWalk
import Derived.Deep.Cut
import Derived.Deep.RegionHeld3
import Derived.WalkMore
namespace Go.Proofs.Ytkbldbcjpdfopaa
open Go.RowKit

structure Ex where
  st : Int
  len : Int
  deriving DecidableEq
def exE (x : Ex) : List Value := [.int .i64 x.st, .int .i64 x.len]
theorem exE_len (x : Ex) : (exE x).length = 2 := rfl
def exV (x : Ex) : Value := .agg #[.int .i64 x.st, .int .i64 x.len]
theorem exE_one (l : List Ex) : ∀ u ∈ l.flatMap exE, u.oneCell' = true := by
  intro u hu
  obtain ⟨x, _, hx⟩ := List.mem_flatMap.1 hu
  simp only [exE, List.mem_cons, List.not_mem_nil, or_false] at hx
  rcases hx with rfl | rfl <;> rfl
theorem infoX : (Try.prog.info? 23).map (fun i => (i.zero, i.size, i.bytes)) = some (some (.agg #[.int .i64 0, .int .i64 0]), 2, 16) := by kernel_rfl
/-- extents lie there, below a bound -/
def RdX (n₀ : Nat) (w : World) (A : Option Addr) (l : List Ex) : Prop := Rd w n₀ 2 A l.length (l.flatMap exE)
theorem RdX.at_ {n₀ : Nat} {w : World} {A : Option Addr} {l : List Ex} (h : RdX n₀ w A l) {k : Nat} (hk : k < l.length) : ∃ b o, A = some ⟨b, o, none⟩ ∧ w.cell? ⟨b, o + k * 2, none⟩ = some (.int .i64 l[k].st) ∧ w.cell? ⟨b, o + k * 2 + 1, none⟩ = some (.int .i64 l[k].len) := by
  obtain ⟨b, o, e, hb, hc⟩ := h.2 (by omega)
  refine ⟨b, o, e, ?_, ?_⟩
  · have := hc (k * 2 + 0) (.int .i64 l[k].st) (by rw [flatMap_at 2 exE exE_len l k 0 hk (by omega)]; rfl)
    simpa using this
  · have := hc (k * 2 + 1) (.int .i64 l[k].len) (by rw [flatMap_at 2 exE exE_len l k 1 hk (by omega)]; rfl)
    rw [Nat.add_assoc]
    exact this
theorem RdX.kept {n₀ : Nat} {w w' : World} {A : Option Addr} {l : List Ex} (h : RdX n₀ w A l) (k : Kept [] w w') (hn : n₀ ≤ w.heap.size) : RdX n₀ w' A l := Rd.kept h k hn (fun _ h => by cases h)
/-- what a round keeps: all cells but the consumer's own, of which there are no more than there were, but for new ones -/
def KpO (own : World → Nat → Prop) (W W' : World) : Prop := W.heap.size ≤ W'.heap.size ∧ (∀ b cs t fr, W.heap[b]? = some (.cells cs t fr) → ¬ own W b → W'.heap[b]? = some (.cells cs t fr)) ∧ ∀ g, own W' g → own W g ∨ (W.heap.size ≤ g ∧ g < W'.heap.size)
theorem KpO.trans {own : World → Nat → Prop} {A B C : World} (h : KpO own A B) (k : KpO own B C) : KpO own A C := by
  refine ⟨Nat.le_trans h.1 k.1, fun b cs t fr hb ho => k.2.1 b cs t fr (h.2.1 b cs t fr hb ho) (fun hB => ?_), fun g hg => ?_⟩
  · rcases h.2.2 b hB with h1 | h1
    · exact ho h1
    · have := (Array.getElem?_eq_some_iff.1 hb).1
      omega
  · have h0 := h.1
    have k0 := k.1
    rcases k.2.2 g hg with h1 | h1
    · rcases h.2.2 g h1 with h2 | h2
      · exact .inl h2
      · exact .inr (by omega)
    · exact .inr (by omega)
/-- what a closure must know of the consumer's own blocks -/
structure OwnOk (own : World → Nat → Prop) (n₀ : Nat) (w : World) : Prop where
  lo : ∀ W g, own W g → n₀ ≤ g
  start : ∀ g, own w g → g < w.heap.size
  keep : ∀ W W', w.heap.size ≤ W.heap.size → Kept [] W W' → ∀ g, own W' g → own W g
theorem OwnOk.kept {own : World → Nat → Prop} {n₀ : Nat} {w w' : World} (h : OwnOk own n₀ w) (k : Kept [] w w') : OwnOk own n₀ w' :=
  ⟨h.lo, fun g hg => Nat.lt_of_lt_of_le (h.start g (h.keep w w' (Nat.le_refl _) k g hg)) k.size, fun W W' hs kk g hg => h.keep W W' (Nat.le_trans k.size hs) kk g hg⟩
theorem cell_cells {W : World} {a : Addr} {v : Value} (h : W.cell? a = some v) : ∃ cs t fr, W.heap[a.block]? = some (.cells cs t fr) := by
  unfold World.cell? at h
  split at h
  · rename_i cs t fr e
    exact ⟨cs, t, fr, e⟩
  · cases h
theorem cell_heap {W W' : World} {a : Addr} (h : W'.heap[a.block]? = W.heap[a.block]?) : W'.cell? a = W.cell? a := by
  unfold World.cell?
  rw [h]
theorem kpo_cell {own : World → Nat → Prop} {W W' : World} (k : KpO own W W') {a : Addr} {v : Value} (h : W.cell? a = some v) (hn : ¬ own W a.block) : W'.cell? a = some v := by
  obtain ⟨cs, t, fr, e⟩ := cell_cells h
  rw [cell_heap ((k.2.1 _ cs t fr e hn).trans e.symm)]
  exact h
theorem kpo_rd {own : World → Nat → Prop} {n₀ : Nat} {W W' : World} {A : Option Addr} {n : Nat} {xs : List Value} (hlo : ∀ W g, own W g → n₀ ≤ g) (k : KpO own W W') (h : Rd W n₀ 2 A n xs) : Rd W' n₀ 2 A n xs := by
  refine ⟨h.1, fun hn => ?_⟩
  obtain ⟨b, o, e, hb, hc⟩ := h.2 hn
  exact ⟨b, o, e, hb, fun j u hu => kpo_cell k (hc j u hu) (fun h => by
    have := hlo W b h
    omega)⟩
set_option maxRecDepth 4000 in
set_option maxHeartbeats 2000000 in
theorem values_seq (l : List Ex) (A0 : Option Addr) (c0 n bs n₀ : Nat) (w : World) (hln : l.length ≤ 8796093022208) (hn0 : n₀ ≤ w.heap.size)
    (hL : Blk w bs 24 #[.slice A0 l.length c0]) (hA : RdX n₀ w A0 l) (hn : 1 ≤ n) (own : World → Nat → Prop) (hown : OwnOk own n₀ w) :
    SeqO Fence.wide n Try.prog 30 #[.pointer (some ⟨bs, 0, none⟩)] (fun x : Ex => #[exV x]) (fun _ _ => True) [] (KpO own) (fun xs => xs = l) (fun pre => pre <+: l) l.length w := by
  intro ll J Jx W hW hJ hJx hY hJ0
  have HLo := Lib.hid hown.lo
  clear hown
  have HN := hL.kept hW (fun h => by cases h)
  have HA := Lib.hid (hA.kept hW hn0)
  have hnW : n₀ ≤ W.heap.size := Nat.le_trans hn0 hW.size
  clear hL hA hn0 hW
  refine callsIn_wide.2 ?_
  have cO := HN.cell 0
  clear HN
  go_enter Try.func30, Try.ntmps30
  go_wp2_with fail
  go_loopw [7] (fun i V => ∃ k : Nat, k ≤ l.length ∧ i = .int .i64 k ∧ n₀ ≤ V.heap.size ∧ Hid (RdX n₀ V A0 l) ∧ Hid (J (l.take k) V)) (fun i _ => l.length - (intOf i).toNat)
  case atStart => exact ⟨0, Nat.zero_le _, rfl, hnW, HA, hJ0⟩
  case round =>
    obtain ⟨k, hk, rfl, hnV, HR, HJ⟩ := hrel
    by_cases hlt : k < l.length
    · obtain ⟨b, o, rfl, d0, d1⟩ := HR.out.at_ hlt
      have HT := Lib.hid (List.take_succ_eq_append_getElem hlt)
      have HPre := Lib.hid (List.take_prefix (k + 1) l)
      generalize hx : l[k] = x at *
      obtain ⟨xs, xl⟩ := x
      dsimp only at d0 d1
      have hki : (k : Int) < (l.length : Int) := by omega
      clear hx
      have K1 : Kept [] wr (wr.alloc (.cells #[.int .i64 xs, .int .i64 xl] 23)) := (Kept.refl [] wr).alloc _
      have HR1 := Lib.hid (HR.out.kept K1 hnV)
      have HJ1 := hJ _ _ _ HJ.out K1
      obtain ⟨fn, tmps, assign, body, hy, hR⟩ := hY (l.take k) ⟨xs, xl⟩ _ HJ1 trivial (by rw [List.length_take]; omega)
      unfold exV at hy
      go_upto_region 3 with (fail)
      refine (wpIn_wide (n := n)).1 ?_
      gi_wp2_with (fail)
      refine hR.mono ?_
      clear hR hy
      rintro e W' (⟨rfl, hJ', hk⟩ | ⟨rfl, hJx'⟩)
      · have HR2 := Lib.hid (kpo_rd HLo.out hk HR1.out)
        have hnW' : n₀ ≤ W'.heap.size := Nat.le_trans hnV (Nat.le_trans K1.size hk.1)
        rw [← HT.out] at hJ'
        replace hJ' := Lib.hid hJ'
        gi_wp2
        go_wp2_with fail
        refine ⟨⟨k + 1, by omega, by go_num, hnW', HR2, hJ'⟩, ?_⟩
        simp [intOf]
        omega
      · rw [← HT.out] at hJx'
        gi_wp2
        go_wp2_with fail
        refine bodyPost_ret (results_none rfl _ _ _) rfl ?_
        exact ⟨⟨_, rfl⟩, .inr ⟨_, HPre.out, hJx'⟩⟩
    · obtain rfl : k = l.length := by omega
      go_wp2_with fail
      refine bodyPost_end (results_none rfl _ _ _) rfl ?_
      exact ⟨⟨_, rfl⟩, .inl ⟨_, List.take_length, HJ.out⟩⟩
end Go.Proofs.Ytkbldbcjpdfopaa
