/- A range over a function whose closure stores into what it has captured, and hands out what it has just made: the statement's law, with the set of those boxes, and what is told of each value. -/
import Derived.Test.YtkbldbcjpdfopaaRange
import Derived.RangeFuncNested
import Derived.RangeFuncBound
import Derived.RangeFuncCalls
import Derived.RangeFuncLeaves
import Derived.RangeFuncKeeps
import Derived.OwnWalkIn
import Derived.TacticsInMore
import Derived.LoopNIn
import Derived.LoopIn
namespace Go.Proofs.Ytkbldbcjpdfopaa
open Go.RowKit

/-- the closure's contract: rounds that go on, or one that says 'no more' -/
def SeqO {α : Type} (F : Fence) (n : Nat) (P : Program) (g : Nat) (lb : Array Value) (encs : α → Array Value) (Ok : α → World → Prop) (Cs : List Nat) (Kp : World → World → Prop) (S Sp : List α → Prop) (N : Nat) (w : World) : Prop :=
  ∀ (l : Nat) (J Jx : List α → World → Prop) (W : World), Kept [] w W → AbidesB Cs J → AbidesB Cs Jx →
    (∀ pre x W1, J pre W1 → Ok x W1 → pre.length < N → YieldAt F (n - 1) P l (encs x) W1 fun e W' =>
      (e = .returned (.bool true) ∧ J (pre ++ [x]) W' ∧ Kp W1 W') ∨ (e = .returned (.bool false) ∧ Jx (pre ++ [x]) W')) →
    J [] W →
    CallsIn F n P g (#[.func (.yield l) #[] #[]] ++ lb) W fun e W' => (∃ v, e = .returned v) ∧ ((∃ xs, S xs ∧ J xs W') ∨ (∃ pre, Sp pre ∧ Jx pre W'))

section
variable {F : Fence} {n : Nat} {P : Program}
theorem range_told {α : Type} {g : Operand} {ps : Array Tmp} {assign body : Code} {Q : Exit → Act → World → Prop} {a : Act} {w : World}
    (hro : F.round = none) (h1 : 1 ≤ n) {gf : Nat} {lb : Array Value} (hg : a.eval g = .func (.func gf) #[] lb) (hFg : F.fn gf) (eg : ∀ args w, (callFunc gf args).run P w = .ok (.enter gf args) w)
    {encs : α → Array Value} {Ok : α → World → Prop} {Cs : List Nat} {Kp : World → World → Prop} {S Sp : List α → Prop} {N : Nat} (hseq : SeqO F (n - 1) P gf lb encs Ok Cs Kp S Sp N w) (hC : ∀ b ∈ Cs, b < w.heap.size)
    (hKt : ∀ {A B C : World}, Kp A B → Kp B C → Kp A C) (hKb : ∀ (W : World) (l : Nat) (o o' : Obj), w.heap.size ≤ l → W.heap[l]? = some o → o.isCells = false → o.isWalk = false → Kp W (W.putObj l o'))
    (hps : ∀ x, (encs x).size = ps.size)
    (I : List α → World → Prop) (Ix : Code → List α → World → Prop) (hI : OwnFrom w.heap.size I) (hIx : ∀ c, OwnFrom w.heap.size (Ix c)) (hIK : AbidesB Cs I) (hIxK : ∀ c, AbidesB Cs (Ix c)) (h0 : I [] w) (Ax : α → Act → World → Prop)
    (hAx : ∀ (x : α) (a' : Act) (W : World) (l : Nat) (o o' : Obj), Ax x a' W → w.heap.size ≤ l → W.heap[l]? = some o → o.isCells = false → Ax x a' (W.putObj l o'))
    (hassign : ∀ (l : Nat) (pre : List α) (x : α) (W : World) (K : Act → World → Prop), I pre W → Ok x W → pre.length < N → (∀ a' W', KeepsOthers W W' → Kp W W' → I pre W' → Ax x a' W' → K a' W') →
      assign.wpIn (F.inRound l) (n - 1 - 1) P (Exit.then K (fun _ _ _ => False)) { tmps := (ps.zip (encs x)).foldl (fun t (p, v) => t.setIfInBounds p v) a.tmps, defers := [] } W)
    (hbody : ∀ (l : Nat) (pre : List α) (x : α) (a' : Act) (W : World), Ax x a' W → I pre W → pre.length < N → body.wpIn (F.inRound l) (n - 1 - 1) P (ownPostK Kp I Ix (pre ++ [x]) W) a' W)
    (hdone : ∀ (D : Nat) (xs : List α) (W : World), w.heap.size ≤ D → S xs → I xs W → W.heap[D]? = some (.deferred (some [])) → Q .normal { a with defers := { target := .collected D, args := #[] } :: a.defers } W)
    (hstop : ∀ (D : Nat) (c : Code) (pre : List α) (W : World), w.heap.size ≤ D → Sp pre → Ix c pre W → W.heap[D]? = some (.deferred (some [])) → c.wpIn F n P Q { a with defers := { target := .collected D, args := #[] } :: a.defers } W) :
    (Code.rangeFunc g ps assign body).wpIn F n P Q a w := by
  refine wpIn_rangeFunc fun fn hfn => ?_
  rw [hro]
  -- the record, in each of its states
  obtain ⟨L, hL⟩ : ∃ L : LoopState → Option Code → Loop, L = fun st pe => { state := st, pending := pe, fn, tmps := a.tmps, params := ps, assign, body, defers := w.heap.size } := ⟨_, rfl⟩
  have hLf : ∀ st pe st' pe', { L st pe with state := st', pending := pe' } = L st' pe' := fun st pe st' pe' => by rw [hL]
  obtain ⟨V, hV⟩ : ∃ V, (w.alloc (.deferred (some []))).alloc (.loop (L .ready none)) = V := ⟨_, rfl⟩
  have hkV : Kept [] w V := by rw [← hV]; exact ((Kept.refl [] w).alloc _).alloc _
  have hR : V.heap[w.heap.size + 1]? = some (.loop (L .ready none)) := by
    rw [← hV]
    have h := World.alloc_heap_new (w.alloc (.deferred (some []))) (.loop (L .ready none))
    rwa [World.size_alloc] at h
  have hD : V.heap[w.heap.size]? = some (.deferred (some [])) := by
    rw [← hV]
    exact (Below.heap_alloc _ _ _ (by simp)).trans (World.alloc_heap_new w _)
  have hcr : w.heap.size + 1 ∉ Cs := fun h => by have := hC _ h; omega
  have hcd : w.heap.size ∉ Cs := fun h => by have := hC _ h; omega
  refine ⟨w.heap.size + 1, [{ target := .collected w.heap.size, args := #[] }], V, { target := .fn (.func gf) lb, args := #[.func (.yield (w.heap.size + 1)) #[] #[]] }, V, gf,
    #[.func (.yield (w.heap.size + 1)) #[] #[]] ++ lb, V, ?_, ?_, ?_, ?_, fun _ => h1, ?_⟩
  · rw [← hV, hL]
    exact run_enterLoop_outer _ _ _ _ _
  · simp only [resolve, hg]
    simp [go_sem]
  · intro f' hf'
    simp [Target.leads] at hf'
    subst hf'
    exact hFg
  · simp [invoke, go_sem, eg]
  · refine (hseq (w.heap.size + 1)
      (fun pre W => I pre W ∧ W.heap[w.heap.size + 1]? = some (.loop (L .ready none)) ∧ W.heap[w.heap.size]? = some (.deferred (some [])))
      (fun pre W => ∃ c, Ix c pre W ∧ W.heap[w.heap.size + 1]? = some (.loop (L .done (some c))) ∧ W.heap[w.heap.size]? = some (.deferred (some [])))
      V hkV
      (fun s A B hs hk => ⟨hIK s A B hs.1 hk, hk.heap hs.2.1 hcr, hk.heap hs.2.2 hcd⟩)
      (fun s A B hs hk => by
        obtain ⟨c, hc, hl, hd⟩ := hs
        exact ⟨c, hIxK c s A B hc hk, hk.heap hl hcr, hk.heap hd hcd⟩)
      ?_ ⟨by rw [← hV]; exact hI.alloc _ (hI.alloc _ h0), hR, hD⟩).mono ?_
    · rintro pre x W₀ ⟨hi₀, hl₀, hd₀⟩ hok hlen
      have hy := run_yield (P := P) (args := encs x) hl₀ (by rw [hL]; exact hps x)
      rw [hL] at hy
      refine ⟨fn, _, assign, body, hy, roundIn_of_wpIn hfn (hassign _ pre x W₀ _ hi₀ hok hlen fun a' W hk₀ hp₀ hi hax => ?_)⟩
      have hl := hk₀.same _ _ hl₀ rfl
      have hd := hk₀.same _ _ hd₀ rfl
      have hlt : w.heap.size + 1 < W.heap.size := (Array.getElem?_eq_some_iff.1 hl).1
      refine ⟨_, run_beginRound hl (by rw [hL]), ?_⟩
      have e1 : ({ L .ready none with state := .busy } : Loop) = L .busy none := by rw [hL]
      rw [e1]
      have hl2 : (W.putObj (w.heap.size + 1) (.loop (L .busy none))).heap[w.heap.size + 1]? = some (.loop (L .busy none)) := World.putObj_heap_same hlt
      have hd2 : (W.putObj (w.heap.size + 1) (.loop (L .busy none))).heap[w.heap.size]? = some (.deferred (some [])) := (World.putObj_heap_other (by omega)).trans hd
      have hp2 : Kp W (W.putObj (w.heap.size + 1) (.loop (L .busy none))) := hKb _ _ _ _ (by omega) hl rfl rfl
      refine wpIn_mono (hbody _ pre x a' _ (hAx x a' _ _ _ _ hax (by omega) hl rfl) (hI.putObj _ hi (by omega) hl rfl) hlen) ?_
      have fin : ∀ (jump : Option Code) (U : World), KeepsOthers (W.putObj (w.heap.size + 1) (.loop (L .busy none))) U →
          (Instr.endRound (w.heap.size + 1) jump).run P U = .ok (.bool jump.isNone) (U.putObj (w.heap.size + 1) (.loop (L (if jump.isNone then .ready else .done) jump))) ∧
          U.heap[w.heap.size + 1]? = some (.loop (L .busy none)) ∧
          (U.putObj (w.heap.size + 1) (.loop (L (if jump.isNone then .ready else .done) jump))).heap[w.heap.size + 1]? = some (.loop (L (if jump.isNone then .ready else .done) jump)) ∧
          (U.putObj (w.heap.size + 1) (.loop (L (if jump.isNone then .ready else .done) jump))).heap[w.heap.size]? = some (.deferred (some [])) := fun jump U hk => by
        have h3 := hk.same _ _ hl2 rfl
        have h4 := run_endRound (P := P) jump h3
        rw [hLf] at h4
        exact ⟨h4, h3, World.putObj_heap_same (Array.getElem?_eq_some_iff.1 h3).1, (World.putObj_heap_other (by omega)).trans (hk.same _ _ hd2 rfl)⟩
      rintro e a3 U hp
      cases e with
      | normal =>
        obtain ⟨hk, hkp, hi3⟩ := hp
        obtain ⟨hr, h3, h4, h5⟩ := fin none U hk
        exact ⟨_, _, hr, .inl ⟨rfl, ⟨hI.putObj _ hi3 (by omega) h3 rfl, h4, h5⟩, hKt (hKt hp₀ (hKt hp2 hkp)) (hKb _ _ _ _ (by omega) h3 rfl rfl)⟩⟩
      | ret =>
        obtain ⟨hk, hi3⟩ := hp
        obtain ⟨hr, h3, h4, h5⟩ := fin (some .ret) U hk
        exact ⟨_, _, hr, .inr ⟨rfl, .ret, (hIx _).putObj _ hi3 (by omega) h3 rfl, h4, h5⟩⟩
      | exit id =>
        obtain ⟨hk, hi3⟩ := hp
        obtain ⟨hr, h3, h4, h5⟩ := fin (some (.exit id)) U hk
        exact ⟨_, _, hr, .inr ⟨rfl, .exit id, (hIx _).putObj _ hi3 (by omega) h3 rfl, h4, h5⟩⟩
      | goto t =>
        obtain ⟨hk, hi3⟩ := hp
        obtain ⟨hr, h3, h4, h5⟩ := fin (some (.goto t)) U hk
        exact ⟨_, _, hr, .inr ⟨rfl, .goto t, (hIx _).putObj _ hi3 (by omega) h3 rfl, h4, h5⟩⟩
      | panic ch => exact hp.elim
      | outgrown => exact hp.elim
    · rintro e U ⟨⟨v, rfl⟩, (⟨xs, hS, hi, hl, hd⟩ | ⟨pre, hSp, c, hi, hl, hd⟩)⟩
      · have h6 := run_endLoop (P := P) hl (by rw [hL]; simp)
        have e6 : (L .ready none).pending = none := by rw [hL]
        rw [e6] at h6
        exact ⟨none, _, h6, hdone _ xs _ (Nat.le_refl _) hS (hI.putObj _ hi (by omega) hl rfl) ((World.putObj_heap_other (by omega)).trans hd)⟩
      · have h6 := run_endLoop (P := P) hl (by rw [hL]; simp)
        have e6 : (L .done (some c)).pending = some c := by rw [hL]
        rw [e6] at h6
        exact ⟨some c, _, h6, hstop _ c pre _ (Nat.le_refl _) hSp ((hIx c).putObj _ hi (by omega) hl rfl) ((World.putObj_heap_other (by omega)).trans hd)⟩
end
end Go.Proofs.Ytkbldbcjpdfopaa
