/- The reference's disk, its walks (third part): Write whole, Flush, Restart. -/
import Derived.Test.YtdifolhkbkaamaaRefB
namespace Go.Proofs.Ytdifolhkbkaamaa
open Go.RowKit

theorem RDx.store {W w2 : World} {g gs cs : Nat} {vS vP : Value} {d : D} (h : RDx W g vS vP d) (hv : vS = .slice (some ⟨gs, 0, none⟩) d.ss.length cs) {pa : Nat} {pd : List UInt8} (_hpa : pa < d.ss.length) (h64 : pd.length = 64)
    (hw : w2 = W.setCell ⟨gs, pa, none⟩ (.string ⟨pd.toArray⟩)) : RDx w2 g vS vP { d with ss := d.ss.set pa pd } := by
  have hs := secs_set (k := pa) (x := pd) (show Go.Proofs.Ytdifolhkbkaamaa.secs d.ss d.ss.length from ⟨rfl, h.ok.s64⟩) h64
  have hS := h.secs
  rw [hv] at hS
  have hS2 := (hS.stored pa (.string ⟨pd.toArray⟩)).1
  have hgs : gs ≠ g := own_ne hS h.blk (by decide) gs rfl
  subst hw
  refine ⟨⟨hs.2, by rw [hs.1]; exact h.ok.few, h.ok.p64, fun p hp => by rw [hs.1]; exact h.ok.pat p hp, h.ok.fuse⟩, h.blk.far (by exact hgs.symm) _, ?_, own_set h.pend (fun k e hk => own_own_ne h.pend hS (by decide) k e (by rw [hk]; rfl)) _⟩
  rw [hs.1, hv]
  have e : (d.ss.set pa pd).map str = (d.ss.map str).set pa (.string ⟨pd.toArray⟩) := by rw [List.map_set]; rfl
  rw [e]
  exact hS2

theorem RDx.ended {wr : World} {g : Nat} {vS vP : Value} {d : D} {ss : List (List UInt8)} {kl : List Bool} {F : List Nat} (h : RDx wr g vS vP { d with ss := ss }) (he : standL (fun i => kl.getD i false) 0 d.ps d.ss = ss) (hF : F = g :: (vS.ownBlock.toList ++ vP.ownBlock.toList)) :
    ∃ F', RD (((wr.setCell ⟨g, 1, none⟩ (.slice none 0 0)).setCell ⟨g, 2, none⟩ (.int .i64 (-1))).setCell ⟨g, 3, none⟩ (.bool false)) g F' (d.restart kl) ∧ ∀ x ∈ F', x ∈ F := by
  have hs := h.blk.set_ 1 (.slice none 0 0)
  simp at hs
  have p1 : RD (wr.setCell ⟨g, 1, none⟩ (.slice none 0 0)) g (g :: vS.ownBlock.toList) (d.stand fun i => kl.getD i false) := by
    refine ⟨vS, .slice none 0 0, ?_, by simp [Value.ownBlock]⟩
    rw [D.stand, he]
    exact ⟨⟨h.ok.s64, h.ok.few, (fun _ h => by cases h), (fun _ h => by cases h), h.ok.fuse⟩, hs, own_set h.secs (own_ne h.secs h.blk (by decide)) _, World.ownsRow_nil _ _ _ _⟩
  refine ⟨_, (p1.setFuse (-1) (by decide) (by decide)).setDead false, fun x hx => ?_⟩
  rw [hF]
  simp at hx ⊢
  rcases hx with h | h <;> simp [h]

end Go.Proofs.Ytdifolhkbkaamaa
