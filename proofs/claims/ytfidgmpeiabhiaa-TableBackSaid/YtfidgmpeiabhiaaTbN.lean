/- Tables: Clone. -/
import Derived.Test.YtfidgmpeiabhiaaTbL
import Derived.Test.YtfidgmpeiabhiaaMcl
import Derived.Lib.BufferMore
namespace Go.Proofs.Ytfidgmpeiabhiaa
open Go.RowKit Go.Maps Go.Shelf

theorem mclone (W : World) (bm : Nat) (p : List Int) (h : MapAt W bm p) : Calls Try.prog 36 #[.map (some bm)] W fun e w' => e = .returned (.map (some W.heap.size)) ∧ MapAt w' W.heap.size p ∧ Kept [] W w' ∧ W.heap.size < w'.heap.size := by
  obtain ⟨n, D, hown, rest⟩ := h
  refine (AnyW.maps_Clone_owns Try.mclI 3 _ bm n D W hown).mono ?_
  rintro e w' ⟨he, h1, _, h3⟩
  exact ⟨he, ⟨n, D, h1, rest⟩, Kept.ofBelow h3, h1.lt⟩
theorem cloneP (w : World) (base : Nat) (A : Option Addr) (c : Nat) (p : List Int) (h : w.ownsRow base 3 1 (.slice A p.length c) p.length (p.map iv)) (hn : p.length ≤ 1048576) :
    Calls Try.prog 35 #[.slice A p.length c] w fun e w' => ∃ (A' : Option Addr) (c' : Nat), e = .returned (.slice A' p.length c') ∧ w'.ownsRow w.heap.size 3 1 (.slice A' p.length c') p.length (p.map iv) ∧ Kept [] w w' := by
  rcases h.2 with ⟨h2, h3⟩ | ⟨g, cap, cur, e', hb, hh, _⟩
  · injection h2 with h4 h5 h6
    subst h4
    subst h6
    have hp : p = [] := List.eq_nil_of_length_eq_zero h3
    subst hp
    have he := fun W => Lib.run_eql_slice_nil_nil (P := Try.prog) W (t := 26) 0 0 Try.underlying26
    go_enter Try.func35, Try.ntmps35
    go_wp2_with fail
    go_ret
    exact ⟨none, 0, rfl, World.ownsRow_nil _ _ _ _, Kept.refl _ _⟩
  · injection e' with e1 _ e3
    subst e1
    subst e3
    refine (cloneI w g 0 p.length c p rfl (fun j u hu => own_cellS h j u hu) hn).mono ?_
    rintro e w' ⟨v, rfl, ho, k⟩
    obtain ⟨A', c', rfl, _⟩ := own_slice ho
    exact ⟨A', c', rfl, ho, k⟩
theorem cloneP2 (W0 w : World) (k0 : Kept [] W0 w) (base : Nat) (A : Option Addr) (c : Nat) (p : List Int) (h : Hid (W0.ownsRow base 3 1 (.slice A p.length c) p.length (p.map iv))) (hn : p.length ≤ 1048576) :
    Calls Try.prog 35 #[.slice A p.length c] w fun e w' => ∃ (A' : Option Addr) (c' : Nat), e = .returned (.slice A' p.length c') ∧ w'.ownsRow w.heap.size 3 1 (.slice A' p.length c') p.length (p.map iv) ∧ Kept [] w w' :=
  cloneP w base A c p (k0.owns h.out (fun _ _ h => by cases h)) hn
theorem mclone2 (W0 W : World) (k0 : Kept [] W0 W) (bm : Nat) (p : List Int) (h : Hid (MapAt W0 bm p)) : Calls Try.prog 36 #[.map (some bm)] W fun e w' => e = .returned (.map (some W.heap.size)) ∧ MapAt w' W.heap.size p ∧ Kept [] W w' ∧ W.heap.size < w'.heap.size :=
  mclone W bm p (h.out.kept k0 (fun h => by cases h))
def ClonePost (p : List Int) (W : World) (e : Ending) (w' : World) : Prop := ∃ t', e = .returned (tbV t') ∧ TbAt W.heap.size w' t' p ∧ Kept [] W w'
theorem clone_fin {W w1 : World} {p : List Int} {A : Option Addr} {c b1 b2 m : Nat} (hp : Tok p) (hlen : p.length ≤ 1048576) (ho : w1.ownsRow b1 3 1 (.slice A p.length c) p.length (p.map iv)) (h1 : W.heap.size ≤ b1) (hm : MapAt w1 m p) (h2 : W.heap.size ≤ b2) (hm2 : b2 = m) (k : Kept [] W w1) :
    ClonePost p W (.returned (.pointer (some ⟨w1.heap.size, 0, none⟩))) (w1.alloc (.cells #[.slice A p.length c, .map (some m)] 59)) :=
  ⟨⟨w1.heap.size, .slice A p.length c, m⟩, rfl, ⟨Blk.new _ _ _, own_down (ho.alloc _) h1, hm.kept ((Kept.refl [] _).alloc _) (fun h => by cases h), ⟨k.size, hm2 ▸ h2⟩, hp, hlen⟩, k.alloc _⟩
set_option maxRecDepth 4000 in
set_option maxHeartbeats 2000000 in
theorem tb_Clone (W : World) (n₀ : Nat) (t : Tb) (p : List Int) (h : TbAt n₀ W t p) : Calls Try.prog 14 #[tbV t] W (ClonePost p W) := by
  have c0 := h.tb.cell 0
  have c1 := h.tb.cell 1
  obtain ⟨A, c, hv, _⟩ := own_slice h.pl
  simp only [List.getElem?_toArray, List.getElem?_cons_zero, hv] at c0
  have HO : Hid (W.ownsRow n₀ 3 1 (.slice A p.length c) p.length (p.map iv)) := by
    have := h.pl
    rwa [hv] at this
  have HM := Lib.hid h.mp
  have HP := Lib.hid h.ok
  have hlen := h.len
  clear h hv
  unfold tbV
  go_enter Try.func14, Try.ntmps14
  go_wp2_with fail
  go_region_held3 (fun W' => W'.cell? ⟨t.tb, 0, none⟩ = some (.slice A p.length c) ∧ W'.cell? ⟨t.tb, 1, none⟩ = some (.map (some t.bm))) (first | exact ⟨c0, c1⟩ | exact ⟨kM.cell c0 (fun h => by cases h), kM.cell c1 (fun h => by cases h)⟩ | exact ⟨kA.cell c0 (fun h => by cases h), kA.cell c1 (fun h => by cases h)⟩ | go_keep) (first | (go_at_call 35; refine (cloneP2 W _ ?_ n₀ A c p HO hlen).mono ?_; (next => first | exact kM | exact (Kept.refl [] W).drew); rintro e wA ⟨A5, c5, rfl, hoA, kA'⟩; have kA : Kept [] W wA := (by first | exact kM.trans kA' | exact ((Kept.refl [] W).drew).trans kA')) | (go_at_call 36; refine (mclone2 W _ ?_ t.bm p HM).mono ?_; (next => first | exact kA | exact (Kept.refl [] W).drew); rintro e wM ⟨rfl, hmM, kM', hzM⟩; have kM : Kept [] W wM := (by first | exact kA.trans kM' | exact ((Kept.refl [] W).drew).trans kM')))
  have hF := Lib.hid (clone_fin (W := W) (m := wA.heap.size) (b2 := wA.heap.size) HP.out hlen (kM'.owns hoA (fun _ _ h => by cases h)) (Nat.le_refl _) hmM kA.size rfl kM)
  clear hoA hmM kA kM kA' kM' hzM c0 c1
  go_wp2_with fail
  go_ret
  exact hF.out
end Go.Proofs.Ytfidgmpeiabhiaa
