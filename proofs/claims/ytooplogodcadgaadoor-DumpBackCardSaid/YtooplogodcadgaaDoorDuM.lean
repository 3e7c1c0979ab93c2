/- Dumps: the program's words, taken one by one: next. -/
import Derived.Test.YtooplogodcadgaaDoorDuL
namespace Go.Proofs.YtooplogodcadgaaDoor
open Go.RowKit Go.Lib

/-- the words that are left -/
def WAt (w : World) (R : Nat) (ws : List Bs) : Prop := ∃ (A : Option Addr) (c : Nat), Blk w R 82 #[.slice A ws.length c] ∧ (ws ≠ [] → ∃ b o, A = some ⟨b, o, none⟩ ∧ b < R ∧ ws.length ≤ c ∧ ∀ j (hj : j < ws.length), w.cell? ⟨b, o + j, none⟩ = some (.string ⟨ws[j].toArray⟩))
/-- what is written elsewhere leaves them -/
theorem WAt.kept {w w' : World} {R : Nat} {ws : List Bs} (h : WAt w R ws) (k : Kept [] w w') : WAt w' R ws := by
  obtain ⟨A, c, hB, hw⟩ := h
  refine ⟨A, c, hB.kept k (fun h => by cases h), fun hne => ?_⟩
  obtain ⟨b, o, e, h1, h2, h3⟩ := hw hne
  exact ⟨b, o, e, h1, h2, fun j hj => k.cell (h3 j hj) (fun h => by cases h)⟩
/-- what is written in blocks behind leaves them, too -/
theorem WAt.behind {w w' : World} {R : Nat} {ws : List Bs} {l : List Nat} (h : WAt w R ws) (k : Kept l w w') (hl : ∀ x ∈ l, R < x) : WAt w' R ws := by
  obtain ⟨A, c, hB, hw⟩ := h
  refine ⟨A, c, hB.kept k (fun h => Nat.lt_irrefl _ (hl _ h)), fun hne => ?_⟩
  obtain ⟨b, o, e, h1, h2, h3⟩ := hw hne
  exact ⟨b, o, e, h1, h2, fun j hj => k.cell (h3 j hj) (fun h => Nat.lt_irrefl _ (Nat.lt_trans h1 (hl _ h)))⟩
/-- the next one is taken -/
theorem WAt.step {w : World} {R b o c : Nat} {x : Bs} {t : List Bs} (hB : Blk w R 82 #[.slice (some ⟨b, o, none⟩) (t.length + 1) c]) (hbR : b < R) (hlc : t.length + 1 ≤ c) (hx : ∀ j (hj : j < (x :: t).length), w.cell? ⟨b, o + j, none⟩ = some (.string ⟨(x :: t)[j].toArray⟩)) :
    (∀ A c', c = 1 → WAt (w.setCell ⟨R, 0, none⟩ (.slice A t.length c')) R t) ∧ WAt (w.setCell ⟨R, 0, none⟩ (.slice (some ⟨b, o + 1, none⟩) t.length (c - 1))) R t ∧ ∀ u, Kept [R] w (w.setCell ⟨R, 0, none⟩ u) := by
  have hk : ∀ u, Kept [R] w (w.setCell ⟨R, 0, none⟩ u) := fun u => (Kept.refl [R] w).setCell (.inl (List.mem_singleton.2 rfl)) u
  refine ⟨fun A c' hc => ⟨A, c', hB.set_ 0 _, fun hne => ?_⟩, ⟨some ⟨b, o + 1, none⟩, c - 1, hB.set_ 0 _, fun _ => ⟨b, o + 1, rfl, hbR, by omega, fun j hj => ?_⟩⟩, hk⟩
  · cases t with
    | nil => exact absurd rfl hne
    | cons y t => rw [List.length_cons] at hlc; omega
  · have h1 := (hk (.slice (some ⟨b, o + 1, none⟩) t.length (c - 1))).cell (hx (j + 1) (by rw [List.length_cons]; omega)) (fun h => Nat.ne_of_lt hbR (List.mem_singleton.1 h))
    rw [List.getElem_cons_succ] at h1
    rw [show o + 1 + j = o + (j + 1) by omega]
    exact h1
def NextPost (R : Nat) (ws : List Bs) (w : World) (e : Ending) (w' : World) : Prop := e = .returned (.string ⟨(ws.headD []).toArray⟩) ∧ WAt w' R ws.tail ∧ Kept [R] w w'
set_option maxRecDepth 4000 in
set_option maxHeartbeats 1000000 in
theorem dump_next (R : Nat) (ws : List Bs) (w : World) (h : WAt w R ws) (hn : ws.length ≤ 1000000) : Calls Tryd.prog 48 #[.pointer (some ⟨R, 0, none⟩)] w (NextPost R ws w) := by
  obtain ⟨A, c, hB, hw⟩ := h
  have hc := hB.cell 0
  have hf := hB.frozen 0
  simp only [List.getElem?_toArray, List.getElem?_cons_zero] at hc
  cases ws with
  | nil =>
    have HF : Hid (NextPost R [] w (.returned (.string ⟨#[]⟩)) w) := ⟨rfl, ⟨A, c, hB, fun h => absurd rfl h⟩, Kept.refl _ _⟩
    generalize NextPost R [] w = Q at *
    rw [List.length_nil] at hc
    clear hw
    go_enter Tryd.func48, Tryd.ntmps48
    go_wp2_with fail
    exact HF.out
  | cons x t =>
    obtain ⟨b, o, rfl, hbR, hlc, hx⟩ := hw (fun h => by cases h)
    have hx0 := hx 0 (by simp)
    rw [List.getElem_cons_zero, Nat.add_zero] at hx0
    rw [List.length_cons] at hc hlc hn hB
    obtain ⟨s1, s2, s3⟩ := WAt.step hB hbR hlc hx
    have HS1 : Hid (∀ A c', c = 1 → NextPost R (x :: t) w (.returned (.string ⟨x.toArray⟩)) (w.setCell ⟨R, 0, none⟩ (.slice A t.length c'))) := fun A c' h => ⟨rfl, s1 A c' h, s3 _⟩
    have HS2 : Hid (NextPost R (x :: t) w (.returned (.string ⟨x.toArray⟩)) (w.setCell ⟨R, 0, none⟩ (.slice (some ⟨b, o + 1, none⟩) t.length (c - 1)))) := ⟨rfl, s2, s3 _⟩
    clear s1 s2 s3 hB
    have hl0 : ((t.length : Int) + 1 == 0) = false := by rw [beq_eq_false_iff_ne]; omega
    have hl1 : (0 : Int) < (t.length : Int) + 1 := by omega
    have hl2 : (1 : Int) ≤ (t.length : Int) + 1 := by omega
    clear hw hx
    generalize NextPost R (x :: t) w = Q at *
    go_enter Tryd.func48, Tryd.ntmps48
    go_wp2_with fail
    · exact HS1.out _ _ ‹c = 1›
    · exact HS2.out
end Go.Proofs.YtooplogodcadgaaDoor
