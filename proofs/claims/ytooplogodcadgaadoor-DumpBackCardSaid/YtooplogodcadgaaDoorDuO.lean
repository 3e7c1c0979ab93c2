/- Dumps: the program's words: is. -/
import Derived.Test.YtooplogodcadgaaDoorDuN
import Derived.Lib.SlicesS
namespace Go.Proofs.YtooplogodcadgaaDoor
open Go.RowKit Go.Lib

/-- a row of texts -/
def TAt (w : World) (b : Nat) (l : List Bs) : Prop := ∀ k (hk : k < l.length), w.cell? ⟨b, k, none⟩ = some (.string ⟨l[k].toArray⟩)
theorem TAt.new (w : World) (l : List Bs) : TAt (w.alloc (.cells (l.map fun z => Value.string ⟨z.toArray⟩).toArray 9)) w.heap.size l := fun j hj => by
  rw [(Blk.new w 9 _).cell]
  simp [hj]
theorem TAt.keptR {w w' : World} {b R : Nat} {l : List Bs} (h : TAt w b l) (k : Kept [R] w w') (hb : b ≠ R) : TAt w' b l := fun j hj => k.cell (h j hj) (fun h => hb (List.mem_singleton.1 h))
theorem lib_Contains (b c : Nat) (l : List Bs) (x : Bs) (w : World) (h : TAt w b l) (hn : l.length ≤ 1000) : Calls Tryd.prog 49 #[.slice (some ⟨b, 0, none⟩) l.length c, .string ⟨x.toArray⟩] w fun e w' => e = .returned (.bool (l.contains x)) ∧ w = w' := by
  have hl : (l.map fun z => (⟨z.toArray⟩ : ByteArray)).length = l.length := by simp
  refine (Tryd.slices_Contains_string b 0 l.length c (l.map fun z => (⟨z.toArray⟩ : ByteArray)) ⟨x.toArray⟩ w (by rw [hl]; exact Nat.le_refl _) (by omega) (fun j hj => ?_)).mono ?_
  · rw [hl] at hj
    rw [Nat.zero_add, h j hj]
    simp [List.getD, hj]
  · rintro e w' ⟨rfl, rfl⟩
    refine ⟨?_, rfl⟩
    congr 2
    rw [Bool.eq_iff_iff, containsS_iff, List.take_of_length_le (by rw [hl]; exact Nat.le_refl _), List.mem_map, List.contains_iff_mem]
    constructor
    · rintro ⟨z, hz, e⟩
      injection e with e
      have e2 : z = x := by simpa using congrArg Array.toList e
      exact e2 ▸ hz
    · exact fun h => ⟨x, h, rfl⟩
def IsPost (R : Nat) (ws l : List Bs) (w : World) (e : Ending) (w' : World) : Prop := Kept [R] w w' ∧ WAt w' R ws.tail ∧ ((ws.headD [] ∉ l ∧ e = .panicked [badV]) ∨ (ws.headD [] ∈ l ∧ e = .returned (.string ⟨(ws.headD []).toArray⟩)))
theorem dump_is (R b c : Nat) (ws l : List Bs) (w : World) (h : WAt w R ws) (hn : ws.length ≤ 1000000) (ht : TAt w b l) (hl : l.length ≤ 1000) (hb : b ≠ R) : Calls Tryd.prog 33 #[.pointer (some ⟨R, 0, none⟩), .slice (some ⟨b, 0, none⟩) l.length c] w (IsPost R ws l w) := by
  have HNo : Hid (∀ w', ws.headD [] ∉ l → WAt w' R ws.tail → Kept [R] w w' → IsPost R ws l w (.panicked [badV]) w') := fun w' h a k => ⟨k, a, .inl ⟨h, rfl⟩⟩
  have HYes : Hid (∀ w', ws.headD [] ∈ l → WAt w' R ws.tail → Kept [R] w w' → IsPost R ws l w (.returned (.string ⟨(ws.headD []).toArray⟩)) w') := fun w' h a k => ⟨k, a, .inr ⟨h, rfl⟩⟩
  have HNx := Lib.hid (dump_next R ws w h hn)
  unfold NextPost at HNx
  generalize IsPost R ws l w = Q at *
  generalize ws.headD [] = x at *
  generalize ws.tail = t at *
  have HT := Lib.hid ht
  clear h ht
  go_enter Tryd.func33, Tryd.ntmps33
  go_wp2_with fail
  refine HNx.out.mono ?_
  rintro e w1 ⟨rfl, a1, k1⟩
  have A1 := Lib.hid a1
  have K1 := Lib.hid k1
  clear a1 k1 HNx
  have HC := Lib.hid (lib_Contains b c l x w1 (HT.out.keptR K1.out hb) hl)
  by_cases hm : x ∈ l
  · have hM := Lib.hid hm
    have hv : l.contains x = true := List.contains_iff_mem.2 hm
    rw [hv] at HC
    clear hm hv
    go_wp2_with fail
    refine HC.out.mono ?_
    rintro e w2 ⟨rfl, rfl⟩
    go_wp2_with fail
    exact HYes.out _ hM.out A1.out K1.out
  · have hM := Lib.hid hm
    have hv : l.contains x = false := by
      rw [Bool.eq_false_iff]
      exact fun h => hm (List.contains_iff_mem.1 h)
    rw [hv] at HC
    clear hm hv
    go_wp2_with fail
    refine HC.out.mono ?_
    rintro e w2 ⟨rfl, rfl⟩
    go_wp2_with fail
    exact ⟨rfl, HNo.out _ hM.out A1.out K1.out⟩
end Go.Proofs.YtooplogodcadgaaDoor
