/- The program's octet: the numbers of bytes. -/
import Derived.Test.YtcjdkanmbafjmaaDoorOctD
namespace Go.Proofs.YtcjdkanmbafjmaaDoor
open Go.RowKit

/-- the sizes, as numbers that are none of them below 0 -/
def natZ (zs : List Int) : List Nat := zs.map Int.toNat
/-- what a reading tells: numbers and what stands behind, or the error -/
def getL (s : List UInt8) (zs : List Int) : List Nat × List UInt8 × Int :=
  if badB zs = true then ([], [], 1) else if offN (natZ zs) zs.length ≤ s.length then (numsK s (natZ zs) zs.length, s.drop (offN (natZ zs) zs.length), 0) else ([], [], 21)
theorem good_of (zs : List Int) (h : badB zs = false) : ∀ z ∈ zs, 0 ≤ z ∧ z ≤ 8 := by
  intro z hz
  rw [badB, List.any_eq_false] at h
  have := h z hz
  simp [sizeB] at this
  exact this
theorem natZ_iv (zs : List Int) (h : badB zs = false) : (natZ zs).map (fun z : Nat => iv (z : Int)) = zs.map iv := by
  rw [natZ, List.map_map]
  refine List.map_congr_left fun z hz => ?_
  have := (good_of zs h z hz).1
  simp [iv, Int.toNat_of_nonneg this]

theorem rd_grow {w w' : World} {size n : Nat} {A : Option Addr} {xs : List Value} (h : Rd w w.heap.size size A n xs) (k : Kept [] w w') : Rd w' w'.heap.size size A n xs := by
  have h2 := h.kept k (Nat.le_refl _) (fun _ h => by cases h)
  exact ⟨h2.1, fun hn => by
    obtain ⟨b, o, e, hlt, hc⟩ := h2.2 hn
    exact ⟨b, o, e, Nat.lt_of_lt_of_le hlt k.size, hc⟩⟩
def GetPost (w : World) (s : List UInt8) (zs : List Int) (e : Ending) (w' : World) : Prop :=
  ∃ A c, e = .returned (.tuple #[.slice A (getL s zs).1.length c, .string ⟨(getL s zs).2.1.toArray⟩, .int .i64 (getL s zs).2.2]) ∧ Kept [] w w' ∧ w'.ownsRow w.heap.size 38 1 (.slice A (getL s zs).1.length c) (getL s zs).1.length ((getL s zs).1.map uv)

set_option maxRecDepth 4000 in
set_option maxHeartbeats 1000000 in
theorem oct_Get (w : World) (s : List UInt8) (A : Option Addr) (c : Nat) (zs : List Int) (h : Rd w w.heap.size 1 A zs.length (zs.map iv)) (hn : zs.length ≤ 1000000) (hs : s.length ≤ 140737488351232) :
    Calls Tryd.prog 23 #[.string ⟨s.toArray⟩, .slice A zs.length c] w (GetPost w s zs) := by
  cases hbad : badB zs
  · have hlen : (natZ zs).length = zs.length := by simp [natZ]
    have H := Lib.hid h
    have hg := good_of zs hbad
    have Hiv := Lib.hid (natZ_iv zs hbad)
    have hz8 : ∀ z ∈ natZ zs, z ≤ 8 := by
      intro z hz
      obtain ⟨y, hy, rfl⟩ := List.mem_map.1 hz
      have := hg y hy
      omega
    have Hz8 := Lib.hid hz8
    have HL : Hid (getL s zs = if offN (natZ zs) zs.length ≤ s.length then (numsK s (natZ zs) zs.length, s.drop (offN (natZ zs) zs.length), 0) else ([], [], 21)) := by
      rw [Hid, getL, if_neg (by rw [hbad]; simp)]
    have Hlen := Lib.hid hlen
    clear h hg hz8 hlen
    go_enter Tryd.func23, Tryd.ntmps23
    go_wp2_with fail
    refine (oct_Contains w A c zs H.out hn).mono ?_
    rintro e w' ⟨rfl, rfl⟩
    rw [hbad]
    clear hbad
    go_wp2_with fail
    have hA := oct_take (w.alloc (.cells #[.string ⟨s.toArray⟩] 71)) w.heap.size s A c (natZ zs) (Blk.new _ _ _) (by rw [Hlen.out, Hiv.out]; exact rd_grow H.out ((Kept.refl [] w).alloc _)) Hz8.out (by rw [Hlen.out]; exact hn) hs
    rw [Hlen.out] at hA
    refine hA.mono ?_
    rintro e w2 ⟨k2, hpost⟩
    by_cases hfit : offN (natZ zs) zs.length ≤ s.length
    · rw [Hlen.out, if_pos hfit] at hpost
      obtain ⟨v, rfl, hB2, hown⟩ := hpost
      obtain ⟨A2, c2, rfl, _⟩ := own_slice hown
      have hcR := hB2.cell 0
      have HB2 := Lib.hid hB2
      have HF := Lib.hid hfit
      have hsz := k2.size
      clear hB2 hfit
      go_wp2_with fail
      go_quiet (fail)
      go_wp2_with fail
      go_ret3
      have hl : (numsK s (natZ zs) zs.length).length = zs.length := numsK_len _ _ _
      refine ⟨A2, c2, ?_, (((Kept.refl [] w).alloc _).trans' k2 (fun x hx => .inr (by simp at hx; omega))).drewN nq, ?_⟩
      · rw [HL.out, if_pos HF.out]
        simp only [hl]
        rfl
      · rw [HL.out, if_pos HF.out]
        simp only [hl]
        exact ((Kept.refl [] w2).drewN nq).owns (own_base hown (by simp)) (fun _ _ h => by cases h)
    · rw [Hlen.out, if_neg hfit] at hpost
      obtain ⟨v, rfl⟩ := hpost
      have HF := Lib.hid hfit
      clear hfit
      go_wp2_with fail
      go_ret3
      refine ⟨none, 0, ?_, ((Kept.refl [] w).alloc _).trans' k2 (fun x hx => .inr (by simp at hx; omega)), ?_⟩
      · rw [HL.out, if_neg HF.out]; rfl
      · rw [HL.out, if_neg HF.out]; exact World.ownsRow_nil _ _ _ _
  · have HL : Hid (getL s zs = ([], [], 1)) := by rw [Hid, getL, if_pos hbad]
    have H := Lib.hid h
    clear h
    go_enter Tryd.func23, Tryd.ntmps23
    go_wp2_with fail
    refine (oct_Contains w A c zs H.out hn).mono ?_
    rintro e w' ⟨rfl, rfl⟩
    rw [hbad]
    go_wp2_with fail
    go_ret3
    refine ⟨none, 0, ?_, Kept.refl _ _, ?_⟩
    · rw [HL.out]; rfl
    · rw [HL.out]; exact World.ownsRow_nil _ _ _ _
end Go.Proofs.YtcjdkanmbafjmaaDoor
