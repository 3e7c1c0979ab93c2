/- The program's octet: whether all bytes are 0. -/
import Derived.Test.YtcjdkanmbafjmaaDoorOctE
namespace Go.Proofs.YtcjdkanmbafjmaaDoor
open Go.RowKit

theorem app_arr2 (a b : List UInt8) : (⟨a.toArray⟩ : ByteArray) ++ ⟨b.toArray⟩ = ⟨(a ++ b).toArray⟩ := by
  apply ByteArray.ext
  simp [ByteArray.data_append]
theorem oct_Zero (s : List UInt8) (w : World) (hs : s.length ≤ 140737488351232) :
    Calls Tryd.prog 24 #[.string ⟨s.toArray⟩] w fun e w' => e = .returned (.bool (Lib.trimB s 0).isEmpty) ∧ Kept [] w w' := by
  go_enter Tryd.func24, Tryd.ntmps24
  go_wp2_with fail
  refine (Tryd.strings_Trim_one ⟨s.toArray⟩ 0 (by decide) w (by show s.length ≤ _; omega)).mono ?_
  rintro e w' ⟨rfl, hw⟩
  have hk : Kept [] w w' := by
    rcases hw with rfl | rfl
    · exact Kept.refl _ _
    · exact (Kept.refl _ _).drew
  clear hw
  rw [show (⟨s.toArray⟩ : ByteArray).data.toList = s from rfl]
  go_wp2_with fail
  go_ret
  exact ⟨rfl, hk⟩
theorem mem_drop {α : Type} {p : α → Bool} {x : α} (hp : p x = false) : ∀ {l : List α}, x ∈ l → x ∈ l.dropWhile p
  | y :: l, h => by
    rcases List.mem_cons.1 h with rfl | h
    · rw [List.dropWhile_cons, hp]; simp
    · rw [List.dropWhile_cons]
      split
      · exact mem_drop hp h
      · exact List.mem_cons_of_mem _ h
theorem drop_all {α : Type} {p : α → Bool} : ∀ {l : List α}, l.all p = true → l.dropWhile p = []
  | [], _ => rfl
  | y :: l, h => by
    rw [List.all_cons, Bool.and_eq_true] at h
    rw [List.dropWhile_cons, h.1]
    simp [drop_all h.2]
theorem trim_all (s : List UInt8) : (Lib.trimB s 0).isEmpty = s.all (· == 0) := by
  unfold Lib.trimB Lib.trimLeftB Lib.trimRightB
  cases h : s.all (· == 0)
  · rw [List.all_eq_false] at h
    obtain ⟨x, hx, hp⟩ := h
    have hp : (x == 0) = false := by simpa using hp
    have h1 := mem_drop (p := (· == (0 : UInt8))) hp (List.mem_reverse.2 hx)
    have h2 := mem_drop (p := (· == (0 : UInt8))) hp (List.mem_reverse.2 h1)
    rw [List.isEmpty_eq_false_iff]
    exact List.ne_nil_of_mem h2
  · have : s.reverse.all (· == 0) = true := by rw [List.all_reverse]; exact h
    rw [drop_all this]
    rfl

end Go.Proofs.YtcjdkanmbafjmaaDoor
