/- Tables: the document's: New, Copy, Page; whether two lists of numbers are one. -/
import Derived.Test.YtfidgmpeiabhiaaTbQ
namespace Go.Proofs.Ytfidgmpeiabhiaa
open Go.RowKit Go.Maps

/-- one number more in a row of the call's own -/
theorem app_fin {W wr w4 : World} {A' : Option Addr} {c' : Nat} {l : List Int} {x : Int} {v : Value} (HO : wr.ownsRow W.heap.size 3 1 (.slice A' l.length c') l.length (l.map iv)) (HK : Kept [] W wr)
    (h2 : w4.ownsRow 0 3 1 v (l.length + 1) (l.map iv ++ [iv x])) (h3 : (wr.alloc (.cells #[.int .i64 x] 3)).grownBy w4 (Value.slice A' l.length c').ownBlock)
    (h4 : v.ownBlock = (Value.slice A' l.length c').ownBlock ∨ v.ownBlock = some (wr.alloc (.cells #[.int .i64 x] 3)).heap.size) :
    w4.ownsRow W.heap.size 3 1 v (l ++ [x]).length ((l ++ [x]).map iv) ∧ Kept [] W w4 := by
  have hlo : ∀ j, (Value.slice A' l.length c').ownBlock = some j → W.heap.size ≤ j := fun j hj => (HO.lt j hj).1
  refine ⟨?_, (HK.alloc _).grown h3 (fun j e => .inr (hlo j e))⟩
  rw [List.length_append, List.length_singleton, List.map_append]
  refine own_up h2 (fun j hj => ?_)
  rcases h4 with h | h
  · exact hlo j (h ▸ hj)
  · rw [h] at hj
    injection hj with hj
    subst hj
    have := HK.size
    simp
    omega
theorem app_run {W wr : World} {A' : Option Addr} {c' : Nat} {l : List Int} (x : Int) (HO : wr.ownsRow W.heap.size 3 1 (.slice A' l.length c') l.length (l.map iv)) (hn : l.length ≤ 2000000) (t : TypeId) (ht : Try.prog.underlying t = some (.slice 3)) (ty : TypeId) :
    ∃ v' w', (Builtin.append_ #[t, t] ty #[.slice A' l.length c', .slice (some ⟨wr.heap.size, 0, none⟩) 1 1]).run Try.prog (wr.alloc (.cells #[.int .i64 x] 3)) = .ok v' w' ∧ w'.ownsRow 0 3 1 v' (l.length + 1) (l.map iv ++ [iv x]) ∧ (wr.alloc (.cells #[.int .i64 x] 3)).grownBy w' (Value.slice A' l.length c').ownBlock ∧
      (v'.ownBlock = (Value.slice A' l.length c').ownBlock ∨ v'.ownBlock = some (wr.alloc (.cells #[.int .i64 x] 3)).heap.size) := by
  obtain ⟨i0, p0, p1, p2, p3⟩ := info_parts infoI
  exact run_app (P := Try.prog) (wr.alloc (.cells #[.int .i64 x] 3)) t ty 3 i0 _ 1 8 ht p0 p1 p2 p3 rfl (by decide) _ _ _ (own_down (HO.alloc _) (Nat.zero_le _)) (some ⟨wr.heap.size, 0, none⟩) 1 1 [iv x] (by simp) (fun h => by cases h) (fun _ => ⟨_, 0, rfl, fun j u hu => by
    have := World.news_of_block (Blk.new wr 3 #[.int .i64 x]) j u hu
    rwa [Addr.add_lit] at this⟩) (iv_one [x]) (by simp only [maxLen]; omega) (by omega)
def RNewPost (n : Nat) (W : World) (e : Ending) (w' : World) : Prop := ∃ A c, e = .returned (.slice A n c) ∧ DtAt W.heap.size w' (.slice A (freshP n).length c) (freshP n) ∧ Kept [] W w'
theorem fresh_snoc (k : Nat) : freshP k ++ [-1] = freshP (k + 1) := List.replicate_succ'.symm
theorem rf_New (W : World) (n : Int) : Calls Try.prog 8 #[.int .i64 n] W (RNewPost (newN n) W) := by
  by_cases h1 : n > 1048576
  · have he : Hid (newN n = 0) := if_pos h1
    rw [he.out]
    go_enter Try.func8, Try.ntmps8
    go_wp2_with fail
    go_ret
    exact ⟨none, 0, rfl, World.ownsRow_nil _ _ _ _, Kept.refl _ _⟩
  · have he : Hid (newN n = n.toNat) := if_neg h1
    rw [he.out]
    go_enter Try.func8, Try.ntmps8
    go_wp2_with fail
    go_loopw [3, 4] (fun v i V => ∃ (k c' : Nat) (A' : Option Addr), k ≤ n.toNat ∧ i = .int .i64 k ∧ v = .slice A' k c' ∧ Hid (V.ownsRow W.heap.size 3 1 (.slice A' (freshP k).length c') (freshP k).length ((freshP k).map iv)) ∧ Hid (Kept [] W V)) (fun _ i _ => n.toNat - (intOf i).toNat)
    case atStart => exact ⟨0, 0, none, Nat.zero_le _, rfl, rfl, World.ownsRow_nil _ _ _ _, Kept.refl _ _⟩
    case round =>
      obtain ⟨k, c', A', hk, rfl, rfl, HO, HK⟩ := hrel
      by_cases hlt : (k : Int) < n
      · have hfl : (freshP k).length = k := by simp [freshP]
        have HRun := Lib.hid (app_run (W := W) (-1) HO.out (by rw [hfl]; omega) 27 Try.underlying27)
        rw [hfl] at HRun
        go_wp2_with (at_builtin; refine wpList_app rfl (.tmp 13) (.tmp 14) _ rfl _ _ rfl rfl (HRun.out _) ?_; rintro v3 w4 ⟨hr2, hr3, hr4⟩; obtain ⟨A3, c3, rfl, _⟩ := own_slice hr2; have HR2 := Lib.hid hr2; have HR3 := Lib.hid hr3; have HR4 := Lib.hid hr4; clear hr2 hr3 hr4 HRun)
        go_roundw
        case rel =>
          have h5 := app_fin (x := -1) HO.out HK.out (by rw [hfl]; exact HR2.out) (by rw [hfl]; exact HR3.out) (by rw [hfl]; exact HR4.out)
          rw [fresh_snoc] at h5
          have hfl2 : (freshP (k + 1)).length = k + 1 := by simp [freshP]
          exact ⟨k + 1, c3, A3, by omega, by go_num, rfl, by rw [Hid, hfl2]; rw [hfl2] at h5; exact h5.1, h5.2⟩
        case measure => simp [intOf]; omega
      · obtain rfl : k = n.toNat := by omega
        go_wp2_with fail
        go_ret
        exact ⟨A', c', rfl, HO.out, HK.out⟩
end Go.Proofs.Ytfidgmpeiabhiaa
