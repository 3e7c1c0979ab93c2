/- The program's octet: a reading takes numbers, or stops. -/
import Derived.Test.YtcjdkanmbafjmaaDoorOctC
namespace Go.Proofs.YtcjdkanmbafjmaaDoor
open Go.RowKit

def uv (n : Nat) : Value := .int .u64 (n : Int)
/-- where the k-th number begins -/
def offN (zs : List Nat) (k : Nat) : Nat := (zs.take k).sum
def numsK (s : List UInt8) (zs : List Nat) (k : Nat) : List Nat := (List.range k).map fun i => numN ((s.drop (offN zs i)).take (zs[i]?.getD 0))
theorem offN_succ (zs : List Nat) (k : Nat) (h : k < zs.length) : offN zs (k + 1) = offN zs k + zs[k] := by
  unfold offN
  rw [List.take_succ_eq_append_getElem h, List.sum_append]
  simp
theorem offN_le (zs : List Nat) (k : Nat) : ∀ d, offN zs k ≤ offN zs (k + d)
  | 0 => Nat.le_refl _
  | d + 1 => by
    refine Nat.le_trans (offN_le zs k d) ?_
    rcases Nat.lt_or_ge (k + d) zs.length with h | h
    · rw [← Nat.add_assoc, offN_succ zs (k + d) h]; omega
    · unfold offN
      rw [List.take_of_length_le h, List.take_of_length_le (by omega)]
      exact Nat.le_refl _
theorem numsK_succ (s : List UInt8) (zs : List Nat) (k : Nat) (h : k < zs.length) : numsK s zs (k + 1) = numsK s zs k ++ [numN ((s.drop (offN zs k)).take zs[k])] := by
  unfold numsK
  rw [List.range_succ]
  simp [h]
theorem numsK_len (s : List UInt8) (zs : List Nat) (k : Nat) : (numsK s zs k).length = k := by simp [numsK]
theorem info64 : (Tryd.prog.info? 38).map (fun i => (i.zero, i.size, i.bytes)) = some (some (.int .u64 0), 1, 8) := by kernel_rfl

theorem own_base {w : World} {base base' e size n : Nat} {v : Value} {xs : List Value} (h : w.ownsRow base e size v n xs) (hb : base' ≤ base) : w.ownsRow base' e size v n xs := by
  refine ⟨h.1, ?_⟩
  rcases h.2 with h1 | ⟨g, cap, cur, h1, h2, h3⟩
  · exact .inl h1
  · exact .inr ⟨g, cap, cur, h1, Nat.le_trans hb h2, h3⟩
def TakePost (w : World) (R : Nat) (s : List UInt8) (zs : List Nat) (e : Ending) (w' : World) : Prop :=
  Kept [R] w w' ∧ (if offN zs zs.length ≤ s.length then ∃ v, e = .returned (.tuple #[v, .int .i64 0]) ∧ Blk w' R 71 #[.string ⟨(s.drop (offN zs zs.length)).toArray⟩] ∧ w'.ownsRow w.heap.size 38 1 v zs.length ((numsK s zs zs.length).map uv)
    else ∃ v, e = .returned (.tuple #[v, .int .i64 21]))

set_option maxRecDepth 4000 in
set_option maxHeartbeats 1000000 in
theorem oct_take (w : World) (R : Nat) (s : List UInt8) (A : Option Addr) (c : Nat) (zs : List Nat) (hR : Blk w R 71 #[.string ⟨s.toArray⟩]) (h : Rd w w.heap.size 1 A zs.length (zs.map fun z : Nat => iv (z : Int))) (hz : ∀ z ∈ zs, z ≤ 8) (hn : zs.length ≤ 1000000) (hs : s.length ≤ 140737488351232) :
    Calls Tryd.prog 38 #[.pointer (some ⟨R, 0, none⟩), .slice A zs.length c] w (TakePost w R s zs) := by
  have HS : Hid (∀ k, (hk : k < zs.length) → ∃ b o, A = some ⟨b, o, none⟩ ∧ w.cell? ⟨b, o + k, none⟩ = some (.int .i64 (zs[k] : Int)) ∧ b ≠ R) := fun k hk => by
    obtain ⟨b, o, e, hb, hc⟩ := h.2 (by omega)
    have hc2 := hc k (iv zs[k]) (by simp [hk])
    refine ⟨b, o, e, hc2, fun hbr => ?_⟩
    subst hbr
    rw [hR.cell] at hc2
    rcases Nat.eq_zero_or_pos (o + k) with h0 | h0
    · rw [h0] at hc2; cases hc2
    · rw [Array.getElem?_eq_none (by simp; omega)] at hc2; cases hc2
  have HR := Lib.hid hR
  have Hz := Lib.hid hz
  clear h hR hz
  have hRlt := HR.out.lt
  obtain ⟨i0, hi0, hz0, hz1, hz2⟩ := info_parts info64
  go_enter_defers Tryd.func38, Tryd.ntmps38
  go_wp2_with fail
  have HB0 : Hid (Blk (w.alloc (.cells #[.int .i64 0] 24)) w.heap.size 24 #[.int .i64 0]) := Blk.new _ _ _
  have HK0 : Hid (Kept [R] w (w.alloc (.cells #[.int .i64 0] 24))) := (Kept.refl [R] w).alloc _
  go_loopw [4, 10] (fun v i W => ∃ (k : Nat) (Av : Option Addr) (cv : Nat), k ≤ zs.length ∧ i = .int .i64 k ∧ v = .slice Av k cv ∧ Hid (offN zs k ≤ s.length) ∧ Hid (W.ownsRow (w.heap.size + 1) 38 1 (.slice Av k cv) k ((numsK s zs k).map uv)) ∧ Hid (Blk W R 71 #[.string ⟨(s.drop (offN zs k)).toArray⟩]) ∧ Hid (Blk W w.heap.size 24 #[.int .i64 0]) ∧ Hid (Kept [R] w W)) (fun _ i _ => zs.length - (intOf i).toNat)
  case atStart => exact ⟨0, none, 0, Nat.zero_le _, rfl, rfl, Nat.zero_le _, World.ownsRow_nil _ _ _ _, HR.out.kept ((Kept.refl [] w).alloc _) (fun h => by cases h), HB0.out, HK0.out⟩
  case round =>
    obtain ⟨k, Av, cv, hk, rfl, rfl, HO, Hown, HBR, HBe, HK⟩ := hrel
    by_cases hlt : k < zs.length
    · obtain ⟨b, o, rfl, hc, hbR⟩ := HS.out k hlt
      have hc2 := HK.out.cell hc (by simpa using hbR)
      have hz8 := Hz.out _ (List.getElem_mem hlt)
      have HE := Lib.hid (offN_succ zs k hlt)
      have HN := Lib.hid (numsK_succ s zs k hlt)
      have Hd : Hid ((s.drop (offN zs k)).drop zs[k] = s.drop (offN zs (k + 1))) := by rw [Hid, List.drop_drop, HE.out]
      have hle := HO.out
      have hdl : (s.drop (offN zs k)).length = s.length - offN zs k := by simp
      have HM := Lib.hid (offN_le zs (k + 1) (zs.length - (k + 1)))
      clear hc
      generalize zs[k] = z at *
      go_wp2_with fail
      by_cases hfit : z ≤ s.length - offN zs k
      · refine (oct_number wr R (s.drop (offN zs k)) z hz8 HBR.out (by omega) (by omega)).mono ?_
        rintro e w1 ⟨rfl, k1, hB1⟩
        have hsz := HK.out.size
        have hsz1 := k1.size
        have hown := k1.owns Hown.out (fun x hx => by simpa using own_ne Hown.out HBR.out (by decide) x hx)
        have hBe1 := HBe.out.kept k1 (by simp; omega)
        have HBe1 := Lib.hid hBe1
        have HB1 := Lib.hid hB1
        clear hBe1 hB1
        generalize numN ((s.drop (offN zs k)).take z) = nu at *
        go_wp2_with (at_builtin; refine wpList_append_lies _ rfl (.tmp 14) (.tmp 18) _ rfl (w.heap.size + 1) 38 i0 _ 1 8 Tryd.underlying41 hi0 hz0 hz1 hz2 rfl (by omega) _ _ _ rfl (hown.alloc _) ⟨w1.heap.size, 0, none⟩ 1 1 [uv nu] rfl rfl (World.news_of_block (cs := #[uv nu]) (t := 38) (fr := (0, 0)) (heap_alloc_new w1 _)) (by simp [uv, Value.oneCell']) (by omega) (by simp only [maxLen]; omega) (by omega) (by simp; omega) _ rfl ?_; intro gg cap w2 hown2 hgrow hat hlt2)
        go_roundw
        case rel =>
          have hk2 : Kept (Value.slice Av k cv).ownBlock.toList w1 w2 := ((Kept.refl _ w1).alloc _).grown hgrow (fun x hx => .inl (by rw [Option.mem_toList]; exact hx))
          refine ⟨k + 1, _, _, by omega, by go_num, rfl, ?_, ?_, ?_, ?_, ?_⟩
          · rw [Hid, HE.out]; omega
          · rw [Hid, HN.out, List.map_append]
            simpa using hown2
          · rw [← Hd.out]
            exact HB1.out.kept hk2 (fun hm => own_ne hown HB1.out (by decide) _ (by simpa using hm) rfl)
          · exact HBe1.out.kept hk2 (fun hm => own_ne hown HBe1.out (by decide) _ (by simpa using hm) rfl)
          · exact (HK.out.trans k1).trans' hk2 (fun x hx => .inr (by have := (hown.lt x (by simpa using hx)).1; omega))
        case measure => simp [intOf]; omega
      · refine (oct_number_cut wr R (s.drop (offN zs k)) z HBR.out (by omega)).mono ?_
        rintro e w1 ⟨rfl, k1⟩
        have hno : Hid (¬ offN zs zs.length ≤ s.length) := by
          have h1 := HM.out
          rw [show k + 1 + (zs.length - (k + 1)) = zs.length by omega, HE.out] at h1
          rw [Hid]; omega
        have hBe1 := HBe.out.kept k1 (fun h => by cases h)
        have hBe2 := Lib.hid hBe1
        have hK1 := Lib.hid (HK.out.trans' k1 (fun x hx => by cases hx))
        have hsz1 := k1.size
        have hsz := HK.out.size
        clear hBe1
        go_wp2_with fail
        refine leaves_cons (f := 51) (args := #[.pointer (some ⟨w.heap.size, 0, none⟩)]) (by simp) (by simp [go_sem]) ?_
        refine (rec_cut ⟨w.heap.size, 0, none⟩ 0 [] w1 (hBe2.out.cell 0) (hBe2.out.frozen 0)).mono ?_
        rintro e u' w'' ⟨rfl, rfl, rfl⟩
        have hce : ((w1.alloc (.cells #[.int .i64 21] 104)).setCell ⟨w.heap.size, 0, none⟩ (.int .i64 21)).cell? ⟨w.heap.size, 0, none⟩ = some (.int .i64 21) := (((hBe2.out.alloc _).set_ 0 _).cell 0)
        simp [Leaves, settle, results, Tryd.results38, go_sem, hce]
        refine ⟨(hK1.out.alloc _).setCell (.inr (Nat.le_refl _)) _, ?_⟩
        rw [if_neg hno.out]
        exact ⟨_, rfl⟩
    · obtain rfl : k = zs.length := by omega
      have hce := HBe.out.cell 0
      have hfe := HBe.out.frozen 0
      go_wp2_with fail
      refine leaves_cons (f := 51) (args := #[.pointer (some ⟨w.heap.size, 0, none⟩)]) (by simp) (by simp [go_sem]) ?_
      refine (rec_idle ⟨w.heap.size, 0, none⟩ _).mono ?_
      rintro e u' w'' ⟨rfl, rfl, rfl⟩
      have hce2 : (wr.setCell ⟨w.heap.size, 0, none⟩ (.int .i64 0)).cell? ⟨w.heap.size, 0, none⟩ = some (.int .i64 0) := (HBe.out.set_ 0 _).cell 0
      simp [Leaves, settle, results, Tryd.results38, go_sem, hce2]
      refine ⟨HK.out.setCell (.inr (Nat.le_refl _)) _, ?_⟩
      rw [if_pos HO.out]
      refine ⟨_, rfl, HBR.out.kept ((Kept.refl [w.heap.size] wr).setCell (.inl (by simp)) _) (by simp; omega), own_base (own_set Hown.out (fun k hk => ?_) _) (by omega)⟩
      have := (Hown.out.lt k hk).1
      show k ≠ w.heap.size
      omega
end Go.Proofs.YtcjdkanmbafjmaaDoor
