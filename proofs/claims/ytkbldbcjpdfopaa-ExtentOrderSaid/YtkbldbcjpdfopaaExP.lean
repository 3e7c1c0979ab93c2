/- Extents: the document's Free, Fit. -/
import Derived.Test.YtkbldbcjpdfopaaExO
namespace Go.Proofs.Ytkbldbcjpdfopaa
open Go.RowKit
attribute [local go_sem] Oper.semAt_some

theorem free_gaps {r : Ex} {l : List Ex} (h : rightX r l) : sumL (gapsX r l) = freeX r l := by
  have := (gaps_ok h).sum
  unfold freeX
  rw [if_pos (rightB_iff.2 h)]
  omega
set_option maxRecDepth 4000 in
set_option maxHeartbeats 2000000 in
theorem ref_Free (W : World) (n₀ : Nat) (r : Ex) (A : Option Addr) (c : Nat) (l : List Ex) (hn0 : n₀ ≤ W.heap.size) (hln : l.length ≤ 8796093022208) (hA : RdX n₀ W A l) (hl : ∀ x ∈ l, wfX x) :
    Calls Try.prog 15 #[exV r, .slice A l.length c] W fun e w' => e = .returned (.int .i64 (freeX r l)) ∧ Kept [] W w' := by
  have K0 := (Kept.refl [] W).alloc (.cells #[.int .i64 r.st, .int .i64 r.len] 23)
  have HG := Lib.hid (ref_Gaps (W.alloc (.cells #[.int .i64 r.st, .int .i64 r.len] 23)) n₀ r A c l (Nat.le_trans hn0 K0.size) hln (hA.kept K0 hn0) hl)
  replace K0 := Lib.hid K0
  have HX : Hid (∀ e w', GapsPost r l (W.alloc (.cells #[.int .i64 r.st, .int .i64 r.len] 23)) e w' → Kept [] W w' ∧ ∃ (A' : Option Addr) (c' : Nat) (G : List Ex) (en : Int) (n : Nat), e = .returned (.tuple #[.slice A' G.length c', .int .i64 en]) ∧ EAt n w' A' c' G ∧ sumL G = freeX r l ∧ G.length ≤ 1048577 ∧ sumL G ≤ 1048577 ∧ ∀ x ∈ G, 1 ≤ x.len) := by
    rintro e w' ⟨k, ⟨hb, rfl⟩ | ⟨hb, A', c', rfl, h⟩⟩
    · refine ⟨K0.out.trans k, none, 0, [], 1, 0, rfl, World.ownsRow_nil _ _ _ _, ?_, by simp, by simp [sumL], fun x hx => (by cases hx)⟩
      unfold freeX
      rw [hb]
      rfl
    · have hr := rightB_iff.1 hb
      have h1 := gapsX_len r l
      have h2 := right_sum hr
      have h3 := inB_iff.1 hr.1.2
      have h4 := (gaps_ok hr).sum
      refine ⟨K0.out.trans k, A', c', _, 0, _, rfl, h, free_gaps hr, by omega, by omega, fun x hx => ((gaps_ok hr).inn x hx).1⟩
  clear hA hl
  obtain ⟨rs, rl⟩ := r
  unfold exV at HG ⊢
  dsimp only at HG HX K0 ⊢
  generalize freeX ⟨rs, rl⟩ l = fr at *
  go_enter Try.func15, Try.ntmps15
  go_wp2_with fail
  refine HG.out.mono ?_
  intro e w1 hp
  obtain ⟨k1, A', c', G, en, n1, rfl, ho, hs, hgl, hsl, hpos⟩ := HX.out e w1 hp
  have K1 := Lib.hid k1
  have HO := Lib.hid ho
  have HS := Lib.hid hs
  have HPos : Hid (∀ k, k ≤ G.length → 0 ≤ sumL (G.take k) ∧ sumL (G.take k) ≤ sumL G) := fun k hk => by
    have e : sumL G = sumL (G.take k) + sumL (G.drop k) := by rw [← sumL_append, List.take_append_drop]
    have h1 := sumL_nonneg (l := G.take k) (fun x hx => hpos x (List.mem_of_mem_take hx))
    have h2 := sumL_nonneg (l := G.drop k) (fun x hx => hpos x (List.mem_of_mem_drop hx))
    omega
  have HPos1 := Lib.hid hpos
  clear hp k1 ho hs hpos HX HG
  go_wp2_with fail
  go_loopw [7, 8] (fun a i V => ∃ k : Nat, k ≤ G.length ∧ i = .int .i64 k ∧ a = .int .i64 (sumL (G.take k)) ∧ Hid (Kept [] w1 V)) (fun _ i _ => G.length - (intOf i).toNat)
  case atStart => exact ⟨0, Nat.zero_le _, rfl, by simp [sumL], Kept.refl _ _⟩
  case round =>
    obtain ⟨k, hk, rfl, rfl, HK⟩ := hrel
    by_cases hlt : k < G.length
    · obtain ⟨b, rfl, d0, d1⟩ := EAt.at_ HO.out hlt
      have c1 := HK.out.cell d1 (fun h => by cases h)
      have HT := Lib.hid (sumL_take hlt)
      have p1 := HPos.out k hk
      have p2 := HPos.out (k + 1) hlt
      rw [HT.out] at p2
      have p3 := HPos1.out G[k] (List.getElem_mem _)
      have hki : (k : Int) < (G.length : Int) := by omega
      clear d0 d1
      generalize G[k] = x at *
      obtain ⟨xs, xl⟩ := x
      dsimp only at c1 HT p2 p3
      generalize sumL (G.take k) = m at *
      have w1 : IntKind.i64.wrap (m + xl) = m + xl := IntWalk.i64_in _ (by omega)
      go_wp2_with fail
      go_roundw
      case rel => exact ⟨k + 1, by omega, by go_num, by rw [HT.out], HK.out⟩
      case measure => simp [intOf]; omega
    · obtain rfl : k = G.length := by omega
      rw [List.take_length]
      go_wp2_with fail
      go_ret
      rw [HS.out]
      exact ⟨rfl, K1.out.trans HK.out⟩
theorem results_rfit (tmps : Array Value) (w : World) (b6 : Nat) (u v z : Value) (hp : tmps[6]?.getD undef = .pointer (some ⟨b6, 0, none⟩)) (hq : tmps[7]?.getD undef = z) (h0 : Blk w b6 23 #[u, v]) :
    (results Try.f10 tmps).run Try.prog w = .ok (.tuple #[.agg #[u, v], z]) w := by
  have c0 := h0.cell 0
  have c1 := h0.cell 1
  simp [results, hp, hq, asAddr, c0, c1, go_sem]
set_option maxRecDepth 4000 in
set_option maxHeartbeats 2000000 in
theorem ref_Fit (W : World) (n₀ : Nat) (r : Ex) (n : Int) (A : Option Addr) (c : Nat) (l : List Ex) (hn0 : n₀ ≤ W.heap.size) (hln : l.length ≤ 8796093022208) (hA : RdX n₀ W A l) (hl : ∀ x ∈ l, wfX x) :
    Calls Try.prog 10 #[exV r, .int .i64 n, .slice A l.length c] W (FitPost r n l W) := by
  have K0 := ((Kept.refl [] W).alloc (.cells #[.int .i64 r.st, .int .i64 r.len] 23)).alloc (.cells #[.int .i64 0, .int .i64 0] 23)
  have HG := Lib.hid (ref_Gaps ((W.alloc (.cells #[.int .i64 r.st, .int .i64 r.len] 23)).alloc (.cells #[.int .i64 0, .int .i64 0] 23)) n₀ r A c l (Nat.le_trans hn0 K0.size) hln (hA.kept K0 hn0) hl)
  have B6 : Blk ((W.alloc (.cells #[.int .i64 r.st, .int .i64 r.len] 23)).alloc (.cells #[.int .i64 0, .int .i64 0] 23)) (W.heap.size + 1) 23 #[.int .i64 0, .int .i64 0] := blk_new' (by simp)
  have hzW : ((W.alloc (.cells #[.int .i64 r.st, .int .i64 r.len] 23)).alloc (.cells #[.int .i64 0, .int .i64 0] 23)).heap.size = W.heap.size + 2 := by simp
  replace K0 := Lib.hid K0
  have HFin : Hid (∀ (a b : Int) (z : Int) (w' : World), fitX r n l = (⟨a, b⟩, z) → Kept [] W w' → FitPost r n l W (.returned (.tuple #[.agg #[.int .i64 a, .int .i64 b], .int .i64 z])) w') := fun a b z w' h k => ⟨by rw [h]; rfl, k⟩
  by_cases hr : rightX r l
  · have hb := rightB_iff.2 hr
    have HX : Hid (∀ e w', GapsPost r l ((W.alloc (.cells #[.int .i64 r.st, .int .i64 r.len] 23)).alloc (.cells #[.int .i64 0, .int .i64 0] 23)) e w' → Kept [] ((W.alloc (.cells #[.int .i64 r.st, .int .i64 r.len] 23)).alloc (.cells #[.int .i64 0, .int .i64 0] 23)) w' ∧ ∃ (A' : Option Addr) (c' : Nat), e = .returned (.tuple #[.slice A' (gapsX r l).length c', .int .i64 0]) ∧ EAt (W.heap.size + 2) w' A' c' (gapsX r l)) := by
      rintro e w' ⟨k, ⟨hb2, rfl⟩ | ⟨hb2, A', c', rfl, h⟩⟩
      · rw [hb] at hb2
        cases hb2
      · rw [hzW] at h
        exact ⟨k, A', c', rfl, h⟩
    have hgl : (gapsX r l).length ≤ 1048577 := by
      have h1 := gapsX_len r l
      have h2 := right_sum hr
      have h3 := inB_iff.1 hr.1.2
      omega
    have HF : Hid (¬ n < 1 → fitX r n l = match (gapsX r l).find? (fun x => decide (n ≤ x.len)) with | some x => (⟨x.st, n⟩, 0) | none => (⟨0, 0⟩, 111)) := fun h => by
      unfold fitX
      refine if_neg ?_
      rintro (h2 | h2)
      · exact h h2
      · rw [hb] at h2
        cases h2
    have HF1 : Hid (n < 1 → fitX r n l = (⟨0, 0⟩, 1)) := fun h => if_pos (.inl h)
    clear hr hb hA hl
    obtain ⟨rs, rl⟩ := r
    unfold exV at HG ⊢
    dsimp only at HG HX K0 HFin B6 hzW HF HF1 ⊢
    generalize gapsX ⟨rs, rl⟩ l = G at *
    generalize FitPost ⟨rs, rl⟩ n l W = Q at *
    generalize fitX ⟨rs, rl⟩ n l = fx at *
    go_enter Try.func10, Try.ntmps10
    go_wp2_with fail
    refine HG.out.mono ?_
    intro e w1 hp
    obtain ⟨k1, A', c', rfl, ho⟩ := HX.out e w1 hp
    have K1 := Lib.hid (K0.out.trans k1)
    have HO := Lib.hid ho
    have C6 := Lib.hid (B6.kept k1 (fun h => by cases h))
    clear hp k1 ho HG HX B6
    by_cases hn : n < 1
    · have hf := HF1.out hn
      have c60 := C6.out.cell 0
      have c61 := C6.out.cell 1
      have f60 := C6.out.frozen 0
      have f61 := C6.out.frozen 1
      go_wp2_with fail
      refine bodyPost_ret (results_rfit _ _ (W.heap.size + 1) _ _ _ rfl rfl ((C6.out.set_ 0 _).set_ 1 _)) rfl ?_
      exact HFin.out 0 0 1 _ hf ((K1.out.setCell (.inr (by dsimp only; omega)) _).setCell (.inr (by dsimp only; omega)) _)
    · have hf := Lib.hid (HF.out (by omega))
      clear HF HF1
      go_wp2_with fail
      go_loopw [10] (fun i V => ∃ k : Nat, k ≤ G.length ∧ i = .int .i64 k ∧ Hid (G.find? (fun x => decide (n ≤ x.len)) = (G.drop k).find? (fun x => decide (n ≤ x.len))) ∧ Hid (Dr w1 V)) (fun i _ => G.length - (intOf i).toNat)
      case atStart => exact ⟨0, Nat.zero_le _, rfl, rfl, Dr.refl _⟩
      case round =>
        obtain ⟨k, hk, rfl, HE, HK⟩ := hrel
        have D6 := Lib.hid (C6.out.kept HK.out.kept (fun h => by cases h))
        have c60 := D6.out.cell 0
        have c61 := D6.out.cell 1
        have f60 := D6.out.frozen 0
        have f61 := D6.out.frozen 1
        have KK := Lib.hid (K1.out.trans HK.out.kept)
        by_cases hlt : k < G.length
        · obtain ⟨b, rfl, d0, d1⟩ := EAt.at_ HO.out hlt
          have c0 := HK.out.kept.cell d0 (fun h => by cases h)
          have c1 := HK.out.kept.cell d1 (fun h => by cases h)
          have HD : Hid (G.drop k = G[k] :: G.drop (k + 1)) := List.drop_eq_getElem_cons hlt
          have hki : (k : Int) < (G.length : Int) := by omega
          clear d0 d1
          generalize G[k] = x at *
          obtain ⟨xs, xl⟩ := x
          dsimp only at c0 c1
          by_cases hx : n ≤ xl
          · have hf2 : Hid (fx = (⟨xs, n⟩, 0)) := by
              rw [Hid, hf.out, HE.out, HD.out, List.find?_cons_of_pos (by simpa using hx)]
            go_wp2_with fail
            refine bodyPost_ret (results_rfit _ _ (W.heap.size + 1) _ _ _ rfl rfl ((D6.out.set_ 0 _).set_ 1 _)) rfl ?_
            exact HFin.out xs n 0 _ hf2.out ((KK.out.setCell (.inr (by dsimp only; omega)) _).setCell (.inr (by dsimp only; omega)) _)
          · have hf2 : Hid (G.find? (fun x => decide (n ≤ x.len)) = (G.drop (k + 1)).find? (fun x => decide (n ≤ x.len))) := by
              rw [Hid, HE.out, HD.out, List.find?_cons_of_neg (by simpa using hx)]
            go_wp2_with fail
            go_roundw
            case rel => exact ⟨k + 1, by omega, by go_num, hf2, HK⟩
            case measure => simp [intOf]; omega
        · obtain rfl : k = G.length := by omega
          have hf2 : Hid (fx = (⟨0, 0⟩, 111)) := by
            rw [Hid, hf.out, HE.out, List.drop_length]
            rfl
          go_wp2_with fail
          refine bodyPost_ret (results_rfit _ _ (W.heap.size + 1) _ _ _ rfl rfl ((D6.out.set_ 0 _).set_ 1 _)) rfl ?_
          exact HFin.out 0 0 111 _ hf2.out ((KK.out.setCell (.inr (by dsimp only; omega)) _).setCell (.inr (by dsimp only; omega)) _)
  · have hb : rightB r l = false := rightB_no hr
    have HX : Hid (∀ e w', GapsPost r l ((W.alloc (.cells #[.int .i64 r.st, .int .i64 r.len] 23)).alloc (.cells #[.int .i64 0, .int .i64 0] 23)) e w' → Kept [] ((W.alloc (.cells #[.int .i64 r.st, .int .i64 r.len] 23)).alloc (.cells #[.int .i64 0, .int .i64 0] 23)) w' ∧ e = .returned (.tuple #[.slice none 0 0, .int .i64 1])) := by
      rintro e w' ⟨k, ⟨hb2, rfl⟩ | ⟨hb2, A', c', rfl, h⟩⟩
      · exact ⟨k, rfl⟩
      · rw [hb] at hb2
        cases hb2
    have hf : Hid (fitX r n l = (⟨0, 0⟩, 1)) := if_pos (.inr hb)
    clear hr hb hA hl
    obtain ⟨rs, rl⟩ := r
    unfold exV at HG ⊢
    dsimp only at HG HX K0 HFin B6 hzW hf ⊢
    generalize FitPost ⟨rs, rl⟩ n l W = Q at *
    generalize fitX ⟨rs, rl⟩ n l = fx at *
    go_enter Try.func10, Try.ntmps10
    go_wp2_with fail
    refine HG.out.mono ?_
    intro e w1 hp
    obtain ⟨k1, rfl⟩ := HX.out e w1 hp
    have K1 := Lib.hid (K0.out.trans k1)
    have C6 := Lib.hid (B6.kept k1 (fun h => by cases h))
    clear hp k1 HG HX B6
    have c60 := C6.out.cell 0
    have c61 := C6.out.cell 1
    have f60 := C6.out.frozen 0
    have f61 := C6.out.frozen 1
    go_wp2_with fail
    refine bodyPost_ret (results_rfit _ _ (W.heap.size + 1) _ _ _ rfl rfl ((C6.out.set_ 0 _).set_ 1 _)) rfl ?_
    exact HFin.out 0 0 1 _ hf.out ((K1.out.setCell (.inr (by dsimp only; omega)) _).setCell (.inr (by dsimp only; omega)) _)
end Go.Proofs.Ytkbldbcjpdfopaa
