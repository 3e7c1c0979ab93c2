/- Extents: what is not used, as the closure hands it out. -/
import Derived.Test.YtkbldbcjpdfopaaExE
namespace Go.Proofs.Ytkbldbcjpdfopaa
open Go.RowKit

/-- what is not used, from 'at' on -/
def gapsF : Int → List Ex → List Ex
  | _, [] => []
  | at_, x :: t => (if at_ < x.st then [⟨at_, x.st - at_⟩] else []) ++ gapsF (x.st + x.len) t
def lastX (r : Ex) : Ex := ⟨r.st + r.len, 0⟩
def gapsX (r : Ex) (l : List Ex) : List Ex := gapsF r.st (srt l ++ [lastX r])
theorem gapsF_len : ∀ (l : List Ex) (at_ : Int), (gapsF at_ l).length ≤ l.length
  | [], _ => Nat.le_refl _
  | x :: t, at_ => by
    unfold gapsF
    have := gapsF_len t (x.st + x.len)
    rw [List.length_append, List.length_cons]
    split <;> simp <;> omega
theorem gapsX_len (r : Ex) (l : List Ex) : (gapsX r l).length ≤ l.length + 1 := by
  have := gapsF_len (srt l ++ [lastX r]) r.st
  rw [List.length_append, (srt_perm l).length_eq] at this
  exact this
/-- each lies in the region, and behind the one ahead -/
theorem gaps_inv {r : Ex} {l : List Ex} (h : rightX r l) : Chain r.st (srt l ++ [lastX r]) ∧ ∀ x ∈ srt l ++ [lastX r], 0 ≤ x.len ∧ r.st ≤ x.st ∧ x.st + x.len ≤ r.st + r.len := by
  have h2 := (rightX.perm (srt_perm l)).2 h
  obtain ⟨h3, h4⟩ := right_chain (srt_sorted l) h2
  have h5 := Chain.pair h3 (fun x hx => (h4 x hx).1)
  have h0 := inB_iff.1 h.1.2
  refine ⟨Chain.of_pair ?_ ?_, fun x hx => ?_⟩
  · rw [List.pairwise_append]
    refine ⟨h5, List.pairwise_singleton _ _, fun a ha b hb => ?_⟩
    obtain rfl := List.mem_singleton.1 hb
    exact (h4 a ha).2
  · intro x hx
    rcases List.mem_append.1 hx with hx | hx
    · exact (h2.2.1 x hx).2.1
    · obtain rfl := List.mem_singleton.1 hx
      show r.st ≤ r.st + r.len
      omega
  · rcases List.mem_append.1 hx with hx | hx
    · have := h2.2.1 x hx
      unfold withinP at this
      omega
    · obtain rfl := List.mem_singleton.1 hx
      refine ⟨Int.le_refl _, ?_, ?_⟩
      · show r.st ≤ r.st + r.len
        omega
      · show r.st + r.len + 0 ≤ r.st + r.len
        omega
theorem own_up {w : World} {base e size n : Nat} {v : Value} {xs : List Value} (h : w.ownsRow 0 e size v n xs) (hb : ∀ k, v.ownBlock = some k → base ≤ k) : w.ownsRow base e size v n xs := by
  refine ⟨h.1, ?_⟩
  rcases h.2 with h2 | ⟨g, cap, cur, rfl, _, h3⟩
  · exact .inl h2
  · exact .inr ⟨g, cap, cur, rfl, hb g rfl, h3⟩
set_option maxRecDepth 4000 in
set_option maxHeartbeats 2000000 in
/-- one extent more -/
theorem ext_app {w1 : World} {n₁ : Nat} {A' : Option Addr} {c' : Nat} {l : List Ex} (x : Ex) (HO : EAt n₁ w1 A' c' l) (hn : l.length ≤ 4000000) (ty : TypeId) :
    ∃ v' w', (Builtin.append_ #[24, 24] ty #[.slice A' l.length c', .slice (some ⟨w1.heap.size, 0, none⟩) 1 1]).run Try.prog (w1.alloc (.cells #[.int .i64 x.st, .int .i64 x.len] 23)) = .ok v' w' ∧ w'.ownsRow 0 23 2 v' (l.length + 1) (l.flatMap exE ++ exE x) ∧ (w1.alloc (.cells #[.int .i64 x.st, .int .i64 x.len] 23)).grownBy w' (Value.slice A' l.length c').ownBlock ∧
      (v'.ownBlock = (Value.slice A' l.length c').ownBlock ∨ v'.ownBlock = some (w1.alloc (.cells #[.int .i64 x.st, .int .i64 x.len] 23)).heap.size) := by
  obtain ⟨i0, p0, p1, p2, p3⟩ := info_parts infoX
  exact run_app (P := Try.prog) (w1.alloc (.cells #[.int .i64 x.st, .int .i64 x.len] 23)) 24 ty 23 i0 _ 2 16 Try.underlying24 p0 p1 p2 p3 rfl (by decide) _ _ _ (own_down (World.ownsRow.alloc HO _) (Nat.zero_le _)) (some ⟨w1.heap.size, 0, none⟩) 1 1 (exE x) (by simp [exE]) (fun h => by cases h) (fun _ => ⟨_, 0, rfl, fun j u hu => by
    have := World.news_of_block (Blk.new w1 23 #[.int .i64 x.st, .int .i64 x.len]) j u hu
    rwa [Addr.add_lit] at this⟩) (fun u hu => exE_one [x] u (by simpa using hu)) (by simp only [maxLen]; omega) (by omega)
theorem ext_app_fin {W w1 w4 : World} {A' : Option Addr} {c' : Nat} {l : List Ex} {x : Ex} {v : Value} (HO : EAt W.heap.size w1 A' c' l) (HK : Kept [] W w1)
    (h2 : w4.ownsRow 0 23 2 v (l.length + 1) (l.flatMap exE ++ exE x)) (h3 : (w1.alloc (.cells #[.int .i64 x.st, .int .i64 x.len] 23)).grownBy w4 (Value.slice A' l.length c').ownBlock)
    (h4 : v.ownBlock = (Value.slice A' l.length c').ownBlock ∨ v.ownBlock = some (w1.alloc (.cells #[.int .i64 x.st, .int .i64 x.len] 23)).heap.size) :
    w4.ownsRow W.heap.size 23 2 v (l ++ [x]).length ((l ++ [x]).flatMap exE) ∧ Kept [] W w4 := by
  have hlo : ∀ j, (Value.slice A' l.length c').ownBlock = some j → W.heap.size ≤ j := fun j hj => (World.ownsRow.lt HO j hj).1
  refine ⟨?_, (HK.alloc _).grown h3 (fun j e => .inr (hlo j e))⟩
  rw [List.length_append, List.length_singleton, List.flatMap_append]
  refine own_up (by simpa using h2) (fun j hj => ?_)
  rcases h4 with h | h
  · exact hlo j (h ▸ hj)
  · rw [h] at hj
    injection hj with hj
    subst hj
    have := HK.size
    simp
    omega
theorem own_row {W W' : World} {base e size n : Nat} {v : Value} {xs : List Value} (h : W.ownsRow base e size v n xs) (hk : ∀ g, v.ownBlock = some g → ∀ cs t fr, W.heap[g]? = some (.cells cs t fr) → W'.heap[g]? = some (.cells cs t fr)) : W'.ownsRow base e size v n xs := by
  refine ⟨h.1, ?_⟩
  rcases h.2 with h2 | ⟨g, cap, cur, e, hb, hh, h3⟩
  · exact .inl h2
  · exact .inr ⟨g, cap, cur, e, hb, hk g (by rw [e]; rfl) _ _ _ hh, h3⟩
set_option maxRecDepth 4000 in
set_option maxHeartbeats 4000000 in
theorem gaps_seq (r : Ex) (A : Option Addr) (c n br bu n₀ : Nat) (l : List Ex) (w : World) (hr : rightX r l) (hn0 : n₀ ≤ w.heap.size) (hR : Blk w br 23 #[.int .i64 r.st, .int .i64 r.len]) (hU : Blk w bu 24 #[.slice A l.length c]) (hA : RdX n₀ w A l) (hn : 1 ≤ n) (own : World → Nat → Prop) (hown : OwnOk own n₀ w) :
    SeqO Fence.wide n Try.prog 24 #[.pointer (some ⟨br, 0, none⟩), .pointer (some ⟨bu, 0, none⟩)] (fun x : Ex => #[exV x]) (fun _ _ => True) [] (KpO own) (fun xs => xs = gapsX r l) (fun pre => pre <+: gapsX r l) (l.length + 1) w := by
  intro ll J Jx W hW hJ hJx hY hJ0
  have hOwn := Lib.hid (hown.kept hW)
  have hR := hR.kept hW (fun h => by cases h)
  have hU := hU.kept hW (fun h => by cases h)
  have HA := Lib.hid (hA.kept hW hn0)
  have hnW : n₀ ≤ W.heap.size := Nat.le_trans hn0 hW.size
  have hlen := right_sum hr
  have h01 := inB_iff.1 hr.1.1
  have h02 := inB_iff.1 hr.1.2
  have hinv := Lib.hid (gaps_inv hr)
  have hrt := Lib.hid hr
  clear hA hn0 hW hown hr
  refine callsIn_wide.2 ?_
  have r0 : W.cell? ⟨br, 0, none⟩ = some (.int .i64 r.st) := hR.cell 0
  have r1 : W.cell? ⟨br, 1, none⟩ = some (.int .i64 r.len) := hR.cell 1
  have u0 : W.cell? ⟨bu, 0, none⟩ = some (.slice A l.length c) := hU.cell 0
  have hu : ∀ q, (W.drewN q).cell? ⟨bu, 0, none⟩ = some (.slice A l.length c) := fun q => u0
  have hw : IntKind.i64.wrap (r.st + r.len) = r.st + r.len := IntWalk.i64_in _ (by omega)
  clear hR hU
  go_enter Try.func24, Try.ntmps24
  go_wp2_with fail
  go_quiet (fail)
  go_wp2_with fail
  refine (ext_sorted (W.drewN nq) n₀ A c l hnW (by omega) (HA.out.kept ((Kept.refl [] W).drewN nq) hnW)).mono ?_
  rintro e w1 ⟨A1, c1, l', rfl, hp, hs, ho, k1⟩
  obtain rfl : l' = srt l := srt_is hp hs hrt.out
  have hsl : Hid ((srt l).length = l.length) := (srt_perm l).length_eq
  have K1 := Lib.hid (((Kept.refl [] W).drewN nq).trans k1)
  have HO1 : Hid (EAt W.heap.size w1 A1 c1 (srt l)) := ho
  have HRun := Lib.hid (ext_app (lastX r) HO1.out (by have := hsl.out; omega))
  clear hp hs ho k1 r0 r1 u0 hu
  unfold lastX at HRun
  dsimp only at HRun
  go_wp2_with (at_builtin; refine wpList_app rfl (.tmp 16) (.tmp 19) _ rfl _ _ rfl rfl (HRun.out _) ?_; rintro v3 w4 ⟨hr2, hr3, hr4⟩; obtain ⟨A3, c3, rfl, _⟩ := own_slice hr2; have HR2 := Lib.hid hr2; have HR3 := Lib.hid hr3; have HR4 := Lib.hid hr4; clear hr2 hr3 hr4 HRun)
  obtain ⟨h5, h6⟩ := ext_app_fin (x := lastX r) HO1.out K1.out HR2.out HR3.out HR4.out
  obtain ⟨L, hL⟩ : ∃ L, srt l ++ [lastX r] = L := ⟨_, rfl⟩
  have hLl : L.length = l.length + 1 := by rw [← hL, List.length_append, hsl.out]; rfl
  have hLs : (srt l).length + 1 = L.length := by have := hsl.out; omega
  have hLb : L.length ≤ 2000000 := by omega
  replace hLl := Lib.hid hLl
  have HG : Hid (gapsX r l = gapsF r.st L) := by rw [Hid, ← hL]; rfl
  rw [hL] at h5 hinv
  rw [hLs]
  rw [hLs] at h5
  replace hLs := Lib.hid hLs
  have HO4 : Hid (EAt W.heap.size w4 A3 c3 L) := h5
  have K4 := Lib.hid h6
  have HJ4 := Lib.hid (hJ _ _ _ hJ0 h6)
  have hO4 : Hid (∀ g, own w4 g → g < W.heap.size) := fun g hg => hOwn.out.start g (hOwn.out.keep W w4 (Nat.le_refl _) h6 g hg)
  have hz4 := h6.size
  clear h5 h6 HR2 HR3 HR4 HO1 K1 hL hJ0 hsl
  have hchain : Hid (∀ k, (hk : k < L.length) → 0 ≤ L[k].len ∧ r.st ≤ L[k].st ∧ L[k].st + L[k].len ≤ r.st + r.len) := fun k hk => hinv.out.2 _ (List.getElem_mem _)
  go_loopw [4, 22] (fun a i V => ∃ (k : Nat) (at_ : Int) (pre : List Ex), k ≤ L.length ∧ i = .int .i64 k ∧ a = .int .i64 at_ ∧ (r.st ≤ at_ ∧ at_ ≤ r.st + r.len) ∧ pre.length ≤ k ∧ w4.heap.size ≤ V.heap.size ∧ Hid (EAt W.heap.size V A3 c3 L) ∧ Hid (J pre V) ∧ Hid (∀ g, own V g → g < V.heap.size) ∧ Hid (∀ g, own V g → g < W.heap.size ∨ w4.heap.size ≤ g) ∧ Hid (gapsX r l = pre ++ gapsF at_ (L.drop k))) (fun _ i _ => L.length - (intOf i).toNat)
  case atStart => exact ⟨0, r.st, [], Nat.zero_le _, rfl, rfl, by omega, Nat.le_refl _, Nat.le_refl _, HO4, HJ4, fun g hg => Nat.lt_of_lt_of_le (hO4.out g hg) hz4, fun g hg => .inl (hO4.out g hg), HG⟩
  case round =>
    obtain ⟨k, at_, pre, hk, rfl, rfl, hat, hpk, hzV, HO, HJ, HV, HV2, HE⟩ := hrel
    by_cases hlt : k < L.length
    · obtain ⟨b, rfl, d0, d1⟩ := EAt.at_ HO.out hlt
      have HD : Hid (L.drop k = L[k] :: L.drop (k + 1)) := List.drop_eq_getElem_cons hlt
      have hx := hchain.out k hlt
      have hki : (k : Int) < (L.length : Int) := by omega
      have hki2 : (k : Int) < ((srt l).length : Int) + 1 := by have := hLs.out; omega
      generalize L[k] = x at *
      obtain ⟨xs, xl⟩ := x
      dsimp only at d0 d1 hx
      have hw1 : IntKind.i64.wrap (xs - at_) = xs - at_ := IntWalk.i64_in _ (by omega)
      have hw2 : IntKind.i64.wrap (xs + xl) = xs + xl := IntWalk.i64_in _ (by omega)
      have hw3 : r.st ≤ xs + xl ∧ xs + xl ≤ r.st + r.len := by omega
      have HE2 : Hid (gapsX r l = pre ++ ((if at_ < xs then [⟨at_, xs - at_⟩] else []) ++ gapsF (xs + xl) (L.drop (k + 1)))) := by rw [Hid, HE.out, HD.out]; rfl
      have K1 : Kept [] wr (wr.alloc (.cells #[.int .i64 xs, .int .i64 xl] 23)) := (Kept.refl [] wr).alloc _
      have hzW : W.heap.size ≤ wr.heap.size := Nat.le_trans hz4 hzV
      have HJ1 := hJ _ _ _ HJ.out K1
      have HK := Lib.hid (fun g (hg : own (wr.alloc (.cells #[.int .i64 xs, .int .i64 xl] 23)) g) => hOwn.out.keep _ _ hzW K1 g hg)
      have hsz1 : (wr.alloc (.cells #[.int .i64 xs, .int .i64 xl] 23)).heap.size = wr.heap.size + 1 := by simp
      have HO2 : Hid (EAt W.heap.size (wr.alloc (.cells #[.int .i64 xs, .int .i64 xl] 23)) (some ⟨b, 0, none⟩) c3 L) := World.ownsRow.alloc HO.out _
      have hb4 : b < w4.heap.size := own_lt HO4.out b rfl
      have hbW : W.heap.size ≤ b := (World.ownsRow.lt HO4.out b rfl).1
      replace hsz1 := Lib.hid hsz1
      by_cases hgo : at_ < xs
      · rw [if_pos hgo] at HE2
        obtain ⟨fn, tmps, assign, body, hy, hR⟩ := hY pre ⟨at_, xs - at_⟩ _ HJ1 trivial (by have := hLl.out; omega)
        unfold exV at hy
        dsimp only at hy
        go_upto_region 4 with (fail)
        refine (wpIn_wide (n := n)).1 ?_
        gi_wp2_with (fail)
        refine hR.mono ?_
        clear hR hy
        rintro e W' (⟨rfl, hJ', hk⟩ | ⟨rfl, hJx'⟩)
        · have p0 : W'.cell? ⟨wr.heap.size, 0, none⟩ = some (.int .i64 xs) := kpo_cell hk ((Blk.new wr _ _).cell 0) (fun h => by have h2 : wr.heap.size < wr.heap.size := HV.out _ (HK.out _ h); omega)
          have p1 : W'.cell? ⟨wr.heap.size, 1, none⟩ = some (.int .i64 xl) := kpo_cell hk ((Blk.new wr _ _).cell 1) (fun h => by have h2 : wr.heap.size < wr.heap.size := HV.out _ (HK.out _ h); omega)
          have hz1 := hk.1
          rw [hsz1.out] at hz1
          have HO' : Hid (EAt W.heap.size W' (some ⟨b, 0, none⟩) c3 L) := own_row HO2.out (fun g hg cs t fr hh => hk.2.1 g cs t fr hh (fun h => by
            have h2 : b = g := by simpa [Value.ownBlock] using hg
            rcases HV2.out g (HK.out g h) with h3 | h3 <;> omega))
          have HV' : Hid (∀ g, own W' g → g < W'.heap.size) := fun g hg => by
            rcases hk.2.2 g hg with h | h
            · have := HV.out g (HK.out g h)
              omega
            · exact h.2
          have HV2' : Hid (∀ g, own W' g → g < W.heap.size ∨ w4.heap.size ≤ g) := fun g hg => by
            rcases hk.2.2 g hg with h | h
            · exact HV2.out g (HK.out g h)
            · have h1 := h.1
              rw [hsz1.out] at h1
              exact .inr (by omega)
          have HE' : Hid (gapsX r l = (pre ++ [⟨at_, xs - at_⟩]) ++ gapsF (xs + xl) (L.drop (k + 1))) := by rw [Hid, HE2.out]; simp
          replace hJ' := Lib.hid hJ'
          have hpl : (pre ++ [(⟨at_, xs - at_⟩ : Ex)]).length ≤ k + 1 := by simp; omega
          have hz2 : w4.heap.size ≤ W'.heap.size := by omega
          clear hk
          gi_wp2
          go_wp2_with fail
          refine ⟨⟨k + 1, xs + xl, _, by omega, by go_num, rfl, hw3, hpl, hz2, HO', hJ', HV', HV2', HE'⟩, ?_⟩
          simp [intOf]
          omega
        · gi_wp2
          go_wp2_with fail
          refine bodyPost_ret (results_none rfl _ _ _) rfl ?_
          exact ⟨⟨_, rfl⟩, .inr ⟨_, ⟨gapsF (xs + xl) (L.drop (k + 1)), by rw [HE2.out]; simp⟩, hJx'⟩⟩
      · rw [if_neg hgo] at HE2
        have HV' : Hid (∀ g, own (wr.alloc (.cells #[.int .i64 xs, .int .i64 xl] 23)) g → g < (wr.alloc (.cells #[.int .i64 xs, .int .i64 xl] 23)).heap.size) := fun g hg => by
          have := HV.out g (HK.out g hg)
          rw [hsz1.out]
          omega
        have HV2' : Hid (∀ g, own (wr.alloc (.cells #[.int .i64 xs, .int .i64 xl] 23)) g → g < W.heap.size ∨ w4.heap.size ≤ g) := fun g hg => HV2.out g (HK.out g hg)
        have hz2 : w4.heap.size ≤ (wr.alloc (.cells #[.int .i64 xs, .int .i64 xl] 23)).heap.size := by rw [hsz1.out]; omega
        replace HJ1 := Lib.hid HJ1
        replace hz2 := Lib.hid hz2
        go_wp2_with fail
        go_roundw
        case rel => exact ⟨k + 1, xs + xl, pre, by omega, by go_num, rfl, hw3, by omega, hz2.out, HO2, HJ1, HV', HV2', by rw [Hid, HE2.out]; simp⟩
        case measure => simp [intOf]; omega
    · obtain rfl : k = L.length := by omega
      have hke : ¬ (L.length : Int) < ((srt l).length : Int) + 1 := by have := hLs.out; omega
      go_wp2_with fail
      refine bodyPost_end (results_none rfl _ _ _) rfl ?_
      have h := HE.out
      rw [List.drop_length, gapsF, List.append_nil] at h
      refine ⟨⟨_, rfl⟩, .inl ?_⟩
      rw [h]
      exact HJ.out
end Go.Proofs.Ytkbldbcjpdfopaa
