/- The reference's disk, its walks (fourth part): New, Load, Copy. -/
import Derived.Test.YtgdbafinncajfaaRefC
namespace Go.Proofs.Ytgdbafinncajfaa
open Go.RowKit

theorem infoS : (Try.prog.info? 9).map (fun i => (i.zero, i.size, i.bytes)) = some (some (.string ByteArray.empty), 1, 16) := by kernel_rfl

theorem RDx.grow {w1 w2 : World} {g : Nat} {vS vP : Value} {d : D} (h : RDx w1 g vS vP d) (hk : Kept vS.ownBlock.toList w1 w2) {gg cap : Nat} {x : List UInt8} (h64 : x.length = 64) (hn : d.ss.length + 1 ≤ 1048576)
    (ho : w2.ownsRow 0 9 1 (.slice (some ⟨gg, 0, none⟩) (d.ss.length + 1) cap) (d.ss.length + 1) (d.ss.map str ++ [str x])) :
    RDx (w2.setCell ⟨g, 0, none⟩ (.slice (some ⟨gg, 0, none⟩) (d.ss.length + 1) cap)) g (.slice (some ⟨gg, 0, none⟩) (d.ss.length + 1) cap) vP { d with ss := d.ss ++ [x] } := by
  have hb2 := h.blk.kept hk (fun hm => own_ne h.secs h.blk (by decide) g (by simpa using hm) rfl)
  have hP2 := hk.owns h.pend (fun k e hm => own_own_ne h.pend h.secs (by decide) k e (by simpa using hm))
  have hs := hb2.set_ 0 (.slice (some ⟨gg, 0, none⟩) (d.ss.length + 1) cap)
  simp at hs
  refine ⟨⟨fun s hs => ?_, by simpa using hn, h.ok.p64, fun q hq => by have := h.ok.pat q hq; simp; omega, h.ok.fuse⟩, hs, ?_, own_set hP2 (own_ne hP2 hb2 (by decide)) _⟩
  · rcases List.mem_append.1 hs with h1 | h1
    · exact h.ok.s64 s h1
    · simp at h1; subst h1; exact h64
  · have := own_set ho (p := ⟨g, 0, none⟩) (own_ne ho hb2 (by decide)) (.slice (some ⟨gg, 0, none⟩) (d.ss.length + 1) cap)
    simpa using this

theorem D_none_ok : D.ok ⟨[], [], -1, false⟩ := D_new_ok 0 (by decide)

set_option maxHeartbeats 2000000 in
theorem ref_New (n : Nat) (w : World) (h : n ≤ 1048576) :
    Calls Try.prog 27 #[.int .i64 (n : Int)] w fun e w' => ∃ g F, e = .returned (.pointer (some ⟨g, 0, none⟩)) ∧ RD w' g F ⟨List.replicate n zsec, [], -1, false⟩ ∧ Kept [] w w' ∧ ∀ x ∈ F, w.heap.size ≤ x := by
  obtain ⟨i0, hi0, hz0, hz1, hz2⟩ := info_parts infoS
  go_enter Try.func27, Try.ntmps27
  go_wp2
  go_loop [4, 5] (fun s i => ∃ k : Nat, k ≤ 64 ∧ i = .int .i64 k ∧ Hid (s = str (List.replicate k 0))) (fun _ i => 64 - (intOf i).toNat)
  case atStart => exact ⟨0, by omega, rfl, rfl⟩
  case round =>
    obtain ⟨k, hk, rfl, hs⟩ := hrel
    rw [hs.out]
    unfold str
    clear hs
    by_cases hlt : k < 64
    · have HN : Hid ((⟨(List.replicate k (0 : UInt8)).toArray⟩ : ByteArray) ++ ⟨#[0]⟩ = ⟨(List.replicate (k + 1) (0 : UInt8)).toArray⟩) := by
        rw [Hid, List.replicate_succ']
        exact app_arr _ [0]
      generalize hx : (List.replicate k (0 : UInt8)) = x at *
      have hxl : x.length ≤ 64 := by rw [← hx]; simp; omega
      clear hx
      go_wp2
      go_round
      case rel => exact ⟨k + 1, by omega, by go_num, congrArg Value.string HN.out⟩
      case measure => simp [intOf]; omega
    · obtain rfl : k = 64 := by omega
      have hz : Hid ((List.replicate 64 (0 : UInt8)) = zsec) := rfl
      rw [hz.out]
      go_wp2
      go_loopw [6] (fun i wr => ∃ (k : Nat) (vS : Value), k ≤ n ∧ i = .int .i64 k ∧ Hid (RDx wr w.heap.size vS (.slice none 0 0) ⟨List.replicate k zsec, [], -1, false⟩) ∧ Kept [] w wr ∧ Hid (∀ x, vS.ownBlock = some x → w.heap.size ≤ x)) (fun i _ => n - (intOf i).toNat)
      case atStart => exact ⟨0, .slice none 0 0, by omega, rfl, ⟨D_none_ok, Blk.new _ _ _, World.ownsRow_nil _ _ _ _, World.ownsRow_nil _ _ _ _⟩, (Kept.refl _ _).alloc _, fun x hx => by cases hx⟩
      case round =>
        obtain ⟨k, vS, hk, rfl, HP, hkept, HF⟩ := hrel
        have HP0 := HP
        by_cases hlt : k < n
        · obtain ⟨A, a, hvS, _⟩ := own_slice HP.out.secs
          have c0 := HP.out.blk.cell 0
          simp [hvS] at c0
          have f0 := HP.out.blk.frozen 0
          have hown := HP.out.secs
          simp only [List.length_replicate] at hown
          rw [hvS] at hown
          simp only [List.length_replicate] at hown
          have hblt := HP.out.blk.lt
          have hgn : w.heap.size ∉ (Value.slice A k a).ownBlock.toList := fun hm => own_ne hown HP.out.blk (by decide) _ (by simpa using hm) rfl
          have HvS := Lib.hid hvS
          have HvS2 : Hid (vS = .slice A k a) := by rw [Hid, hvS, List.length_replicate]
          clear hvS
          go_wp2_with (at_builtin; refine wpList_append_lies _ rfl (.tmp 24) (.tmp 26) _ rfl 0 9 i0 _ 1 16 Try.underlying48 hi0 hz0 hz1 hz2 rfl (by omega) _ _ _ rfl (hown.alloc _) ⟨wr.heap.size, 0, none⟩ 1 1 [str zsec] rfl rfl (World.news_of_block (cs := #[str zsec]) (t := 9) (fr := (0, 0)) (heap_alloc_new wr _)) (by simp [str, Value.oneCell']) (by omega) (by simp only [maxLen]; omega) (by omega) (by omega) _ rfl ?_; intro gg cap w2 hown2 hgrow hat hlt2; have hkW : Kept (Value.slice A k a).ownBlock.toList wr w2 := ((Kept.refl _ wr).alloc _).grown hgrow (fun x hx => .inl (by rw [Option.mem_toList]; exact hx)); have k1 := hkW.cell c0 hgn; have kf := (hkW.frozen (p := ⟨w.heap.size, 0, none⟩) HP0.out.blk.lt hgn).trans f0)
          go_roundw
          case rel =>
            have hP2 := (HvS.out ▸ HP0.out).grow (x := zsec) (by rw [List.length_replicate]; exact hkW) (by simp [zsec]) (by simp; omega) (by simpa using hown2)
            refine ⟨k + 1, .slice (some ⟨gg, 0, none⟩) (k + 1) cap, by omega, by go_num, ?_, ?_, ?_⟩
            · rw [List.replicate_succ']
              unfold Hid
              simpa using hP2
            · refine (hkept.trans' hkW (fun x hx => .inr (HF.out x ?_))).setCell (.inr (Nat.le_refl _)) _
              rw [HvS2.out]; simpa using hx
            · intro x hx
              simp [Value.ownBlock] at hx
              subst hx
              rcases hat with hat | rfl
              · exact HF.out _ (by rw [HvS2.out]; exact hat)
              · have := hkept.size; simp; omega
          case measure => simp [intOf]; omega
        · obtain rfl : k = n := by omega
          go_wp2
          go_ret
          refine ⟨w.heap.size, _, rfl, ⟨vS, _, HP0.out, rfl⟩, hkept, fun x hx => ?_⟩
          simp [Value.ownBlock] at hx
          rcases hx with rfl | hx
          · exact Nat.le_refl _
          · exact HF.out x hx

def RNew (w : World) (d : D) (e : Ending) (w' : World) : Prop := ∃ g F, e = .returned (.pointer (some ⟨g, 0, none⟩)) ∧ RD w' g F d ∧ Kept [] w w' ∧ ∀ x ∈ F, w.heap.size ≤ x

def lenStr : Value → Nat | .string s => s.size | _ => 0

set_option maxHeartbeats 4000000 in
theorem ref_Load (data : List UInt8) (n : Nat) (w : World) (hn : n = (data.length + 63) / 64) (h : data.length ≤ 100000) :
    Calls Try.prog 19 #[.string ⟨data.toArray⟩] w (RNew w ⟨loadS data n, [], -1, false⟩) := by
  obtain ⟨i0, hi0, hz0, hz1, hz2⟩ := info_parts infoS
  have Hn := Lib.hid hn
  clear hn
  go_enter Try.func19, Try.ntmps19
  go_wp2
  go_loop [0] (fun s => ∃ k : Nat, data.length + k ≤ n * 64 ∧ k ≤ 64 ∧ Hid (s = str (data ++ List.replicate k 0))) (fun s => n * 64 - lenStr s)
  case atStart => exact ⟨0, by have := Hn.out; omega, by omega, by rw [Hid, str]; simp⟩
  case round =>
    obtain ⟨k, hk1, hk2, hs⟩ := hrel
    rw [hs.out]
    unfold str
    clear hs
    by_cases hlt : (data.length + k) % 64 = 0
    · have hkn : data.length + k = n * 64 := by have := Hn.out; omega
      have HX : Hid (data ++ List.replicate k 0 = (loadS data n).flatten) := by
        rw [Hid, loadS_flat data n (by omega)]; congr 2; omega
      have hxl : (data ++ List.replicate k (0 : UInt8)).length = n * 64 := by simp; omega
      generalize data ++ List.replicate k (0 : UInt8) = x at *
      clear hlt hkn hk1
      have hn2 : n ≤ 1600 := by have := Hn.out; omega
      have HS := Lib.hid (loadS_secs data n)
      have Hxl := Lib.hid hxl
      have hxs : (x.length : Int) = (n : Int) * 64 := by omega
      clear hxl
      go_wp2
      go_loopw [4] (fun i wr => ∃ (k : Nat) (vS : Value), k ≤ n ∧ i = .int .i64 ((k : Int) * 64) ∧ Hid (RDx wr w.heap.size vS (.slice none 0 0) ⟨(loadS data n).take k, [], -1, false⟩) ∧ Kept [] w wr ∧ Hid (∀ x, vS.ownBlock = some x → w.heap.size ≤ x)) (fun i _ => n * 64 - (intOf i).toNat)
      case atStart => exact ⟨0, .slice none 0 0, by omega, rfl, ⟨D_none_ok, Blk.new _ _ _, World.ownsRow_nil _ _ _ _, World.ownsRow_nil _ _ _ _⟩, (Kept.refl _ _).alloc _, fun x hx => by cases hx⟩
      case round =>
        obtain ⟨k, vS, hk, rfl, HP, hkept, HF⟩ := hrel
        have HP0 := HP
        have htl : ((loadS data n).take k).length = k := by rw [List.length_take, loadS_len]; omega
        have Htl := Lib.hid htl
        by_cases hlt : k < n
        · obtain ⟨A, a, hvS, _⟩ := own_slice HP.out.secs
          have c0 := HP.out.blk.cell 0
          simp [hvS, htl] at c0
          have f0 := HP.out.blk.frozen 0
          have hown := HP.out.secs
          simp only [htl] at hown
          rw [hvS] at hown
          simp only [htl] at hown
          have hblt := HP.out.blk.lt
          have hgn : w.heap.size ∉ (Value.slice A k a).ownBlock.toList := fun hm => own_ne hown HP.out.blk (by decide) _ (by simpa using hm) rfl
          have HvS2 : Hid (vS = .slice A k a) := by rw [Hid, hvS, htl]
          have hgl : k < (loadS data n).length := by rw [loadS_len]; exact hlt
          have Hy := Lib.hid (flat_get _ k HS.out.2 hgl)
          have Htk : Hid ((loadS data n).take (k + 1) = (loadS data n).take k ++ [(loadS data n)[k]]) := List.take_succ_eq_append_getElem hgl
          have Hy64 := Lib.hid (HS.out.2 _ (List.getElem_mem hgl))
          generalize (loadS data n)[k] = y at *
          have hext : (⟨x.toArray⟩ : ByteArray).extract (k * 64) (k * 64 + 64) = ⟨y.toArray⟩ := by
            rw [extract_list, ← Hy.out, HX.out, show k * 64 + 64 - k * 64 = 64 by omega]
          clear hvS htl hgl
          have q3 : IntKind.i64.wrap ((k : Int) * 64 + 64) = (k : Int) * 64 + 64 := IntWalk.i64_in _ (by omega)
          have q5 : 0 ≤ (k : Int) * 64 := by omega
          have q6 : 0 ≤ (k : Int) * 64 + 64 := by omega
          have q7 : (k : Int) * 64 + 64 ≤ (x.length : Int) := by omega
          have q8 : ((k : Int) * 64).toNat = k * 64 := by omega
          have q9 : ((k : Int) * 64 + 64).toNat = k * 64 + 64 := by omega
          have qa : (k : Int) * 64 ≤ (k : Int) * 64 + 64 := by omega
          have qb : (k : Int) * 64 < (x.length : Int) := by omega
          clear hxs
          go_wp2
          go_region_law ((refine step_append_lies _ (by rfl) (.tmp 23) (.tmp 29) _ (by rfl) 0 9 i0 _ 1 16 Try.underlying48 hi0 hz0 hz1 hz2 rfl (by omega) _ _ _ (by rfl) ((hown.alloc _).drew) ⟨wr.heap.size, 0, none⟩ 1 1 [str y] (by rfl) (by rfl) (World.news_of_block (cs := #[str y]) (t := 9) (fr := (0, 0)) (heap_alloc_new wr _)) (by simp [str, Value.oneCell']) (by omega) (by simp only [maxLen]; omega) (by omega) (by omega) _ rfl ?_; intro gg cap w2 hown2 hgrow hat hlt2; have hkW : Kept (Value.slice A k a).ownBlock.toList wr w2 := ((Kept.refl _ wr).alloc _).drew.grown hgrow (fun x hx => .inl (by rw [Option.mem_toList]; exact hx)); have k1 := hkW.cell c0 hgn; have kf := (hkW.frozen (p := ⟨w.heap.size, 0, none⟩) HP0.out.blk.lt hgn).trans f0))
          all_goals
            go_wp2
            go_roundw
            case rel =>
              have hP2 := (HvS2.out ▸ HP0.out).grow (x := y) hkW Hy64.out (by show ((loadS data n).take k).length + 1 ≤ _; rw [Htl.out]; omega) (by show w2.ownsRow _ _ _ (.slice _ (((loadS data n).take k).length + 1) _) (((loadS data n).take k).length + 1) _; rw [Htl.out]; exact hown2)
              refine ⟨k + 1, .slice (some ⟨gg, 0, none⟩) (k + 1) cap, by omega, by go_num, ?_, ?_, ?_⟩
              · rw [Htk.out]
                unfold Hid
                have e : (⟨(loadS data n).take k, [], -1, false⟩ : D).ss.length = k := Htl.out
                rw [e] at hP2
                exact hP2
              · refine (hkept.trans' hkW (fun x hx => .inr (HF.out x ?_))).setCell (.inr (Nat.le_refl _)) _
                rw [HvS2.out]; simpa using hx
              · intro x hx
                simp [Value.ownBlock] at hx
                subst hx
                rcases hat with hat | rfl
                · exact HF.out _ (by rw [HvS2.out]; exact hat)
                · have := hkept.size; simp; omega
            case measure => simp [intOf]; omega
        · obtain rfl : k = n := by omega
          have qb : ¬ (k : Int) * 64 < (x.length : Int) := by omega
          clear hxs
          go_wp2
          go_ret
          refine ⟨w.heap.size, _, rfl, ⟨vS, .slice none 0 0, ?_, rfl⟩, hkept, fun x hx => ?_⟩
          · have := HP0.out
            rwa [List.take_of_length_le (by rw [loadS_len]; omega)] at this
          · simp [Value.ownBlock] at hx
            rcases hx with rfl | hx
            · exact Nat.le_refl _
            · exact HF.out x hx
    · have HN : Hid ((⟨(data ++ List.replicate k (0 : UInt8)).toArray⟩ : ByteArray) ++ ⟨#[0]⟩ = ⟨(data ++ List.replicate (k + 1) (0 : UInt8)).toArray⟩) := by
        rw [Hid, List.replicate_succ', ← List.append_assoc]
        exact app_arr _ [0]
      have hk3 : data.length + (k + 1) ≤ n * 64 := by have := Hn.out; omega
      have hk4 : k + 1 ≤ 64 := by have := Hn.out; omega
      have hxl : (data ++ List.replicate k (0 : UInt8)).length = data.length + k := by simp
      generalize hx : data ++ List.replicate k (0 : UInt8) = x at *
      have hx2 : ¬ (x.length : Int) % 64 = 0 := by omega
      have hx3 : ((x.length : Int) % 64 != 0) = true := by simpa using hx2
      have hx4 : x.length ≤ 200000 := by omega
      have Hx5 : Hid (x.length + 1 ≤ n * 64) := by unfold Hid; omega
      clear hx hxl hx2 hlt
      go_wp2
      go_round
      case rel => exact ⟨k + 1, by omega, by omega, congrArg Value.string HN.out⟩
      case measure =>
        have := Hx5.out
        simp [lenStr, ByteArray.size]
        omega

theorem str_one (l : List (List UInt8)) : ∀ u ∈ l.map str, u.oneCell' = true := by
  intro u hu
  obtain ⟨b, _, rfl⟩ := List.mem_map.1 hu
  rfl
theorem pcells_one (ps : List (Nat × List UInt8)) : ∀ u ∈ ps.flatMap pcells, u.oneCell' = true := by
  intro u hu
  obtain ⟨p, _, hp⟩ := List.mem_flatMap.1 hu
  simp [pcells] at hp
  rcases hp with rfl | rfl <;> rfl

theorem own_src {w : World} {base e size n c : Nat} {A : Option Addr} {xs : List Value} (h : w.ownsRow base e size (.slice A n c) n xs) : (A = none → c = 0) ∧ (0 < n → ∃ b o, A = some ⟨b, o, none⟩ ∧ ∀ j u, xs[j]? = some u → w.cell? ⟨b, o + j, none⟩ = some u) := by
  rcases h.2 with ⟨h0, h1⟩ | ⟨g, cap, cur, h0, _⟩
  · injection h0 with e1 e2 e3
    exact ⟨fun _ => e3, fun h => absurd h (by omega)⟩
  · injection h0 with e1 e2 e3
    subst e1
    exact ⟨(fun h => by cases h), fun _ => ⟨g, 0, rfl, fun j u hu => by have := h.cells (g := g) rfl j u hu; rwa [Addr.add_lit] at this⟩⟩

set_option maxHeartbeats 2000000 in
theorem ref_Copy (w : World) (g : Nat) (F : List Nat) (d : D) (h : RD w g F d) (hps : d.ps.length ≤ 100000000) :
    Calls Try.prog 30 #[.pointer (some ⟨g, 0, none⟩)] w (RNew w d) := by
  obtain ⟨vS, vP, hx, hF⟩ := h
  obtain ⟨A, a, hvS, _⟩ := own_slice hx.secs
  obtain ⟨B, b, hvP, _⟩ := own_slice hx.pend
  have few := hx.ok.few
  have c0 := hx.blk.cell 0
  have c1 := hx.blk.cell 1
  have c2 := hx.blk.cell 2
  have c3 := hx.blk.cell 3
  simp [hvS] at c0
  simp [hvP] at c1
  simp at c2 c3
  have hS := hx.secs
  have hP := hx.pend
  rw [hvS] at hS
  rw [hvP] at hP
  have hg := hx.blk.lt
  have Hx := Lib.hid hx
  have HS := Lib.hid hS
  have HP := Lib.hid hP
  have HsS := Lib.hid (own_src hS)
  have HsP := Lib.hid (own_src hP)
  obtain ⟨i0, hi0, hz0, hz1, hz2⟩ := info_parts infoS
  obtain ⟨j0, hj0, hy0, hy1, hy2⟩ := info_parts infoRW
  clear hx hvS hvP hF hS hP
  go_enter Try.func30, Try.ntmps30
  go_wp2
  refine still_tail 9 mixed (by kernel_rfl) ?_
  simp only [List.take_succ_cons, List.take_zero, List.drop_succ_cons, List.drop_zero]
  iterate 9 still_step
  refine wpStill_nil ?_
  go_wp2
  obtain ⟨W, hW⟩ : ∃ W, W = (w.alloc (.cells #[.slice none 0 0, .slice none 0 0, .int .i64 d.fuse, .bool d.dead] 51)).drew := ⟨_, rfl⟩
  rw [← hW]
  have kW : Kept [] w W := by rw [hW]; exact ((Kept.refl _ w).alloc _).drew
  have bW : Blk W w.heap.size 51 #[.slice none 0 0, .slice none 0 0, .int .i64 d.fuse, .bool d.dead] := by rw [hW]; exact Blk.new _ _ _
  clear hW
  have d0 := bW.cell 0
  simp at d0
  have s0 := kW.cell c0 (by simp)
  have f0 := bW.frozen 0
  have HbW := Lib.hid bW
  clear bW
  go_region_law ((refine step_app (by rfl) (.tmp 18) (.tmp 22) _ (by rfl) (.slice none 0 0) (.slice A d.ss.length a) (by rfl) (by rfl) (run_app W.drew _ _ 9 i0 _ 1 16 Try.underlying48 hi0 hz0 hz1 hz2 rfl (by omega) (.slice none 0 0) 0 [] (World.ownsRow_nil _ _ _ _) A d.ss.length a (d.ss.map str) (by simp) HsS.out.1 (fun hm => by obtain ⟨b1, o1, e1, hc1⟩ := HsS.out.2 hm; exact ⟨b1, o1, e1, fun j u hu => kW.drew.cell (hc1 j u hu) (by simp)⟩) (str_one _) (by simp only [maxLen]; omega) (by omega)) ?_; rintro v1 w1 ⟨h2, h3, h4⟩; obtain ⟨A1, a1, rfl, hca1⟩ := own_slice h2; have kW1 : Kept [] W w1 := (Kept.refl [] W).drew.grown h3 (fun _ h => by cases h); have e0 := kW1.cell d0 (by simp); have e1 := (kW1.frozen (p := ⟨w.heap.size, 0, none⟩) HbW.out.lt (by simp)).trans f0))
  all_goals
    have bW1 := (HbW.out.kept kW1 (by simp)).set_ 0 (.slice A1 (0 + d.ss.length) a1)
    simp at bW1
    have h2' := own_set h2 (p := ⟨w.heap.size, 0, none⟩) (own_ne h2 (HbW.out.kept kW1 (by simp)) (by decide)) (.slice A1 (0 + d.ss.length) a1)
    have hf1 : Hid (∀ x, (Value.slice A1 d.ss.length a1).ownBlock = some x → w.heap.size + 1 ≤ x) := fun x hx => by
      have s1 := HbW.out.lt
      rcases h4 with h4 | h4
      · have : (Value.slice A1 d.ss.length a1).ownBlock = none := by simpa [Value.ownBlock] using h4
        rw [this] at hx; cases hx
      · have : (Value.slice A1 d.ss.length a1).ownBlock = some W.drew.heap.size := by rw [← h4]; simp
        rw [this] at hx; injection hx with hx; subst hx; exact s1
    simp only [Nat.zero_add, List.nil_append] at bW1 h2'
    go_wp2
    obtain ⟨W2, hW2⟩ : ∃ W2, W2 = w1.setCell ⟨w.heap.size, 0, none⟩ (.slice A1 d.ss.length a1) := ⟨_, rfl⟩
    rw [← hW2] at bW1 h2' ⊢
    have kW2 : Kept [] w W2 := by rw [hW2]; exact (kW.trans kW1).setCell (.inr (Nat.le_refl _)) _
    clear hW2 h2 h3 h4 e0 e1 kW1 d0 f0
    have d1 := bW1.cell 1
    simp at d1
    have g1 := bW1.frozen 1
    have t1 := kW2.cell c1 (by simp)
    have HbW1 := Lib.hid bW1
    have Hh2 := Lib.hid h2'
    clear bW1 h2'
    go_region_law ((refine step_app (by rfl) (.tmp 30) (.tmp 34) _ (by rfl) (.slice none 0 0) (.slice B d.ps.length b) (by rfl) (by rfl) (run_app W2.drew _ _ 58 j0 _ 2 24 Try.underlying49 hj0 hy0 hy1 hy2 rfl (by omega) (.slice none 0 0) 0 [] (World.ownsRow_nil _ _ _ _) B d.ps.length b (d.ps.flatMap pcells) (flatMap_len 2 pcells (fun _ => rfl) _) HsP.out.1 (fun hm => by obtain ⟨b1, o1, e1, hc1⟩ := HsP.out.2 hm; exact ⟨b1, o1, e1, fun j u hu => kW2.drew.cell (hc1 j u hu) (by simp)⟩) (pcells_one _) (by simp only [maxLen]; omega) (by omega)) ?_; rintro v2 w2 ⟨h5, h6, h7⟩; obtain ⟨B1, b1, rfl, hcb1⟩ := own_slice h5; have kW3 : Kept [] W2 w2 := (Kept.refl [] W2).drew.grown h6 (fun _ h => by cases h); have e0 := kW3.cell d1 (by simp); have e1 := (kW3.frozen (p := ⟨w.heap.size, 1, none⟩) HbW1.out.lt (by simp)).trans g1))
    all_goals
      go_wp2
      go_ret
      have bF := (HbW1.out.kept kW3 (by simp)).set_ 1 (.slice B1 (0 + d.ps.length) b1)
      simp at bF
      simp only [Nat.zero_add, List.nil_append] at h5
      have oS := own_set (kW3.owns Hh2.out (fun _ _ h => by cases h)) (p := ⟨w.heap.size, 1, none⟩) (own_ne (kW3.owns Hh2.out (fun _ _ h => by cases h)) (HbW1.out.kept kW3 (by simp)) (by decide)) (.slice B1 (0 + d.ps.length) b1)
      have oP := own_set h5 (p := ⟨w.heap.size, 1, none⟩) (own_ne h5 (HbW1.out.kept kW3 (by simp)) (by decide)) (.slice B1 (0 + d.ps.length) b1)
      simp only [Nat.zero_add] at oS oP ⊢
      refine ⟨w.heap.size, _, rfl, ⟨_, _, ⟨Hx.out.ok, bF, oS, oP⟩, rfl⟩, ((kW2.trans kW3).setCell (.inr (Nat.le_refl _)) _), ?_⟩
      intro x hx
      simp only [List.mem_cons, List.mem_append, Option.mem_toList] at hx
      rcases hx with rfl | hx | hx
      · exact Nat.le_refl _
      · have := hf1.out x hx; omega
      · have s1 := HbW1.out.lt
        rcases h7 with h7 | h7
        · have : (Value.slice B1 d.ps.length b1).ownBlock = none := by simpa [Value.ownBlock] using h7
          rw [this] at hx; cases hx
        · have : (Value.slice B1 d.ps.length b1).ownBlock = some W2.drew.heap.size := by rw [← h7]; simp
          rw [this] at hx; injection hx with hx; subst hx; exact Nat.le_of_lt s1
end Go.Proofs.Ytgdbafinncajfaa
