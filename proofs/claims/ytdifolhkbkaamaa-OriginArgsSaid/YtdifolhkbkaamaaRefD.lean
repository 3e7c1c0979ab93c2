/- The reference's disk, its walks (fourth part): New, Load, Copy. -/
import Derived.Test.YtdifolhkbkaamaaRefC
namespace Go.Proofs.Ytdifolhkbkaamaa
open Go.RowKit

theorem infoS : (Try.prog.info? 9).map (fun i => (i.zero, i.size, i.bytes)) = some (some (.string ByteArray.empty), 1, 16) := by kernel_rfl

theorem RDx.grow {w1 w2 : World} {g : Nat} {vS vP : Value} {d : D} (h : RDx w1 g vS vP d) (hk : Kept vS.ownBlock.toList w1 w2) {gg cap : Nat} {x : List UInt8} (h64 : x.length = 64) (hn : d.ss.length + 1 ≤ 1048576)
    (ho : w2.ownsRow 0 9 1 (.slice (some ⟨gg, 0, none⟩) (d.ss.length + 1) cap) (d.ss.length + 1) (d.ss.map str ++ [str x])) :
    RDx (w2.setCell ⟨g, 0, none⟩ (.slice (some ⟨gg, 0, none⟩) (d.ss.length + 1) cap)) g (.slice (some ⟨gg, 0, none⟩) (d.ss.length + 1) cap) vP { d with ss := d.ss ++ [x] } := by
  have hb2 := h.blk.kept hk (fun hm => own_ne h.secs h.blk (by decide) g (by simpa using hm) rfl)
  have hP2 := hk.owns h.pend (fun k e hm => own_own_ne h.pend h.secs (by decide) k e (by simpa using hm))
  have hs := hb2.set_ 0 (.slice (some ⟨gg, 0, none⟩) (d.ss.length + 1) cap)
  simp at hs
  refine ⟨⟨fun s hs => ?_, by simpa using hn, h.ok.p64, fun q hq => by have := h.ok.pat q hq; simp; omega, h.ok.fuse⟩, hs, ?_, own_set hP2 (own_ne hP2 hb2 (by decide)) _⟩
  · rcases List.mem_append.1 hs with h1 | h1
    · exact h.ok.s64 s h1
    · simp at h1; subst h1; exact h64
  · have := own_set ho (p := ⟨g, 0, none⟩) (own_ne ho hb2 (by decide)) (.slice (some ⟨gg, 0, none⟩) (d.ss.length + 1) cap)
    simpa using this

theorem D_none_ok : D.ok ⟨[], [], -1, false⟩ := D_new_ok 0 (by decide)

def RNew (w : World) (d : D) (e : Ending) (w' : World) : Prop := ∃ g F, e = .returned (.pointer (some ⟨g, 0, none⟩)) ∧ RD w' g F d ∧ Kept [] w w' ∧ ∀ x ∈ F, w.heap.size ≤ x

def lenStr : Value → Nat | .string s => s.size | _ => 0

set_option maxRecDepth 10000 in
set_option maxHeartbeats 4000000 in
theorem ref_Load (data : List UInt8) (n : Nat) (w : World) (hn : n = (data.length + 63) / 64) (h : data.length ≤ 100000) :
    Calls Try.prog 27 #[.string ⟨data.toArray⟩] w (RNew w ⟨loadS data n, [], -1, false⟩) := by
  obtain ⟨i0, hi0, hz0, hz1, hz2⟩ := info_parts infoS
  have Hn := Lib.hid hn
  clear hn
  go_enter Try.func27, Try.ntmps27
  go_wp2
  go_loop [0] (fun s => ∃ k : Nat, data.length + k ≤ n * 64 ∧ k ≤ 64 ∧ Hid (s = str (data ++ List.replicate k 0))) (fun s => n * 64 - lenStr s)
  case atStart => exact ⟨0, by have := Hn.out; omega, by omega, by rw [Hid, str]; simp⟩
  case round =>
    obtain ⟨k, hk1, hk2, hs⟩ := hrel
    rw [hs.out]
    unfold str
    clear hs
    by_cases hlt : (data.length + k) % 64 = 0
    · have hkn : data.length + k = n * 64 := by have := Hn.out; omega
      have HX : Hid (data ++ List.replicate k 0 = (loadS data n).flatten) := by
        rw [Hid, loadS_flat data n (by omega)]; congr 2; omega
      have hxl : (data ++ List.replicate k (0 : UInt8)).length = n * 64 := by simp; omega
      generalize data ++ List.replicate k (0 : UInt8) = x at *
      clear hlt hkn hk1
      have hn2 : n ≤ 1600 := by have := Hn.out; omega
      have HS := Lib.hid (loadS_secs data n)
      have Hxl := Lib.hid hxl
      have hxs : (x.length : Int) = (n : Int) * 64 := by omega
      clear hxl
      go_wp2
      go_loopw [4] (fun i wr => ∃ (k : Nat) (vS : Value), k ≤ n ∧ i = .int .i64 ((k : Int) * 64) ∧ Hid (RDx wr w.heap.size vS (.slice none 0 0) ⟨(loadS data n).take k, [], -1, false⟩) ∧ Kept [] w wr ∧ Hid (∀ x, vS.ownBlock = some x → w.heap.size ≤ x)) (fun i _ => n * 64 - (intOf i).toNat)
      case atStart => exact ⟨0, .slice none 0 0, by omega, rfl, ⟨D_none_ok, Blk.new _ _ _, World.ownsRow_nil _ _ _ _, World.ownsRow_nil _ _ _ _⟩, (Kept.refl _ _).alloc _, fun x hx => by cases hx⟩
      case round =>
        obtain ⟨k, vS, hk, rfl, HP, hkept, HF⟩ := hrel
        have HP0 := HP
        have htl : ((loadS data n).take k).length = k := by rw [List.length_take, loadS_len]; omega
        have Htl := Lib.hid htl
        by_cases hlt : k < n
        · obtain ⟨A, a, hvS, _⟩ := own_slice HP.out.secs
          have c0 := HP.out.blk.cell 0
          simp [hvS, htl] at c0
          have f0 := HP.out.blk.frozen 0
          have hown := HP.out.secs
          simp only [htl] at hown
          rw [hvS] at hown
          simp only [htl] at hown
          have hblt := HP.out.blk.lt
          have hgn : w.heap.size ∉ (Value.slice A k a).ownBlock.toList := fun hm => own_ne hown HP.out.blk (by decide) _ (by simpa using hm) rfl
          have HvS2 : Hid (vS = .slice A k a) := by rw [Hid, hvS, htl]
          have hgl : k < (loadS data n).length := by rw [loadS_len]; exact hlt
          have Hy := Lib.hid (flat_get _ k HS.out.2 hgl)
          have Htk : Hid ((loadS data n).take (k + 1) = (loadS data n).take k ++ [(loadS data n)[k]]) := List.take_succ_eq_append_getElem hgl
          have Hy64 := Lib.hid (HS.out.2 _ (List.getElem_mem hgl))
          generalize (loadS data n)[k] = y at *
          have hext : (⟨x.toArray⟩ : ByteArray).extract (k * 64) (k * 64 + 64) = ⟨y.toArray⟩ := by
            rw [extract_list, ← Hy.out, HX.out, show k * 64 + 64 - k * 64 = 64 by omega]
          clear hvS htl hgl
          have q3 : IntKind.i64.wrap ((k : Int) * 64 + 64) = (k : Int) * 64 + 64 := IntWalk.i64_in _ (by omega)
          have q5 : 0 ≤ (k : Int) * 64 := by omega
          have q6 : 0 ≤ (k : Int) * 64 + 64 := by omega
          have q7 : (k : Int) * 64 + 64 ≤ (x.length : Int) := by omega
          have q8 : ((k : Int) * 64).toNat = k * 64 := by omega
          have q9 : ((k : Int) * 64 + 64).toNat = k * 64 + 64 := by omega
          have qa : (k : Int) * 64 ≤ (k : Int) * 64 + 64 := by omega
          have qb : (k : Int) * 64 < (x.length : Int) := by omega
          clear hxs
          go_wp2
          go_region_law ((refine step_append_lies _ (by rfl) (.tmp 23) (.tmp 29) _ (by rfl) 0 9 i0 _ 1 16 Try.underlying90 hi0 hz0 hz1 hz2 rfl (by omega) _ _ _ (by rfl) ((hown.alloc _).drew) ⟨wr.heap.size, 0, none⟩ 1 1 [str y] (by rfl) (by rfl) (World.news_of_block (cs := #[str y]) (t := 9) (fr := (0, 0)) (heap_alloc_new wr _)) (by simp [str, Value.oneCell']) (by omega) (by simp only [maxLen]; omega) (by omega) (by omega) _ rfl ?_; intro gg cap w2 hown2 hgrow hat hlt2; have hkW : Kept (Value.slice A k a).ownBlock.toList wr w2 := ((Kept.refl _ wr).alloc _).drew.grown hgrow (fun x hx => .inl (by rw [Option.mem_toList]; exact hx)); have k1 := hkW.cell c0 hgn; have kf := (hkW.frozen (p := ⟨w.heap.size, 0, none⟩) HP0.out.blk.lt hgn).trans f0))
          all_goals
            go_wp2
            go_roundw
            case rel =>
              have hP2 := (HvS2.out ▸ HP0.out).grow (x := y) hkW Hy64.out (by show ((loadS data n).take k).length + 1 ≤ _; rw [Htl.out]; omega) (by show w2.ownsRow _ _ _ (.slice _ (((loadS data n).take k).length + 1) _) (((loadS data n).take k).length + 1) _; rw [Htl.out]; exact hown2)
              refine ⟨k + 1, .slice (some ⟨gg, 0, none⟩) (k + 1) cap, by omega, by go_num, ?_, ?_, ?_⟩
              · rw [Htk.out]
                unfold Hid
                have e : (⟨(loadS data n).take k, [], -1, false⟩ : D).ss.length = k := Htl.out
                rw [e] at hP2
                exact hP2
              · refine (hkept.trans' hkW (fun x hx => .inr (HF.out x ?_))).setCell (.inr (Nat.le_refl _)) _
                rw [HvS2.out]; simpa using hx
              · intro x hx
                simp [Value.ownBlock] at hx
                subst hx
                rcases hat with hat | rfl
                · exact HF.out _ (by rw [HvS2.out]; exact hat)
                · have := hkept.size; simp; omega
            case measure => simp [intOf]; omega
        · obtain rfl : k = n := by omega
          have qb : ¬ (k : Int) * 64 < (x.length : Int) := by omega
          clear hxs
          go_wp2
          go_ret
          refine ⟨w.heap.size, _, rfl, ⟨vS, .slice none 0 0, ?_, rfl⟩, hkept, fun x hx => ?_⟩
          · have := HP0.out
            rwa [List.take_of_length_le (by rw [loadS_len]; omega)] at this
          · simp [Value.ownBlock] at hx
            rcases hx with rfl | hx
            · exact Nat.le_refl _
            · exact HF.out x hx
    · have HN : Hid ((⟨(data ++ List.replicate k (0 : UInt8)).toArray⟩ : ByteArray) ++ ⟨#[0]⟩ = ⟨(data ++ List.replicate (k + 1) (0 : UInt8)).toArray⟩) := by
        rw [Hid, List.replicate_succ', ← List.append_assoc]
        exact app_arr _ [0]
      have hk3 : data.length + (k + 1) ≤ n * 64 := by have := Hn.out; omega
      have hk4 : k + 1 ≤ 64 := by have := Hn.out; omega
      have hxl : (data ++ List.replicate k (0 : UInt8)).length = data.length + k := by simp
      generalize hx : data ++ List.replicate k (0 : UInt8) = x at *
      have hx2 : ¬ (x.length : Int) % 64 = 0 := by omega
      have hx3 : ((x.length : Int) % 64 != 0) = true := by simpa using hx2
      have hx4 : x.length ≤ 200000 := by omega
      have Hx5 : Hid (x.length + 1 ≤ n * 64) := by unfold Hid; omega
      clear hx hxl hx2 hlt
      go_wp2
      go_round
      case rel => exact ⟨k + 1, by omega, by omega, congrArg Value.string HN.out⟩
      case measure =>
        have := Hx5.out
        simp [lenStr, ByteArray.size]
        omega

theorem str_one (l : List (List UInt8)) : ∀ u ∈ l.map str, u.oneCell' = true := by
  intro u hu
  obtain ⟨b, _, rfl⟩ := List.mem_map.1 hu
  rfl
theorem pcells_one (ps : List (Nat × List UInt8)) : ∀ u ∈ ps.flatMap pcells, u.oneCell' = true := by
  intro u hu
  obtain ⟨p, _, hp⟩ := List.mem_flatMap.1 hu
  simp [pcells] at hp
  rcases hp with rfl | rfl <;> rfl

theorem own_src {w : World} {base e size n c : Nat} {A : Option Addr} {xs : List Value} (h : w.ownsRow base e size (.slice A n c) n xs) : (A = none → c = 0) ∧ (0 < n → ∃ b o, A = some ⟨b, o, none⟩ ∧ ∀ j u, xs[j]? = some u → w.cell? ⟨b, o + j, none⟩ = some u) := by
  rcases h.2 with ⟨h0, h1⟩ | ⟨g, cap, cur, h0, _⟩
  · injection h0 with e1 e2 e3
    exact ⟨fun _ => e3, fun h => absurd h (by omega)⟩
  · injection h0 with e1 e2 e3
    subst e1
    exact ⟨(fun h => by cases h), fun _ => ⟨g, 0, rfl, fun j u hu => by have := h.cells (g := g) rfl j u hu; rwa [Addr.add_lit] at this⟩⟩

end Go.Proofs.Ytdifolhkbkaamaa
