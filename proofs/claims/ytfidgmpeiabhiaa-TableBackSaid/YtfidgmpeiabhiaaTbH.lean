/- Tables: a copy of numbers; Page. -/
import Derived.Test.YtfidgmpeiabhiaaTbG
import Derived.Lib.BufferMore
namespace Go.Proofs.Ytfidgmpeiabhiaa
open Go.RowKit Go.Maps

theorem iv_one (l : List Int) : ∀ u ∈ l.map iv, u.oneCell' = true := by
  intro u hu
  obtain ⟨x, _, rfl⟩ := List.mem_map.1 hu
  rfl
theorem cloneI (w : World) (b o n c : Nat) (l : List Int) (hl : l.length = n) (hc : ∀ j u, (l.map iv)[j]? = some u → w.cell? ⟨b, o + j, none⟩ = some u) (hn : n ≤ 1048576) :
    Calls Try.prog 35 #[.slice (some ⟨b, o, none⟩) n c] w fun e w' => ∃ v, e = .returned v ∧ w'.ownsRow w.heap.size 3 1 v n (l.map iv) ∧ Kept [] w w' := by
  have he := fun W => Lib.run_eql_slice_some_nil (P := Try.prog) W (t := 26) ⟨b, o, none⟩ n c Try.underlying26
  obtain ⟨i0, hi0, hz0, hz1, hz2⟩ := info_parts infoI
  have hown : (w.alloc (.cells #[] 3)).ownsRow 0 3 1 (.slice (some ⟨w.heap.size, 0, none⟩) 0 0) 0 [] := ⟨by simp, .inr ⟨w.heap.size, 0, #[], rfl, Nat.zero_le _, heap_alloc_new w _, Nat.le_refl _, Nat.zero_le _, by simp, by simp⟩⟩
  have Hrun := fun ty => run_app (P := Try.prog) (w.alloc (.cells #[] 3)) 26 ty 3 i0 _ 1 8 Try.underlying26 hi0 hz0 hz1 hz2 rfl (by omega) _ 0 [] hown (some ⟨b, o, none⟩) n c (l.map iv) (by simp [hl]) (fun h => by cases h) (fun _ => ⟨b, o, rfl, fun j u hu => ((Kept.refl [] w).alloc _).cell (hc j u hu) (by simp)⟩) (iv_one l) (by simp only [maxLen]; omega) (by omega)
  have HRun := Lib.hid Hrun
  clear Hrun hown hc hl hn
  go_enter Try.func35, Try.ntmps35
  go_wp2_with (at_builtin; refine wpList_app rfl (.tmp 5) (.tmp 6) _ rfl _ _ rfl rfl (HRun.out _) ?_; rintro v' w' ⟨h2, h3, h4⟩)
  go_ret
  refine ⟨v', rfl, own_up (by simpa using h2) (fun k hk => ?_), (((Kept.refl [] w).alloc _).grown h3 (fun k hk => by simp [Value.ownBlock] at hk; omega))⟩
  rcases h4 with h4 | h4 <;> rw [h4] at hk <;> simp [Value.ownBlock] at hk <;> omega
def lenV : Value → Nat
  | .slice _ n _ => n
  | _ => 0
def pgB (p : List Int) (i : Int) : Bool := decide (0 ≤ i) && decide (i < (((p.length + 12) / 13 : Nat) : Int))
def pgL (p : List Int) (i : Int) : List Int := if pgB p i = true then pageP p i.toNat else []
def pgE (p : List Int) (i : Int) : Int := if pgB p i = true then 0 else 2
def PagePost (p : List Int) (i : Int) (W : World) (e : Ending) (w' : World) : Prop := ∃ v, e = .returned (.tuple #[v, .int .i64 (pgE p i)]) ∧ w'.ownsRow W.heap.size 3 1 v (pgL p i).length ((pgL p i).map iv) ∧ Kept [] W w'
set_option maxRecDepth 4000 in
set_option maxHeartbeats 2000000 in
theorem tb_Page (W : World) (n₀ : Nat) (t : Tb) (p : List Int) (i : Int) (h : TbAt n₀ W t p) : Calls Try.prog 19 #[tbV t, .int .i64 i] W (PagePost p i W) := by
  have c0 := h.tb.cell 0
  obtain ⟨A, c, hv, hcl⟩ := own_slice h.pl
  simp only [List.getElem?_toArray, List.getElem?_cons_zero, hv] at c0
  have hlen := h.len
  have HT := Lib.hid h
  replace hv := Lib.hid hv
  by_cases h0 : i < 0
  · have hb : Hid (pgB p i = false) := by simp [Hid, pgB]; omega
    clear h
    unfold tbV
    go_enter Try.func19, Try.ntmps19
    go_wp2_with (go_at_call 30; refine (tb_pages _ _ hlen).mono ?_; rintro e w1 ⟨rfl, rfl⟩)
    refine bodyPost_ret (results_tmp2 rfl _ _ _) rfl ?_
    refine ⟨.slice none 0 0, ?_, ?_, Kept.refl _ _⟩
    · simp [pgE, hb.out]
    · simp [pgL, hb.out]; exact World.ownsRow_nil _ _ _ _
  · by_cases h1 : i < (((p.length + 12) / 13 : Nat) : Int)
    · have hb : Hid (pgB p i = true) := by simp only [Hid, pgB, Bool.and_eq_true, decide_eq_true_eq]; omega
      obtain ⟨k, rfl⟩ : ∃ k : Nat, i = (k : Int) := ⟨i.toNat, by omega⟩
      have hk : 13 * k < p.length := by omega
      obtain ⟨g, _, e1, _⟩ := own_some (hv.out ▸ h.pl) (by omega)
      injection e1 with e1 _ e2
      subst e1
      subst e2
      have HC : Hid (∀ j u, (p.map iv)[j]? = some u → W.cell? ⟨g, j, none⟩ = some u) := fun j u hu => by
        have := own_cellS (hv.out ▸ h.pl) j u hu
        rwa [Nat.zero_add] at this
      obtain ⟨B, hB⟩ : ∃ B : Nat, B = 13 * k := ⟨_, rfl⟩
      obtain ⟨E, hE⟩ : ∃ E : Nat, E = min (13 * k + 13) p.length := ⟨_, rfl⟩
      have hwB : IntKind.i64.wrap ((k : Int) * 13) = (B : Int) := by rw [IntWalk.i64_in _ (by omega)]; omega
      have hw1 : IntKind.i64.wrap ((k : Int) + 1) = (k : Int) + 1 := IntWalk.i64_in _ (by omega)
      have hwE : IntKind.i64.wrap (((k : Int) + 1) * 13) = ((k : Int) + 1) * 13 := IntWalk.i64_in _ (by omega)
      have hmn : min (((k : Int) + 1) * 13) (p.length : Int) = (E : Int) := by omega
      have hmn2 : min (p.length : Int) (((k : Int) + 1) * 13) = (E : Int) := by omega
      have hBE : B ≤ E := by omega
      have hEc : E ≤ c := by omega
      have hcB : ¬ c = B := by omega
      have hEB : E - B = ((p.drop (13 * k)).take 13).length := by rw [List.length_take, List.length_drop]; omega
      have hEBs : E - B ≤ 13 := by omega
      have HCl : Hid (∀ j u, (((p.drop (13 * k)).take 13).map iv)[j]? = some u → W.drew.cell? ⟨g, B + j, none⟩ = some u) := fun j u hu => by
        rw [List.map_take, List.map_drop, List.getElem?_take] at hu
        split at hu
        · rw [List.getElem?_drop] at hu
          rw [hB]
          exact HC.out _ _ hu
        · cases hu
      have hPL : Hid (pgL p (k : Int) = (p.drop (13 * k)).take 13 ++ List.replicate (13 - ((p.drop (13 * k)).take 13).length) (-1)) := by rw [Hid, pgL, hb.out]; rfl
      obtain ⟨L, hL⟩ : ∃ L, Hid ((p.drop (13 * k)).take 13 = L) := ⟨_, Lib.hid rfl⟩
      rw [hL.out] at hEB HCl hPL
      replace hEB := Lib.hid hEB
      have hnp : ¬ ((p.length : Int) + 12) / 13 ≤ (k : Int) := by omega
      clear h hE hB
      obtain ⟨i0, p0, p1, p2, p3⟩ := info_parts infoI
      replace p0 := Lib.hid p0
      replace p1 := Lib.hid p1
      replace p2 := Lib.hid p2
      replace p3 := Lib.hid p3
      unfold tbV
      go_enter Try.func19, Try.ntmps19
      go_wp2_with (go_at_call 30; refine (tb_pages _ _ hlen).mono ?_; rintro e w1 ⟨rfl, rfl⟩)
      go_region_held3 (fun W' => W'.cell? ⟨t.tb, 0, none⟩ = some (.slice (some ⟨g, 0, none⟩) p.length c)) (first | exact c0 | exact kk.cell c0 (fun h => by cases h) | go_keep) (first | (go_at_call 35; refine (cloneI _ g B (E - B) (c - B) L hEB.out.symm HCl.out (by omega)).mono ?_; rintro e w1 ⟨v1, rfl, ho1, k1⟩; have kk : Kept [] W w1 := ((Kept.refl [] W).drew).trans k1))
      have HO1 := Lib.hid ho1
      have KK := Lib.hid kk
      have hdr : W.heap.size ≤ W.drew.heap.size := Nat.le_refl _
      clear k1 kk ho1 c0
      obtain ⟨A1, c1, rfl, _⟩ := own_slice HO1.out
      go_wp2_with fail
      go_loopw [6] (fun v V => ∃ (m c' : Nat) (A' : Option Addr), m ≤ 13 ∧ E - B ≤ m ∧ v = .slice A' m c' ∧ Hid (V.ownsRow W.heap.size 3 1 (.slice A' m c') m ((L ++ List.replicate (m - (E - B)) (-1)).map iv)) ∧ Hid (Kept [] W V)) (fun v _ => 13 - lenV v)
      case atStart => exact ⟨E - B, _, _, hEBs, Nat.le_refl _, rfl, by rw [Nat.sub_self, List.replicate_zero, List.append_nil]; exact HO1, KK⟩
      case round =>
        obtain ⟨m, c', A', hm, hm2, rfl, HO, HK⟩ := hrel
        by_cases hlt : m < 13
        · have hlti : (m : Int) < 13 := by omega
          have HRun := Lib.hid (fun ty => run_app (P := Try.prog) (wr.alloc (.cells #[.int .i64 (-1)] 3)) 26 ty 3 i0 _ 1 8 Try.underlying26 p0.out p1.out p2.out p3.out rfl (by decide) _ _ _ (own_down (HO.out.alloc _) (Nat.zero_le _)) (some ⟨wr.heap.size, 0, none⟩) 1 1 [iv (-1)] (by simp) (fun h => by cases h) (fun _ => ⟨_, 0, rfl, fun j u hu => by
            have := World.news_of_block (Blk.new wr 3 #[.int .i64 (-1)]) j u hu
            rwa [Addr.add_lit] at this⟩) (iv_one [-1]) (by simp only [maxLen]; omega) (by omega))
          go_wp2_with (at_builtin; refine wpList_app rfl (.tmp 43) (.tmp 44) _ rfl _ _ rfl rfl (HRun.out _) ?_; rintro v3 w4 ⟨hr2, hr3, hr4⟩; obtain ⟨A3, c3, rfl, _⟩ := own_slice hr2; have HR2 := Lib.hid hr2; have HR3 := Lib.hid hr3; have HR4 := Lib.hid hr4; clear hr2 hr3 hr4 HRun)
          go_roundw
          case rel =>
            have hlo : ∀ j, (Value.slice A' m c').ownBlock = some j → W.heap.size ≤ j := fun j hj => (HO.out.lt j hj).1
            refine ⟨m + 1, c3, A3, by omega, by omega, rfl, ?_, (HK.out.alloc _).grown HR3.out (fun j e => .inr (hlo j e))⟩
            have e1 : L ++ List.replicate (m + 1 - (E - B)) (-1) = (L ++ List.replicate (m - (E - B)) (-1)) ++ [-1] := by
              rw [List.append_assoc, ← List.replicate_succ']
              congr 2
              omega
            rw [Hid, e1, List.map_append]
            refine own_up HR2.out (fun j hj => ?_)
            rcases HR4.out with h | h
            · exact hlo j (h ▸ hj)
            · rw [h] at hj
              injection hj with hj
              subst hj
              have := HK.out.size
              simp
              omega
          case measure => simp [lenV]; omega
        · obtain rfl : m = 13 := by omega
          go_wp2_with fail
          refine bodyPost_ret (results_tmp2 rfl _ _ _) rfl ?_
          refine ⟨.slice A' 13 c', ?_, ?_, HK.out⟩
          · simp [pgE, hb.out]
          · rw [hPL.out, ← hEB.out]
            have e2 : (L ++ List.replicate (13 - (E - B)) (-1)).length = 13 := by rw [List.length_append, List.length_replicate, ← hEB.out]; omega
            rw [e2]
            exact HO.out
    · have hb : Hid (pgB p i = false) := by simp only [Hid, pgB, Bool.and_eq_false_iff, decide_eq_false_iff_not]; omega
      clear h
      unfold tbV
      go_enter Try.func19, Try.ntmps19
      go_wp2_with (go_at_call 30; refine (tb_pages _ _ hlen).mono ?_; rintro e w1 ⟨rfl, rfl⟩)
      refine bodyPost_ret (results_tmp2 rfl _ _ _) rfl ?_
      refine ⟨.slice none 0 0, ?_, ?_, Kept.refl _ _⟩
      · simp [pgE, hb.out]
      · simp [pgL, hb.out]; exact World.ownsRow_nil _ _ _ _
end Go.Proofs.Ytfidgmpeiabhiaa
