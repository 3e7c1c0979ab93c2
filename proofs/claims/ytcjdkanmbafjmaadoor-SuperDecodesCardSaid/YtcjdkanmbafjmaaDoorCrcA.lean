/- The program's sums: the table. -/
import Derived.Test.YtcjdkanmbafjmaaDoorOctA
import Derived.Deep.MidRow
import Derived.Laws.BitsAllLaws
namespace Go.Proofs.YtcjdkanmbafjmaaDoor
open Go.RowKit

/-- one bit of a sum -/
def stepN (n : Nat) : Nat := if n % 2 = 1 then (n / 2) ^^^ 3988292384 else n / 2
def stepsN : Nat → Nat → Nat
  | 0, n => n
  | k + 1, n => stepN (stepsN k n)
def tabN (i : Nat) : Nat := stepsN 8 i
def tabCells : List Value := (List.range 256).map fun i => .int .u32 (tabN i : Int)
def tabPart (k : Nat) : Array Value := ((List.range k).map (fun i => Value.int .u32 (tabN i : Int)) ++ List.replicate (256 - k) (Value.int .u32 0)).toArray

theorem stepN_lt (n : Nat) (h : n < 4294967296) : stepN n < 4294967296 := by
  unfold stepN
  split
  · exact Nat.xor_lt_two_pow (n := 32) (by omega) (by omega)
  · omega
theorem stepsN_lt (n : Nat) (h : n < 4294967296) : ∀ k, stepsN k n < 4294967296
  | 0 => h
  | k + 1 => stepN_lt _ (stepsN_lt n h k)
theorem and_one (m : Nat) (h : m < 4294967296) : bits .and .u32 (m : Int) 1 = ((m % 2 : Nat) : Int) := by
  have := u32_and_nat m 1 h (by omega)
  rw [Nat.and_one_is_mod] at this
  exact this
theorem xor_poly (m : Nat) (h : m < 4294967296) : bits .xor .u32 ((m : Int) / 2) 3988292384 = (((m / 2) ^^^ 3988292384 : Nat) : Int) := by
  have := u32_xor_nat (m / 2) 3988292384 (by omega) (by omega)
  rw [← this]
  rfl
theorem tabPart_set (k : Nat) (hk : k < 256) (v : Value) (hv : v = .int .u32 (tabN k : Int)) : (tabPart k).setIfInBounds k v = tabPart (k + 1) := by
  subst hv
  obtain ⟨r, hr⟩ : ∃ r, 256 - k = r + 1 := ⟨256 - k - 1, by omega⟩
  rw [tabPart, tabPart, List.range_succ, hr, show 256 - (k + 1) = r by omega]
  simp [List.replicate_succ]
theorem tabPart_all : tabPart 256 = tabCells.toArray := by simp [tabPart, tabCells]

theorem info36 : (Tryd.prog.info? 80).map (·.zero) = some (some (.agg (tabPart 0))) := by kernel_rfl
theorem zero36 (w : World) : (zeroValue 80).run Tryd.prog w = .ok (.agg (tabPart 0)) w := by
  have h := info36
  cases hq : Tryd.prog.info? 80 with
  | none => simp [hq] at h
  | some i =>
    have hz : i.zero = some (.agg (tabPart 0)) := by simpa [hq] using h
    simp [zeroValue, typeInfo, hq, hz]

theorem results_cell {P : Program} {fn : Func} {p : Tmp} {ty : TypeId} (h : fn.results = #[.cell p ty]) (tmps : Array Value) (w : World) (g o : Nat) (cs : List Value) (d : TypeDesc)
    (hp : tmps[p]?.getD undef = .pointer (some ⟨g, o, none⟩)) (hr : w.rangeAt g o cs) (hu : P.underlying ty = some d) (hd : d.isRow = true) (hi : (P.info? ty).map (·.size) = some cs.length) :
    (results fn tmps).run P w = .ok (.agg cs.toArray) w := by
  simp [results, h, hp, asAddr, run_loadVar_mid w g o ty cs d hr hu hd hi]

set_option maxRecDepth 10000 in
set_option maxHeartbeats 4000000 in
theorem crc_table (w : World) : Calls Tryd.prog 46 #[] w fun e w' => e = .returned (.agg tabCells.toArray) ∧ Kept [] w w' := by
  obtain ⟨zA, hzA, hz⟩ : ∃ zA, zA = tabPart 0 ∧ ∀ w, (zeroValue 80).run Tryd.prog w = .ok (.agg zA) w := ⟨_, rfl, zero36⟩
  have HzA := Lib.hid hzA
  clear hzA
  go_enter Tryd.func46, Tryd.ntmps46
  go_wp2_with fail
  have HB0 : Hid (Blk ((w.alloc (.cells zA 80)).alloc (.cells zA 80)) (w.heap.size + 1) 80 (tabPart 0)) := by
    have := Blk.new (w.alloc (.cells zA 80)) 80 zA
    rw [show (w.alloc (.cells zA 80)).heap.size = w.heap.size + 1 by simp] at this
    rw [← HzA.out]; exact this
  have HA0 : Hid (Blk ((w.alloc (.cells zA 80)).alloc (.cells zA 80)) w.heap.size 80 (tabPart 0)) := by
    have := (Blk.new w 80 zA).alloc (.cells zA 80)
    rw [← HzA.out]; exact this
  have HK0 : Hid (Kept [] w ((w.alloc (.cells zA 80)).alloc (.cells zA 80))) := ((Kept.refl [] w).alloc _).alloc _
  clear hz HzA
  go_loopw [4] (fun i W => ∃ k : Nat, k ≤ 256 ∧ i = .int .i64 k ∧ Hid (Blk W (w.heap.size + 1) 80 (tabPart k)) ∧ Hid (Blk W w.heap.size 80 (tabPart 0)) ∧ Hid (Kept [] w W)) (fun i _ => 256 - (intOf i).toNat)
  case atStart => exact ⟨0, Nat.zero_le _, rfl, HB0.out, HA0.out, HK0.out⟩
  case round =>
    obtain ⟨k, hk, rfl, HB, HA, HK⟩ := hrel
    by_cases hlt : k < 256
    · have hf := HB.out.frozen k
      have hc2 : ∃ v, wr.cell? ⟨w.heap.size + 1, k, none⟩ = some v := by
        rw [HB.out.cell]
        have : k < (tabPart k).size := by simp [tabPart]; omega
        exact ⟨_, Array.getElem?_eq_getElem this⟩
      obtain ⟨v, hv⟩ := hc2
      go_wp2_with fail
      go_loop [3, 9] (fun nv i => ∃ j : Nat, j ≤ 8 ∧ i = .int .i64 j ∧ nv = .int .u32 ((stepsN j k : Nat) : Int)) (fun _ i => 8 - (intOf i).toNat)
      case atStart => exact ⟨0, Nat.zero_le _, rfl, by simp [stepsN]⟩
      case round =>
        obtain ⟨j, hj, rfl, rfl⟩ := hrel
        by_cases hlt2 : j < 8
        · have hlt3 := stepsN_lt k (by omega) j
          have hsu : Hid (stepsN (j + 1) k = stepN (stepsN j k)) := rfl
          generalize hm : stepsN j k = m at *
          clear hm
          have e1 := and_one m hlt3
          have e2 := xor_poly m hlt3
          by_cases hmm : m % 2 = 1
          · have hst : Hid (stepsN (j + 1) k = (m / 2) ^^^ 3988292384) := by rw [Hid, hsu.out, stepN, if_pos hmm]
            rw [hmm] at e1
            clear hsu
            go_wp2_with fail
            go_round
            case rel => exact ⟨j + 1, by omega, by go_num, by rw [hst.out]⟩
            case measure => simp [intOf]; omega
          · have hst : Hid (stepsN (j + 1) k = m / 2) := by rw [Hid, hsu.out, stepN, if_neg hmm]
            rw [show m % 2 = 0 by omega] at e1
            clear hsu
            go_wp2_with fail
            go_round
            case rel => exact ⟨j + 1, by omega, by go_num, by rw [hst.out]; rfl⟩
            case measure => simp [intOf]; omega
        · obtain rfl : j = 8 := by omega
          have htn : Hid (tabN k = stepsN 8 k) := rfl
          generalize stepsN 8 k = m at *
          go_wp2_with fail
          go_roundw
          case rel =>
            have hs2 := HB.out.set_ k (.int .u32 (m : Int))
            rw [tabPart_set k hlt _ (by rw [htn.out])] at hs2
            exact ⟨k + 1, by omega, by go_num, hs2, HA.out.far (by simp) _, HK.out.setCell (.inr (by simp)) _⟩
          case measure => simp [intOf]; omega
    · obtain rfl : k = 256 := by omega
      rw [tabPart_all] at HB
      have hi36 : (Tryd.prog.info? 80).map (·.size) = some tabCells.length := by kernel_rfl
      have Hi36 := Lib.hid hi36
      have hr1 : wr.rangeAt (w.heap.size + 1) 0 tabCells := fun j v hv => by rw [Nat.zero_add, HB.out.cell]; simpa using hv
      have hth : wr.there w.heap.size 0 tabCells.toArray.size := fun j hj => by
        rw [Nat.zero_add, HA.out.cell]
        refine ⟨?_, HA.out.frozen j⟩
        have : j < (tabPart 0).size := by simpa [tabPart, tabCells] using hj
        rw [Array.getElem?_eq_getElem this]; rfl
      have h1c : tabCells.toArray.all (·.oneCell') = true := by kernel_rfl
      have Hr1 := Lib.hid hr1
      have Hth := Lib.hid hth
      have H1c := Lib.hid h1c
      have hw2 : (wr.setCells w.heap.size 0 tabCells).rangeAt w.heap.size 0 tabCells := fun j v hv => by
        have hj : j < tabCells.length := (List.getElem?_eq_some_iff.1 hv).1
        rw [World.cell?_setCells_in _ _ _ _ (fun i hi => (Hth.out i (by simpa using hi)).1) j hj]
        rw [← hv, List.getElem?_eq_getElem hj]
      have Hw2 := Lib.hid hw2
      have HK2 : Hid (Kept [] w (wr.setCells w.heap.size 0 tabCells)) := by
        have : ∀ (l : List Value) (o : Nat) (W : World), Kept [] w W → Kept [] w (W.setCells w.heap.size o l) := by
          intro l
          induction l with
          | nil => intro o W h; exact h
          | cons v r ih => intro o W h; exact ih _ _ (h.setCell (.inr (Nat.le_refl _)) _)
        exact this _ _ _ HK.out
      clear hr1 hth h1c hi36 hw2
      generalize hT : tabCells = T at *
      have hi2 : (Tryd.prog.info? 80).map (·.size) = some T.toArray.size := by rw [Hi36.out]; simp
      have Hi2 := Lib.hid hi2
      clear hi2
      go_wp2_with (first | (refine wpList_load_mid rfl _ (.tmp 1) rfl (w.heap.size + 1) 0 rfl T _ Hr1.out Tryd.underlying80 rfl Hi36.out ?_) | (refine wpList_store_mid rfl _ (.tmp 0) (.tmp 24) rfl w.heap.size 0 T.toArray rfl rfl Hth.out Hi2.out H1c.out ?_))
      refine bodyPost_ret (results_cell rfl _ _ _ 0 T _ (by simp [Act.put]) Hw2.out Tryd.underlying80 rfl Hi36.out) rfl ?_
      exact ⟨by rw [hT], HK2.out⟩
end Go.Proofs.YtcjdkanmbafjmaaDoor
