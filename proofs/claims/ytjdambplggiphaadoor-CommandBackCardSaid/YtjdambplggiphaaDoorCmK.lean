/- Commands: a builder of the call's own is written to, byte by byte: the library's copy check and WriteByte at this dump; the program's figures. -/
import Derived.Test.YtjdambplggiphaaDoorCmJ
import Derived.Lib.AppendStr
import Derived.Lib.UnsafeStr
import Derived.Laws.Externs
import Derived.Laws.BitsAllLaws
namespace Go.Proofs.YtjdambplggiphaaDoor
open Go.RowKit Go.Lib

theorem sizeBld : (Tryd.prog.info? 52).map (·.size) = some 2 := by kernel_rfl
theorem liesBld : liesAt Tryd.prog Tryd.prog.depth 52 (2 / Tryd.prog.cellsOf 52) 0 52 1 = true := by kernel_rfl
set_option maxRecDepth 8000 in
theorem bld_used (b : Nat) (w : World) (h0 : w.cell? ⟨b, 0, none⟩ = some (.pointer (some ⟨b, 0, none⟩))) :
    Calls Tryd.prog 33 #[.pointer (some ⟨b, 0, none⟩)] w fun e w' => e = .returned (.tuple #[]) ∧ w' = w := by
  obtain ⟨j, hj, _⟩ := Option.map_eq_some_iff.1 sizeBld
  go_enter Tryd.func33, Tryd.ntmps33
  go_wp2
  rw [Lib.run_neq_ptr_same w _ Tryd.underlying49 hj]
  go_wp2
  go_end0
  exact ⟨rfl, rfl⟩
set_option maxRecDepth 8000 in
theorem bld_fresh (b : Nat) (w : World) (h0 : w.cell? ⟨b, 0, none⟩ = some (.pointer none)) (hsh : w.shape? b = some (52, 2)) (hf : w.frozen? ⟨b, 0, none⟩ = false) :
    Calls Tryd.prog 33 #[.pointer (some ⟨b, 0, none⟩)] w fun e w' => e = .returned (.tuple #[]) ∧ w' = w.setCell ⟨b, 0, none⟩ (.pointer (some ⟨b, 0, none⟩)) := by
  obtain ⟨j, hj, hjs⟩ := Option.map_eq_some_iff.1 sizeBld
  go_enter Tryd.func33, Tryd.ntmps33
  go_wp2
  rw [Lib.run_to_unsafe w ⟨b, 0, none⟩ Tryd.underlying49 Tryd.underlying71 hj (by rw [hjs]; decide) hsh (Nat.zero_lt_succ 1)]
  simp only [Result.andThen]
  rw [Oper.upon_value]
  go_wp2
  rw [run_callFunc_extern Tryd.func43 (by kernel_rfl) (by kernel_rfl) (by kernel_rfl) (e := Extern.AbiNoEscape.same) (by kernel_rfl)]
  rw [Lib.run_noEscape]
  simp only [Result.andThen]
  rw [Oper.upon_value]
  go_wp2
  rw [Lib.run_from_unsafe w ⟨b, 0, none⟩ Tryd.underlying71 Tryd.underlying49 hj hsh liesBld]
  simp only [Result.andThen]
  rw [Oper.upon_value]
  go_wp2
  go_end0
  exact ⟨rfl, rfl⟩
theorem bld_check (B b : Nat) (bs : List Value) (w : World) (h : Lib.IsBuilder 52 5 B b bs w) :
    Calls Tryd.prog 33 #[.pointer (some ⟨b, 0, none⟩)] w fun e w' => e = .returned (.tuple #[]) ∧ Lib.BuilderAt 52 5 B b (.pointer (some ⟨b, 0, none⟩)) bs w' ∧ Below B w w' := by
  rcases h with h | h
  · refine (bld_fresh b w h.cell0 h.shape h.frozen0).mono ?_
    rintro e w' ⟨rfl, rfl⟩
    exact ⟨rfl, h.used _, (Below.refl B w).setCell (p := ⟨b, 0, none⟩) h.1 _⟩
  · refine (bld_used b w h.cell0).mono ?_
    rintro e w' ⟨rfl, rfl⟩
    exact ⟨rfl, h, Below.refl B _⟩

set_option maxRecDepth 8000 in
set_option maxHeartbeats 2000000 in
theorem bld_byte (B b : Nat) (bs : List Value) (c : UInt8) (w : World) (h : Lib.IsBuilder 52 5 B b bs w) (hlen : bs.length ≤ 100000000) (hBw : B ≤ w.heap.size) :
    Calls Tryd.prog 23 #[.pointer (some ⟨b, 0, none⟩), .int .u8 (c.toNat : Int)] w fun e w' => e = .returned .nilIface ∧ (Lib.BuilderAt 52 5 B b (.pointer (some ⟨b, 0, none⟩)) (bs ++ [bv c]) w' ∧ Below B w w') := by
  obtain ⟨i0, hi, hz0, hz1, hz2⟩ := info_parts infoB
  go_enter Tryd.func23, Tryd.ntmps23
  go_wp2_with fail
  refine (bld_check B b bs _ h).mono ?_
  rintro e w1 ⟨rfl, h1, hb1⟩
  obtain ⟨hB, v, hbk, hown, hne⟩ := h1
  obtain ⟨va, vc, rfl, hvn⟩ := own_slice hown
  have c0 : w1.cell? ⟨b, 0, none⟩ = some (.pointer (some ⟨b, 0, none⟩)) := by rw [Lib.cell_of_heap hbk]; rfl
  have c1 : w1.cell? ⟨b, 1, none⟩ = some (.slice va bs.length vc) := by rw [Lib.cell_of_heap hbk]; rfl
  have hlo : ∀ j, (Value.slice va bs.length vc).ownBlock = some j → B ≤ j := fun j hj => (World.ownsRow.lt hown j hj).1
  have HRun : Hid (∀ ty, ∃ v' w', (Builtin.append_ #[50, 50] ty #[.slice va bs.length vc, .slice (some ⟨w1.heap.size, 0, none⟩) 1 1]).run Tryd.prog (w1.alloc (.cells #[.int .u8 (c.toNat : Int)] 5)) = .ok v' w' ∧ w'.ownsRow B 5 1 v' (bs ++ [bv c]).length (bs ++ [bv c]) ∧ (w1.alloc (.cells #[.int .u8 (c.toNat : Int)] 5)).grownBy w' (Value.slice va bs.length vc).ownBlock ∧ (v'.ownBlock = (Value.slice va bs.length vc).ownBlock ∨ v'.ownBlock = some (w1.alloc (.cells #[.int .u8 (c.toNat : Int)] 5)).heap.size)) := fun ty => by
    obtain ⟨v', w', hr, h2, h3, h4⟩ := run_app (P := Tryd.prog) (w1.alloc (.cells #[.int .u8 (c.toNat : Int)] 5)) 50 ty 5 i0 _ 1 1 Tryd.underlying50 hi hz0 hz1 hz2 rfl (by decide) _ _ _ (own_down (World.ownsRow.alloc hown _) (Nat.zero_le _)) (some ⟨w1.heap.size, 0, none⟩) 1 1 [bv c] rfl (fun h => by cases h) (fun _ => ⟨_, 0, rfl, fun j u hu => by
      have := World.news_of_block (Blk.new w1 5 #[bv c]) j u hu
      rwa [Addr.add_lit] at this⟩) (by simp [bv, Value.oneCell']) (by simp only [maxLen]; omega) (by omega)
    refine ⟨v', w', hr, ?_, h3, h4⟩
    rw [List.length_append, List.length_singleton]
    refine own_up h2 (fun j hj => ?_)
    rcases h4 with h | h
    · exact hlo j (h ▸ hj)
    · rw [h] at hj
      injection hj with hj
      subst hj
      have := hb1.size
      simp
      omega
  go_wp2_with (at_builtin; refine wpList_app rfl (.tmp 11) (.tmp 13) _ rfl _ _ rfl rfl (HRun.out _) ?_; rintro v' w2 ⟨hown', hgrow, hat⟩; obtain ⟨ao, co, rfl, _⟩ := own_slice hown'; have HR1 := Lib.hid hown'; have HR2 := Lib.hid hgrow; have HR3 := Lib.hid hat; clear hown' hgrow hat HRun; have hlt : b < w1.heap.size := (block_lt_of_cell c0); have hb2 : w2.heap[b]? = some (.cells #[.pointer (some ⟨b, 0, none⟩), .slice va bs.length vc] 52 (0, 0)) := (by rw [HR2.out.block b (by simp; omega) (fun e => hne e.symm), Below.heap_alloc _ _ _ hlt]; exact hbk); have d0 : w2.cell? ⟨b, 0, none⟩ = some (.pointer (some ⟨b, 0, none⟩)) := (by rw [Lib.cell_of_heap hb2]; rfl); have d1 : w2.cell? ⟨b, 1, none⟩ = some (.slice va bs.length vc) := (by rw [Lib.cell_of_heap hb2]; rfl); have f1 : w2.frozen? ⟨b, 1, none⟩ = false := Lib.frozen_of_heap hb2 1)
  go_ret
  refine ⟨rfl, ?_, ?_⟩
  · exact Lib.BuilderAt.put (T := 52) (e := 5) hB hb2 (bs' := bs ++ [bv c]) (by have h := HR1.out; rw [show Value.slice ao (bs ++ [bv c]).length co = Value.slice ao (bs.length + 1) co by simp] at h; exact h) (by decide)
  · exact (((hb1.trans ((Below.refl B w1).alloc (by have := hb1.size; omega) _))).grown HR2.out (by have := hb1.size; simp; omega) (fun k hk => hlo k hk)).setCell (p := ⟨b, 1, none⟩) hB _
theorem bld_kept {T e : TypeId} {B b : Nat} {bs : List Value} {w w' : World} (h : Lib.IsBuilder T e B b bs w) (k : Kept [] w w') : Lib.IsBuilder T e B b bs w' := by
  have go : ∀ p, Lib.BuilderAt T e B b p bs w → Lib.BuilderAt T e B b p bs w' := fun p h => by
    obtain ⟨hB, v, hb, hown, hne⟩ := h
    exact ⟨hB, v, k.heap hb (fun h => by cases h), k.owns hown (fun _ _ h => by cases h), hne⟩
  exact h.elim (fun x => .inl (go _ x)) (fun x => .inr (go _ x))
theorem byte_cells (l : Bs) (c : UInt8) : Lib.byteCells l ++ [bv c] = Lib.byteCells (l ++ [c]) := by
  rw [Lib.byteCells_append]
  rfl
theorem figs_get (v : Nat) (h : v < 16) : ∀ hh, (⟨#[48, 49, 50, 51, 52, 53, 54, 55, 56, 57, 97, 98, 99, 100, 101, 102]⟩ : ByteArray)[v]'hh = hexd v := by
  have : ∀ v : Fin 16, ∀ hh, figsB[v.val]'hh = hexd v.val := by decide +kernel
  exact this ⟨v, h⟩
set_option maxRecDepth 8000 in
set_option maxHeartbeats 4000000 in
theorem cmd_hex (s : Bs) (w : World) (hs : s.length ≤ 1000000) : Calls Tryd.prog 12 #[.string ⟨s.toArray⟩] w fun e w' => e = .returned (.string ⟨(hexL s).toArray⟩) ∧ Kept [] w w' := by
  by_cases hnil : s = []
  · subst hnil
    go_enter Tryd.func12, Tryd.ntmps12
    go_wp2_with fail
    go_ret
    exact ⟨rfl, Kept.refl _ _⟩
  · have hie : List.isEmpty s = false := by simpa using hnil
    have HF : Hid (hexL s = s.flatMap hex2) := if_neg hnil
    have HB0 : Hid (Lib.IsBuilder 52 5 w.heap.size w.heap.size (Lib.byteCells []) (w.alloc (.cells #[.pointer none, .slice none 0 0] 52))) :=
      .inl ⟨Nat.le_refl _, _, Blk.new w _ _, World.ownsRow_nil _ _ _ _, by simp [Value.ownBlock]⟩
    have HK0 : Hid (Kept [] w (w.alloc (.cells #[.pointer none, .slice none 0 0] 52))) := (Kept.refl [] w).alloc _
    go_enter Tryd.func12, Tryd.ntmps12
    go_wp2_with fail
    go_loopw [9] (fun i V => ∃ (k : Nat) (L : Bs), k ≤ s.length ∧ L.length = 2 * k ∧ i = .int .i64 k ∧ Hid (L = (s.take k).flatMap hex2) ∧ Hid (Lib.IsBuilder 52 5 w.heap.size w.heap.size (Lib.byteCells L) V) ∧ Hid (Kept [] w V)) (fun i _ => s.length - (RowKit.intOf i).toNat)
    case atStart => exact ⟨0, [], Nat.zero_le _, rfl, rfl, rfl, HB0, HK0⟩
    case round =>
      obtain ⟨k, L, hk, hLl, rfl, HE, HB, HK⟩ := hrel
      by_cases hlt : k < s.length
      · have hb : (⟨s.toArray⟩ : ByteArray)[k]'hlt = s[k] := rfl
        have hki : (k : Int) < (s.length : Int) := by omega
        have HT := Lib.hid (hex_take hlt)
        have hbl := s[k].toNat_lt
        generalize s[k] = c at *
        obtain ⟨cn, hcn⟩ : ∃ cn, c.toNat = cn := ⟨_, rfl⟩
        rw [hcn] at HT hbl
        have hh16 : cn / 16 < 16 := by omega
        have hl16 : cn % 16 < 16 := by omega
        have e1 := figs_get (cn / 16) hh16
        have e2 := figs_get (cn % 16) hl16
        have hsz := HK.out.size
        go_wp2_with fail
        refine (bld_byte w.heap.size w.heap.size (Lib.byteCells L) (hexd (cn / 16)) wr HB.out (by rw [Lib.byteCells_length]; omega) hsz).mono ?_
        rintro e w1 ⟨rfl, hb1, hbel1⟩
        rw [byte_cells] at hb1
        have HB1 : Hid (Lib.IsBuilder 52 5 w.heap.size w.heap.size (Lib.byteCells (L ++ [hexd (cn / 16)])) w1) := .inr hb1
        have K1 : Hid (Kept [] w w1) := Kept.ofBelow (HK.out.toBelow.trans hbel1)
        have hsz1 := K1.out.size
        clear hb1 hbel1
        go_wp2_with fail
        refine (bld_byte w.heap.size w.heap.size (Lib.byteCells (L ++ [hexd (cn / 16)])) (hexd (cn % 16)) w1 HB1.out (by rw [Lib.byteCells_length, List.length_append, List.length_singleton]; omega) hsz1).mono ?_
        rintro e w2 ⟨rfl, hb2, hbel2⟩
        rw [byte_cells] at hb2
        have HB2 : Hid (Lib.IsBuilder 52 5 w.heap.size w.heap.size (Lib.byteCells ((L ++ [hexd (cn / 16)]) ++ [hexd (cn % 16)])) w2) := .inr hb2
        have K2 : Hid (Kept [] w w2) := Kept.ofBelow (K1.out.toBelow.trans hbel2)
        clear hb2 hbel2
        go_wp2_with fail
        go_roundw
        case rel => exact ⟨k + 1, (L ++ [hexd (cn / 16)]) ++ [hexd (cn % 16)], by omega, by simp; omega, by go_num, by rw [Hid, HT.out, HE.out]; simp, HB2, K2⟩
        case measure => simp [RowKit.intOf]; omega
      · obtain rfl : k = s.length := by omega
        have HN : Hid (L = hexL s) := by
          have := HE.out
          rwa [List.take_length, ← HF.out] at this
        have hsz := HK.out.size
        go_wp2_with fail
        refine (Tryd.Builder_String_any w.heap.size w.heap.size L wr HB.out hsz).mono ?_
        rintro e w2 ⟨rfl, hbel⟩
        go_wp2_with fail
        go_ret
        rw [HN.out]
        exact ⟨rfl, Kept.ofBelow (HK.out.toBelow.trans hbel)⟩
end Go.Proofs.YtjdambplggiphaaDoor
