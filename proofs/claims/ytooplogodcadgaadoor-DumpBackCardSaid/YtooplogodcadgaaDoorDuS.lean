/- Dumps: the document's reading of lines. -/
import Derived.Test.YtooplogodcadgaaDoorDuR
import Derived.Test.YtooplogodcadgaaDoorDuQs
namespace Go.Proofs.YtooplogodcadgaaDoor
open Go.RowKit Go.Lib

def TRd (w : World) (A : Option Addr) (l : List Bs) : Prop := Rd w w.heap.size 1 A l.length (l.map sV)
theorem TRd.kept {w w' : World} {A : Option Addr} {l : List Bs} (h : TRd w A l) (k : Kept [] w w') : TRd w' A l := rd_kept h k
theorem TRd.at_ {w : World} {A : Option Addr} {l : List Bs} (h : TRd w A l) {k : Nat} (hk : k < l.length) : ∃ b o, A = some ⟨b, o, none⟩ ∧ w.cell? ⟨b, o + k, none⟩ = some (.string ⟨l[k].toArray⟩) := by
  obtain ⟨b, o, e, _, hc⟩ := h.2 (by omega)
  exact ⟨b, o, e, hc k _ (by rw [List.getElem?_map, List.getElem?_eq_getElem hk]; rfl)⟩
theorem blk4 {w : World} {g t : Nat} {c0 c1 c2 c3 : Value} (h : Blk w g t #[c0, c1, c2, c3]) : w.cell? ⟨g, 0, none⟩ = some c0 ∧ w.cell? ⟨g, 1, none⟩ = some c1 ∧ w.cell? ⟨g, 2, none⟩ = some c2 ∧ w.cell? ⟨g, 3, none⟩ = some c3 := ⟨h.cell 0, h.cell 1, h.cell 2, h.cell 3⟩
theorem frz4 {w : World} {g t : Nat} {cs : Array Value} (h : Blk w g t cs) : w.frozen? ⟨g, 0, none⟩ = false ∧ w.frozen? ⟨g, 1, none⟩ = false ∧ w.frozen? ⟨g, 2, none⟩ = false ∧ w.frozen? ⟨g, 3, none⟩ = false := ⟨h.frozen 0, h.frozen 1, h.frozen 2, h.frozen 3⟩
def w4 (w : World) (g : Nat) (d0 d1 d2 d3 : Value) : World := (((w.setCell ⟨g, 0, none⟩ d0).setCell ⟨g, 1, none⟩ d1).setCell ⟨g, 2, none⟩ d2).setCell ⟨g, 3, none⟩ d3
theorem blk4_set {w : World} {g t : Nat} {c0 c1 c2 c3 : Value} (h : Blk w g t #[c0, c1, c2, c3]) (d0 d1 d2 d3 : Value) : Blk (w4 w g d0 d1 d2 d3) g t #[d0, d1, d2, d3] := (((h.set_ 0 d0).set_ 1 d1).set_ 2 d2).set_ 3 d3
theorem kept4 {l : List Nat} {w0 w : World} (k : Kept l w0 w) {g : Nat} (hg : g ∈ l ∨ w0.heap.size ≤ g) (d0 d1 d2 d3 : Value) : Kept l w0 (w4 w g d0 d1 d2 d3) := (((k.setCell hg _).setCell hg _).setCell hg _).setCell hg _
theorem far4 {T n₀ t g : Nat} {w : World} {V : Value} {ps : List Pr} (h : LOw T n₀ w V ps) {c0 c1 c2 c3 : Value} (hb : Blk w g t #[c0, c1, c2, c3]) (h1 : T ≠ t) (h2 : 56 ≠ t) (d0 d1 d2 d3 : Value) : LOw T n₀ (w4 w g d0 d1 d2 d3) V ps :=
  (((h.far (p := ⟨g, 0, none⟩) hb h1 h2 d0).far (p := ⟨g, 1, none⟩) (hb.set_ 0 d0) h1 h2 d1).far (p := ⟨g, 2, none⟩) ((hb.set_ 0 d0).set_ 1 d1) h1 h2 d2).far (p := ⟨g, 3, none⟩) (((hb.set_ 0 d0).set_ 1 d1).set_ 2 d2) h1 h2 d3
def repV (a b c : Int) (V : Value) : Value := .agg #[.int .i64 a, .int .i64 b, .int .i64 c, V]
theorem parseD_at {l : List Bs} (h : 0 < l.length) : parseD l = (numsW (spl l[0]) wD).bind fun ns => ((l.drop 1).foldlM stepP []).map fun ls => ⟨ns.getD 0 0, ns.getD 1 0, ns.getD 2 0, ls⟩ := by
  cases l with
  | nil => cases h
  | cons s t => rfl
theorem slot_ents {ws : List Bs} {x : Sl} (h : slotW ws = some x) : x.ents = [] := by
  obtain ⟨mg, inv, ns, _, rfl⟩ := slot_some h
  rfl
theorem step_some {acc : List Sl} {s : Bs} {x : Sl} (h : slotW (spl s) = some x) : stepP acc s = some (acc ++ [x]) := by
  unfold stepP stepW
  rw [h]
theorem step_no {acc : List Sl} {s : Bs} (h : slotW (spl s) = none) (h2 : numsW (spl s) wE = none) : stepP acc s = none := by
  unfold stepP stepW
  rw [h, h2]
theorem step_no0 {s : Bs} (h : slotW (spl s) = none) : stepP [] s = none := by
  unfold stepP stepW
  rw [h]
  cases numsW (spl s) wE <;> rfl
theorem step_e {acc : List Sl} {x : Sl} {s : Bs} {a b : Int} (h : slotW (spl s) = none) (h2 : numsW (spl s) wE = some [a, b]) : stepP (acc ++ [x]) s = some (acc ++ [{ x with ents := x.ents ++ [⟨a, b⟩] }]) := by
  unfold stepP stepW
  rw [h, h2]
  simp
theorem two_of {ws : List Bs} {ns : List Int} (h : numsW ws wE = some ns) : ∃ a b, ns = [a, b] := by
  obtain ⟨_, h2, _⟩ := fill_nums h
  match ns, h2 with
  | [a, b], _ => exact ⟨a, b, rfl⟩
theorem three_of {ws : List Bs} {ns : List Int} (h : numsW ws wD = some ns) : ∃ a b c, ns = [a, b, c] := by
  obtain ⟨_, h2, _⟩ := fill_nums h
  match ns, h2 with
  | [a, b, c], _ => exact ⟨a, b, c, rfl⟩
theorem LOw.slice1 {T n₀ : Nat} {w : World} {V : Value} {ps : List Pr} {p : Pr} (h : LOw T n₀ w V (ps ++ [p])) : ∃ A c, V = .slice A (ps.length + 1) c := by
  obtain ⟨A, c, e⟩ := h.slice
  exact ⟨A, c, by rw [e, List.length_append, List.length_singleton]⟩
theorem LOw.last {T n₀ : Nat} {w : World} {V : Value} {q : List Pr} {p : Pr} (h : LOw T n₀ w V (q ++ [p])) : ∃ g c, V = .slice (some ⟨g, 0, none⟩) (q.length + 1) c ∧ w.cell? ⟨g, q.length * 8 + 7, none⟩ = some p.2 ∧ n₀ ≤ g := by
  obtain ⟨g, c, e, _⟩ := own_some h.row (by simp)
  have hr := h.row
  rw [e] at hr
  refine ⟨g, c, by rw [e, List.length_append, List.length_singleton], ?_, (World.ownsRow.lt hr g rfl).1⟩
  exact own_at hr pc_len q.length 7 (by simp) (by omega) (by simp [pc, lineC])
theorem LOw.lastE {T n₀ : Nat} {w : World} {V : Value} {q : List Pr} {p : Pr} (h : LOw T n₀ w V (q ++ [p])) : ∃ A c, p.2 = .slice A p.1.ents.length c := by
  obtain ⟨A, c, e, _⟩ := own_slice (h.ents p (by simp))
  exact ⟨A, c, e⟩
theorem fold_last {q : List Pr} {x : Sl} {E : Value} {a : Option (List Sl)} {L : List Bs} (h : a = L.foldlM stepP (q.map (·.1) ++ [x])) : Hid (a = L.foldlM stepP ((q ++ [(x, E)]).map (·.1))) := by
  rw [Hid, h, List.map_append]
  rfl
theorem LOw.last_ne {T n₀ g t : Nat} {w : World} {V : Value} {q : List Pr} {p : Pr} {cs : Array Value} (h : LOw T n₀ w V (q ++ [p])) (hg : Blk w g t cs) (hne : 56 ≠ t) : g ∉ p.2.ownBlock.toList := fun hm =>
  own_ne (h.ents p (by simp)) hg hne g (by simpa using hm) rfl
theorem LOw.drew {T n₀ : Nat} {w : World} {V : Value} {ps : List Pr} (h : LOw T n₀ w V ps) : LOw T n₀ w.drew V ps := h.kept0 ((Kept.refl [] w).drew)
theorem ents_more {q : List Pr} {k : Nat} {x : Sl} {E E' : Value} {e : En} (h : ∀ p ∈ q ++ [(x, E)], p.1.ents.length ≤ k) : ∀ p ∈ q ++ [({ x with ents := x.ents ++ [e] }, E')], p.1.ents.length ≤ k + 1 := fun p hp => by
  rcases List.mem_append.1 hp with hp | hp
  · have := h p (by simp [hp])
    omega
  · obtain rfl := List.mem_singleton.1 hp
    have h2 : x.ents.length ≤ k := h (x, E) (by simp)
    show (x.ents ++ [e]).length ≤ _
    rw [List.length_append, List.length_singleton]
    omega
theorem ents_push {ps : List Pr} {k : Nat} {x : Sl} (h : ∀ p ∈ ps, p.1.ents.length ≤ k) (hx : x.ents = []) : ∀ p ∈ ps ++ [(x, nilE)], p.1.ents.length ≤ k + 1 := fun p hp => by
  rcases List.mem_append.1 hp with hp | hp
  · have := h p hp
    omega
  · obtain rfl := List.mem_singleton.1 hp
    show x.ents.length ≤ _
    rw [hx]
    exact Nat.zero_le _
theorem results_rparse (tmps : Array Value) (w : World) (b2 : Nat) (a b c : Int) (V z : Value) (hp : tmps[2]?.getD undef = .pointer (some ⟨b2, 0, none⟩)) (hq : tmps[3]?.getD undef = z) (h0 : Blk w b2 36 #[.int .i64 a, .int .i64 b, .int .i64 c, V]) :
    (results Tryd.f14 tmps).run Tryd.prog w = .ok (.tuple #[repV a b c V, z]) w := by
  obtain ⟨c0, c1, c2, c3⟩ := blk4 h0
  simp [results, hp, hq, asAddr, c0, c1, c2, c3, go_sem, repV]
def PPost (T : TypeId) (n : Int) (l : List Bs) (w : World) (e : Ending) (w' : World) : Prop := Kept [] w w' ∧ ((parseD l = none ∧ e = .returned (.tuple #[repV 0 0 0 nilE, .int .i64 n])) ∨ ∃ r V ps, parseD l = some r ∧ e = .returned (.tuple #[repV r.sec r.org r.chk V, .int .i64 0]) ∧ ps.map (·.1) = r.lines ∧ ps.length ≤ l.length ∧ LOw T w.heap.size w' V ps)
set_option maxRecDepth 8000 in
set_option maxHeartbeats 8000000 in
theorem ref_Parse (A : Option Addr) (c : Nat) (l : List Bs) (w : World) (hl : TRd w A l) (hn : l.length ≤ 100000) (hs : ∀ x ∈ l, x.length ≤ 1000000) : Calls Tryd.prog 14 #[.slice A l.length c] w (PPost 64 32 l w) := by
  have HNo : Hid (∀ w', parseD l = none → Kept [] w w' → PPost 64 32 l w (.returned (.tuple #[repV 0 0 0 nilE, .int .i64 32])) w') := fun w' h k => ⟨k, .inl ⟨h, rfl⟩⟩
  have HYes : Hid (∀ w' r V ps, parseD l = some r → ps.map (·.1) = r.lines → ps.length ≤ l.length → LOw 64 w.heap.size w' V ps → Kept [] w w' → PPost 64 32 l w (.returned (.tuple #[repV r.sec r.org r.chk V, .int .i64 0])) w') := fun w' r V ps h h2 h4 h3 k => ⟨k, .inr ⟨r, V, ps, h, rfl, h2, h4, h3⟩⟩
  generalize PPost 64 32 l w = Q at *
  have HL := Lib.hid hl
  have HS := Lib.hid hs
  have HNum : Hid (∀ (s f : Bs) (V : World), s.length ≤ 1000000 → f.length ≤ 1000 → Calls Tryd.prog 24 #[.string ⟨s.toArray⟩, .string ⟨f.toArray⟩] V (NumsPost s f V)) := fun s f V h1 h2 => ref_numbers s f V h1 (by omega)
  have HY0 := Lib.hid ((Blk.new w 36 #[.int .i64 0, .int .i64 0, .int .i64 0, .slice none 0 0]).alloc (.cells #[.int .i64 0, .int .i64 0, .int .i64 0, .slice none 0 0] 36))
  have HZ0 : Hid (Blk ((w.alloc (.cells #[.int .i64 0, .int .i64 0, .int .i64 0, .slice none 0 0] 36)).alloc (.cells #[.int .i64 0, .int .i64 0, .int .i64 0, .slice none 0 0] 36)) (w.heap.size + 1) 36 #[.int .i64 0, .int .i64 0, .int .i64 0, .slice none 0 0]) := by
    have h := (Blk.new (w.alloc (.cells #[.int .i64 0, .int .i64 0, .int .i64 0, .slice none 0 0] 36)) 36 #[.int .i64 0, .int .i64 0, .int .i64 0, .slice none 0 0])
    rwa [show (w.alloc (.cells #[.int .i64 0, .int .i64 0, .int .i64 0, .slice none 0 0] 36)).heap.size = w.heap.size + 1 by simp] at h
  have HK0 := Lib.hid (((Kept.refl [] w).alloc (.cells #[.int .i64 0, .int .i64 0, .int .i64 0, .slice none 0 0] 36)).alloc (.cells #[.int .i64 0, .int .i64 0, .int .i64 0, .slice none 0 0] 36))
  have hyz : w.heap.size ≠ w.heap.size + 1 := by omega
  have hyz2 : w.heap.size + 1 ≠ w.heap.size := by omega
  obtain ⟨i0, p0, p1, p2, p3⟩ := info_parts infoR
  clear hl hs
  go_enter Tryd.func14, Tryd.ntmps14
  by_cases h0 : l.length = 0
  · have hv : Hid (parseD l = none) := by
      obtain rfl := List.length_eq_zero_iff.1 h0
      rfl
    rw [h0]
    go_wp2_with fail
    refine bodyPost_ret (results_rparse _ _ w.heap.size 0 0 0 (.slice none 0 0) _ rfl rfl HY0.out) rfl ?_
    exact HNo.out _ hv.out HK0.out
  · have hpos : 0 < l.length := by omega
    have HP := Lib.hid (parseD_at hpos)
    have hli : ((l.length : Int) == 0) = false := by rw [beq_eq_false_iff_ne]; omega
    have hli2 : (0 : Int) < (l.length : Int) := by omega
    obtain ⟨b, o, rfl, d0⟩ := HL.out.at_ hpos
    have e0 := HK0.out.cell d0 (fun h => by cases h)
    rw [Nat.add_zero] at e0
    have hs0 := HS.out _ (List.getElem_mem hpos)
    generalize l[0] = s0 at *
    clear d0 h0
    go_wp2_with fail
    refine (HNum.out s0 tD _ hs0 (by decide)).mono ?_
    rintro e w1 ⟨k1, ⟨hno, rfl⟩ | ⟨ns, A1, c1, hyes, rfl, o1⟩⟩
    · have K1 := Lib.hid (HK0.out.trans k1)
      have Y1 := HY0.out.kept k1 (fun h => by cases h)
      have Z1 := HZ0.out.kept k1 (fun h => by cases h)
      rw [spl_tD] at hno
      have hv : Hid (parseD l = none) := by
        rw [Hid, HP.out, hno]
        rfl
      clear hno k1 e0
      obtain ⟨y0, y1, y2, y3⟩ := blk4 Y1
      obtain ⟨g0, g1, g2, g3⟩ := frz4 Y1
      obtain ⟨x0, x1, x2, x3⟩ := blk4 Z1
      go_wp2_with fail
      refine bodyPost_ret (results_rparse _ _ w.heap.size 0 0 0 (.slice none 0 0) _ rfl rfl (blk4_set Y1 _ _ _ _)) rfl ?_
      exact HNo.out _ hv.out (kept4 K1.out (.inr (Nat.le_refl _)) _ _ _ _)
    · have K1 := Lib.hid (HK0.out.trans k1)
      have Y1 := Lib.hid (HY0.out.kept k1 (fun h => by cases h))
      have Z1 := Lib.hid (HZ0.out.kept k1 (fun h => by cases h))
      rw [spl_tD] at hyes
      obtain ⟨a1, a2, a3, rfl⟩ := three_of hyes
      have HP2 : Hid (parseD l = ((l.drop 1).foldlM stepP []).map fun ls => ⟨a1, a2, a3, ls⟩) := by
        rw [Hid, HP.out, hyes]
        rfl
      obtain ⟨bn, rfl, hbn, hI⟩ := IOw.iat o1 (by simp)
      have i0 := hI 0 (by simp)
      have i1 := hI 1 (by simp)
      have i2 := hI 2 (by simp)
      simp only [List.getElem_cons_zero, List.getElem_cons_succ] at i0 i1 i2
      have hbl : bn < w1.heap.size := block_lt_of_cell i0
      have n1 : ¬ bn = w1.heap.size := by omega
      have n2 : ¬ w1.heap.size = bn := by omega
      have hz1 := K1.out.size
      clear hyes k1 e0 o1 hI HP
      go_wp2_with fail
      go_region_held3 (fun W => W.cell? ⟨bn, 0, none⟩ = some (.int .i64 a1) ∧ W.cell? ⟨bn, 1, none⟩ = some (.int .i64 a2) ∧ W.cell? ⟨bn, 2, none⟩ = some (.int .i64 a3)) (go_keep) (fail)
      have R2 := Lib.hid (Blk.new w1 36 #[.int .i64 a1, .int .i64 a2, .int .i64 a3, .slice none 0 0])
      have k2 := (Kept.refl [] w1).alloc (.cells #[.int .i64 a1, .int .i64 a2, .int .i64 a3, .slice none 0 0] 36)
      have K2 := Lib.hid (K1.out.trans k2)
      have Y2 := Lib.hid (Y1.out.kept k2 (fun h => by cases h))
      have Z2 := Lib.hid (Z1.out.kept k2 (fun h => by cases h))
      have hy1 := Y1.out.lt
      have hz1' := Z1.out.lt
      clear i0 i1 i2 n1 n2 k2 Y1 Z1
      go_wp2_with fail
      go_loopw [8] (fun i V => ∃ (k : Nat) (ps : List Pr) (Vl : Value), 1 ≤ k ∧ k ≤ l.length ∧ i = .int .i64 k ∧ Hid ((l.drop 1).foldlM stepP [] = (l.drop k).foldlM stepP (ps.map (·.1))) ∧ ps.length ≤ k ∧ Hid (∀ p ∈ ps, p.1.ents.length ≤ k) ∧ Hid (Blk V w1.heap.size 36 #[.int .i64 a1, .int .i64 a2, .int .i64 a3, Vl]) ∧ Hid (Blk V (w.heap.size + 1) 36 #[.int .i64 0, .int .i64 0, .int .i64 0, .slice none 0 0]) ∧ Hid (Blk V w.heap.size 36 #[.int .i64 0, .int .i64 0, .int .i64 0, .slice none 0 0]) ∧ Hid (LOw 64 w.heap.size V Vl ps) ∧ Hid (Kept [] w V)) (fun i _ => l.length - (RowKit.intOf i).toNat)
      case atStart => exact ⟨1, [], nilE, Nat.le_refl _, hpos, rfl, rfl, Nat.zero_le _, (fun _ h => by cases h), R2, Z2, Y2, LOw.nil _ _ _, K2.out.drew⟩
      case round =>
        obtain ⟨k, ps, Vl, hk1, hkl, rfl, HE, hpk, HEk, HR, HZ, HY, HO, HK⟩ := hrel
        obtain ⟨Av, cv, rfl⟩ := HO.out.slice
        by_cases hlt : k < l.length
        · obtain ⟨b', o', e', d0⟩ := HL.out.at_ hlt
          injection e' with e'
          injection e' with e1 e2
          subst e1
          subst e2
          have e0 := HK.out.cell d0 (fun h => by cases h)
          have hki : (k : Int) < (l.length : Int) := by omega
          have hsk := HS.out _ (List.getElem_mem hlt)
          have HDk := Lib.hid (List.drop_eq_getElem_cons hlt)
          have hwk : IntKind.i64.wrap ((k : Int) + 1) = (k : Int) + 1 := IntWalk.i64_in _ (by omega)
          generalize l[k] = s at *
          have HE1 : Hid ((l.drop 1).foldlM stepP [] = (stepP (ps.map (·.1)) s).bind fun a => (l.drop (k + 1)).foldlM stepP a) := by
            rw [Hid, HE.out, HDk.out, List.foldlM_cons]
            rfl
          clear d0
          go_wp2_with fail
          refine (ref_slot s _ hsk).mono ?_
          rintro e w3 ⟨k3, ⟨hno, rfl⟩ | ⟨x, hx, rfl⟩⟩
          · have kA := k3.alloc (.cells (lineC noS nilE) 64)
            have e3 := kA.cell e0 (fun h => by cases h)
            unfold lineC noS nilE at kA e3
            replace kA := Lib.hid kA
            clear k3 e0
            unfold lineV lineC noS nilE
            go_wp2_with fail
            refine (HNum.out s tE _ hsk (by decide)).mono ?_
            rintro e w4 ⟨k4, ⟨hno4, rfl⟩ | ⟨ns, A4, c4, hyes, rfl, o4⟩⟩
            · have kB := kA.out.trans k4
              have KB := Lib.hid (HK.out.trans kB)
              have R4 := HR.out.kept kB (fun h => by cases h)
              have Y4 := HY.out.kept kB (fun h => by cases h)
              have Z4 := HZ.out.kept kB (fun h => by cases h)
              rw [spl_tE] at hno4
              have hv : Hid (parseD l = none) := by
                rw [Hid, HP2.out, HE1.out, step_no hno hno4]
                rfl
              obtain ⟨r0, r1, r2, r3⟩ := blk4 R4
              obtain ⟨y0, y1, y2, y3⟩ := blk4 Y4
              obtain ⟨g0, g1, g2, g3⟩ := frz4 Y4
              obtain ⟨z0, z1, z2, z3⟩ := blk4 Z4
              have hwp : IntKind.i64.wrap ((ps.length : Int) - 1) = (ps.length : Int) - 1 := IntWalk.i64_in _ (by omega)
              clear hno hno4 k4 kB e3
              go_wp2_with fail
              refine bodyPost_ret (results_rparse _ _ w.heap.size 0 0 0 (.slice none 0 0) _ rfl rfl (blk4_set Y4 _ _ _ _)) rfl ?_
              exact HNo.out _ hv.out (kept4 KB.out (.inr (Nat.le_refl _)) _ _ _ _)
            · have kB := kA.out.trans k4
              have KB := Lib.hid (HK.out.trans kB)
              have R4 := HR.out.kept kB (fun h => by cases h)
              have Y4 := HY.out.kept kB (fun h => by cases h)
              have Z4 := HZ.out.kept kB (fun h => by cases h)
              have O4 := HO.out.kept0 kB
              rw [spl_tE] at hyes
              obtain ⟨b1, b2, rfl⟩ := two_of hyes
              obtain ⟨bm, rfl, hbm, hI⟩ := IOw.iat o4 (by simp)
              have i0 := hI 0 (by simp)
              have i1 := hI 1 (by simp)
              simp only [List.getElem_cons_zero, List.getElem_cons_succ] at i0 i1
              rcases List.eq_nil_or_concat ps with rfl | ⟨q, ⟨x, E⟩, rfl⟩
              · have hv : Hid (parseD l = none) := by
                  rw [Hid, HP2.out, HE1.out]
                  show Option.map _ ((stepP [] s).bind _) = none
                  rw [step_no0 hno]
                  rfl
                obtain ⟨r0, r1, r2, r3⟩ := blk4 R4
                obtain ⟨y0, y1, y2, y3⟩ := blk4 Y4
                obtain ⟨g0, g1, g2, g3⟩ := frz4 Y4
                obtain ⟨z0, z1, z2, z3⟩ := blk4 Z4
                rw [List.length_nil] at r3
                have hwp : IntKind.i64.wrap (-1) = -1 := by decide
                clear hno hyes k4 kB e3 o4 hI
                go_wp2_with fail
                refine bodyPost_ret (results_rparse _ _ w.heap.size 0 0 0 (.slice none 0 0) _ rfl rfl (blk4_set Y4 _ _ _ _)) rfl ?_
                exact HNo.out _ hv.out (kept4 KB.out (.inr (Nat.le_refl _)) _ _ _ _)
              · rw [List.concat_eq_append] at O4 HO HE HE1 HEk hpk R4 HR
                obtain ⟨g, cg, hV, d7, hg⟩ := O4.last
                rw [hV] at O4 R4
                have HE2 : Hid ((l.drop 1).foldlM stepP [] = (l.drop (k + 1)).foldlM stepP (q.map (·.1) ++ [({ x with ents := x.ents ++ [⟨b1, b2⟩] } : Sl)])) := by
                  rw [Hid, HE1.out, List.map_append]
                  show (stepP (q.map _ ++ [x]) s).bind _ = _
                  rw [step_e hno hyes]
                  rfl
                obtain ⟨AE, cE, hEE⟩ := O4.lastE
                dsimp only at hEE
                subst hEE
                have hxl : x.ents.length ≤ k := HEk.out _ (List.mem_append_right _ (List.mem_singleton.2 rfl))
                have hql : q.length + 1 ≤ k := by
                  rw [List.length_append, List.length_singleton] at hpk
                  exact hpk
                have HEk2 := Lib.hid (fun E' => ents_more (E' := E') (e := ⟨b1, b2⟩) HEk.out)
                have hRun := entry_push (T := 64) (by decide) (⟨b1, b2⟩ : En) O4.drew KB.out.drew (by omega)
                rw [show (w4.drew).alloc (.cells #[.int .i64 b1, .int .i64 b2] 56) = (w4.alloc (.cells #[.int .i64 b1, .int .i64 b2] 56)).drew from rfl, show w4.drew.heap.size = w4.heap.size from rfl] at hRun
                have HRun := Lib.hid hRun
                obtain ⟨r0, r1, r2, r3⟩ := blk4 R4
                have hwp : IntKind.i64.wrap ((q.length : Int) + 1 - 1) = (q.length : Int) := by
                  rw [show (q.length : Int) + 1 - 1 = (q.length : Int) by omega]
                  exact IntWalk.i64_in _ (by omega)
                have hwp2 : IntKind.i64.wrap (q.length : Int) = (q.length : Int) := IntWalk.i64_in _ (by omega)
                have hq0 : ¬ (q.length : Int) < 0 := by omega
                have hq1 : (q.length : Int) < (q.length : Int) + 1 := by omega
                replace O4 := Lib.hid O4
                replace R4 := Lib.hid R4
                replace Y4 := Lib.hid Y4
                replace Z4 := Lib.hid Z4
                obtain ⟨rs, hBm, _, _, _⟩ := own_blk o4
                have n1 : ¬ g = bm := own_ne O4.out.row hBm (by decide) g rfl
                have n2 : ¬ bm = g := fun h => n1 h.symm
                have n3 : ¬ g = w1.heap.size := own_ne O4.out.row R4.out (by decide) g rfl
                have n4 : ¬ w1.heap.size = g := fun h => n3 h.symm
                have n5 : w.heap.size ≠ g := fun h => own_ne O4.out.row Y4.out (by decide) g rfl h.symm
                have n6 : w.heap.size + 1 ≠ g := fun h => own_ne O4.out.row Z4.out (by decide) g rfl h.symm
                replace hBm := Lib.hid hBm
                clear hno hyes k4 kB e3 o4 hI hRun hV HE HE1 HEk
                dsimp only at d7
                have ka := (Kept.refl [] w4).alloc (.cells #[.int .i64 b1, .int .i64 b2] 56)
                have d7a := ka.cell d7 (fun h => by cases h)
                have r3a := ka.cell r3 (fun h => by cases h)
                clear ka
                go_wp2_with fail
                refine wp_region_held_drew (S := fun W => W.cell? ⟨w1.heap.size, 3, none⟩ = some (.slice (some ⟨g, 0, none⟩) (q.length + 1) cg) ∧ W.cell? ⟨bm, 0, none⟩ = some (.int .i64 b1) ∧ W.cell? ⟨bm, 1, none⟩ = some (.int .i64 b2)) (by kernel_rfl) ⟨r3, i0, i1⟩ (fun hS => ?_)
                refine wpAnyH_take (i := 0) (v := ?_) rfl (by kernel_rfl) (by kernel_rfl) (by kernel_rfl) (fun _ _ _ h => h) (Or.inl ⟨by rfl, ?_⟩) (by assumption) ?_
                rotate_left
                · intro wx hSx
                  try dsimp only at hSx
                  go_simp
                  first | done | with_reducible rfl
                simp only [Act.put, List.setIfInBounds_toArray, List.set_cons_zero, List.set_cons_succ]
                refine wpAnyH_take (i := 1) (v := ?_) rfl (by kernel_rfl) (by kernel_rfl) (by kernel_rfl) (fun _ _ _ h => h) (Or.inl ⟨by rfl, ?_⟩) (by assumption) ?_
                rotate_left
                · intro wx hSx
                  try dsimp only at hSx
                  go_simp
                  first | done | with_reducible rfl
                simp only [Act.put, List.setIfInBounds_toArray, List.set_cons_zero, List.set_cons_succ]
                refine wpAnyH_take (i := 2) (v := ?_) rfl (by kernel_rfl) (by kernel_rfl) (by kernel_rfl) (fun _ _ _ h => h) (Or.inl ⟨by rfl, ?_⟩) (by assumption) ?_
                rotate_left
                · intro wx hSx
                  try dsimp only at hSx
                  go_simp
                  first | done | with_reducible rfl
                simp only [Act.put, List.setIfInBounds_toArray, List.set_cons_zero, List.set_cons_succ]
                refine wpAnyH_take (i := 3) (v := ?_) rfl (by kernel_rfl) (by kernel_rfl) (by kernel_rfl) (fun _ _ _ h => h) (Or.inl ⟨by rfl, ?_⟩) (by assumption) ?_
                rotate_left
                · intro wx hSx
                  try dsimp only at hSx
                  go_simp
                  first | done | with_reducible rfl
                simp only [Act.put, List.setIfInBounds_toArray, List.set_cons_zero, List.set_cons_succ]
                refine wpAnyH_take (i := 4) (v := ?_) rfl (by kernel_rfl) (by kernel_rfl) (by kernel_rfl) (fun _ _ _ h => h) (Or.inl ⟨by rfl, ?_⟩) (by assumption) ?_
                rotate_left
                · intro wx hSx
                  try dsimp only at hSx
                  go_simp
                  first | done | with_reducible rfl
                simp only [Act.put, List.setIfInBounds_toArray, List.set_cons_zero, List.set_cons_succ]
                refine wpAnyH_take (i := 5) (v := ?_) rfl (by kernel_rfl) (by kernel_rfl) (by kernel_rfl) (fun _ _ _ h => h) (Or.inl ⟨by rfl, ?_⟩) (by assumption) ?_
                rotate_left
                · intro wx hSx
                  try dsimp only at hSx
                  go_simp
                  first | done | with_reducible rfl
                simp only [Act.put, List.setIfInBounds_toArray, List.set_cons_zero, List.set_cons_succ]
                refine wpAnyH_take (i := 6) (v := ?_) rfl (by kernel_rfl) (by kernel_rfl) (by kernel_rfl) (fun _ _ _ h => h) (Or.inl ⟨by rfl, ?_⟩) (by assumption) ?_
                rotate_left
                · intro wx hSx
                  try dsimp only at hSx
                  go_simp
                  first | done | with_reducible rfl
                simp only [Act.put, List.setIfInBounds_toArray, List.set_cons_zero, List.set_cons_succ]
                refine wpAnyH_take (i := 7) (v := ?_) rfl (by kernel_rfl) (by kernel_rfl) (by kernel_rfl) (fun _ _ _ h => h) (Or.inl ⟨by rfl, ?_⟩) (by assumption) ?_
                rotate_left
                · intro wx hSx
                  try dsimp only at hSx
                  go_simp
                  first | done | with_reducible rfl
                simp only [Act.put, List.setIfInBounds_toArray, List.set_cons_zero, List.set_cons_succ]
                refine wpAnyH_take (i := 9) (v := ?_) rfl (by kernel_rfl) (by kernel_rfl) (by kernel_rfl) (fun _ _ _ h => h) (Or.inl ⟨by rfl, ?_⟩) (by assumption) ?_
                rotate_left
                · intro wx hSx
                  try dsimp only at hSx
                  go_simp
                  first | done | with_reducible rfl
                simp only [Act.put, List.setIfInBounds_toArray, List.set_cons_zero, List.set_cons_succ]
                refine wpAnyH_take (i := 10) (v := ?_) rfl (by kernel_rfl) (by kernel_rfl) (by kernel_rfl) (fun _ _ _ h => h) (Or.inl ⟨by rfl, ?_⟩) (by assumption) ?_
                rotate_left
                · intro wx hSx
                  try dsimp only at hSx
                  go_simp
                  first | done | with_reducible rfl
                simp only [Act.put, List.setIfInBounds_toArray, List.set_cons_zero, List.set_cons_succ]
                refine wpAnyH_take (i := 11) (v := ?_) rfl (by kernel_rfl) (by kernel_rfl) (by kernel_rfl) (fun _ _ _ h => h) (Or.inl ⟨by rfl, ?_⟩) (by assumption) ?_
                rotate_left
                · intro wx hSx
                  try dsimp only at hSx
                  go_simp
                  first | done | with_reducible rfl
                simp only [Act.put, List.setIfInBounds_toArray, List.set_cons_zero, List.set_cons_succ]
                refine wpAnyH_take (i := 12) (v := ?_) rfl (by kernel_rfl) (by kernel_rfl) (by kernel_rfl) (fun _ _ _ h => h) (Or.inl ⟨by rfl, ?_⟩) (by assumption) ?_
                rotate_left
                · intro wx hSx
                  try dsimp only at hSx
                  go_simp
                  first | done | with_reducible rfl
                simp only [Act.put, List.setIfInBounds_toArray, List.set_cons_zero, List.set_cons_succ]
                refine wpAnyH_take (i := 13) (v := ?_) rfl (by kernel_rfl) (by kernel_rfl) (by kernel_rfl) (fun _ _ _ h => h) (Or.inl ⟨by rfl, ?_⟩) (by assumption) ?_
                rotate_left
                · intro wx hSx
                  try dsimp only at hSx
                  go_simp
                  first | done | with_reducible rfl
                simp only [Act.put, List.setIfInBounds_toArray, List.set_cons_zero, List.set_cons_succ]
                refine wpAnyH_take (i := 14) (v := ?_) rfl (by kernel_rfl) (by kernel_rfl) (by kernel_rfl) (fun _ _ _ h => h) (Or.inl ⟨by rfl, ?_⟩) (by assumption) ?_
                rotate_left
                · intro wx hSx
                  try dsimp only at hSx
                  go_simp
                  first | done | with_reducible rfl
                simp only [Act.put, List.setIfInBounds_toArray, List.set_cons_zero, List.set_cons_succ]
                refine wpAnyH_take (i := 15) (v := ?_) rfl (by kernel_rfl) (by kernel_rfl) (by kernel_rfl) (fun _ _ _ h => h) (Or.inl ⟨by rfl, ?_⟩) (by assumption) ?_
                rotate_left
                · intro wx hSx
                  try dsimp only at hSx
                  go_simp
                  first | done | with_reducible rfl
                simp only [Act.put, List.setIfInBounds_toArray, List.set_cons_zero, List.set_cons_succ]
                refine wpAnyH_ready (rs := [8, 16]) (by kernel_rfl) (by simp) ?_
                refine AllReadyH.cons rfl (fun K hK => ?_) (AllReadyH.cons rfl (fun K hK => ?_) AllReadyH.nil)
                · go_simp
                  refine hK.out _ _ (by exact hS) (fun hS => ?_)
                  clear hK K
                  try simp only [Act.put, List.setIfInBounds_toArray, List.set_cons_zero, List.set_cons_succ]
                  refine wpAnyH_ready (rs := [16]) (by kernel_rfl) (by simp) ?_
                  refine AllReadyH.cons rfl (fun K hK => ?_) AllReadyH.nil
                  go_simp
                  refine hK.out _ _ (by go_keep) (fun hS => ?_)
                  clear hK K
                  try simp only [Act.put, List.setIfInBounds_toArray, List.set_cons_zero, List.set_cons_succ]
                  refine wpAnyH_ready (rs := [17]) (by kernel_rfl) (by simp) ?_
                  refine AllReadyH.cons rfl (fun K hK => ?_) AllReadyH.nil
                  refine step_app rfl (.tmp 88) (.tmp 96) _ rfl _ _ rfl rfl (R := EntR 64 w.heap.size w w4.drew (.slice (some ⟨g, 0, none⟩) (q.length + 1) cg) (.slice AE x.ents.length cE) q x ⟨b1, b2⟩) ?_ ?_; (next => simp [Act.eval]; exact HRun.out _); rintro E2 w5 ⟨k5, g', c5, hV5, c5e, f5, hg5, o5, k5a, k5b⟩; obtain ⟨A2, c2, hE2⟩ := o5.lastE; dsimp only at hE2; rw [List.length_append, List.length_singleton] at hE2; subst hE2; injection hV5 with e1 _ e2; injection e1 with e1; injection e1 with e1; subst e1; subst e2; have R5 := Blk.kept (w := w4.drew) R4.out k5 (O4.out.last_ne R4.out (by decide)); have q3 := R5.cell 3; have B5 := Blk.kept (w := w4.drew) hBm.out k5 (O4.out.last_ne hBm.out (by decide)); have j0 : w5.cell? ⟨bm, 0, none⟩ = some (.int .i64 b1) := B5.cell 0; have j1 : w5.cell? ⟨bm, 1, none⟩ = some (.int .i64 b2) := B5.cell 1
                  refine hK.out _ _ (by exact ⟨q3, j0, j1⟩) (fun hS => ?_)
                  clear hK K
                  try simp only [Act.put, List.setIfInBounds_toArray, List.set_cons_zero, List.set_cons_succ]
                  refine wpAnyH_take (i := 18) (v := ?_) rfl (by kernel_rfl) (by kernel_rfl) (by kernel_rfl) (fun _ _ _ h => h) (Or.inl ⟨by rfl, ?_⟩) (by assumption) ?_
                  rotate_left
                  · intro wx hSx
                    try dsimp only at hSx
                    go_simp
                    first | done | with_reducible rfl
                  simp only [Act.put, List.setIfInBounds_toArray, List.set_cons_zero, List.set_cons_succ]
                  refine wpAnyH_take (i := 19) (v := ?_) rfl (by kernel_rfl) (by kernel_rfl) (by kernel_rfl) (fun _ _ _ h => h) (Or.inl ⟨by rfl, ?_⟩) (by assumption) ?_
                  rotate_left
                  · intro wx hSx
                    try dsimp only at hSx
                    go_simp
                    first | done | with_reducible rfl
                  simp only [Act.put, List.setIfInBounds_toArray, List.set_cons_zero, List.set_cons_succ]
                  refine wpAnyH_ready (rs := [20]) (by kernel_rfl) (by simp) ?_
                  refine AllReadyH.cons rfl (fun K hK => ?_) AllReadyH.nil
                  go_simp
                  refine hK.out _ _ (by go_keep) (fun hS => ?_)
                  clear hK K
                  try simp only [Act.put, List.setIfInBounds_toArray, List.set_cons_zero, List.set_cons_succ]
                  refine wpAnyH_done (by kernel_rfl) ?_ _
                  go_wp2_with fail
                  go_roundw
                  case rel => exact ⟨k + 1, q ++ [(({ x with ents := x.ents ++ [⟨b1, b2⟩] } : Sl), Value.slice A2 (x.ents.length + 1) c2)], .slice (some ⟨g, 0, none⟩) (q.length + 1) cg, by omega, by omega, by go_num, fold_last HE2.out, by rw [List.length_append, List.length_singleton]; omega, Lib.hid (HEk2.out _), R5.far n4 _, (Blk.kept (w := w4.drew) Z4.out k5 (O4.out.last_ne Z4.out (by decide))).far n6 _, (Blk.kept (w := w4.drew) Y4.out k5 (O4.out.last_ne Y4.out (by decide))).far n5 _, Lib.hid o5, k5b⟩
                  case measure => simp [RowKit.intOf]; omega
                · go_simp
                  refine hK.out _ _ (by go_keep) (fun hS => ?_)
                  clear hK K
                  try simp only [Act.put, List.setIfInBounds_toArray, List.set_cons_zero, List.set_cons_succ]
                  refine wpAnyH_ready (rs := [8]) (by kernel_rfl) (by simp) ?_
                  refine AllReadyH.cons rfl (fun K hK => ?_) AllReadyH.nil
                  go_simp
                  refine hK.out _ _ (by exact hS) (fun hS => ?_)
                  clear hK K
                  try simp only [Act.put, List.setIfInBounds_toArray, List.set_cons_zero, List.set_cons_succ]
                  refine wpAnyH_ready (rs := [17]) (by kernel_rfl) (by simp) ?_
                  refine AllReadyH.cons rfl (fun K hK => ?_) AllReadyH.nil
                  refine step_app rfl (.tmp 88) (.tmp 96) _ rfl _ _ rfl rfl (R := EntR 64 w.heap.size w w4.drew (.slice (some ⟨g, 0, none⟩) (q.length + 1) cg) (.slice AE x.ents.length cE) q x ⟨b1, b2⟩) ?_ ?_; (next => simp [Act.eval]; exact HRun.out _); rintro E2 w5 ⟨k5, g', c5, hV5, c5e, f5, hg5, o5, k5a, k5b⟩; obtain ⟨A2, c2, hE2⟩ := o5.lastE; dsimp only at hE2; rw [List.length_append, List.length_singleton] at hE2; subst hE2; injection hV5 with e1 _ e2; injection e1 with e1; injection e1 with e1; subst e1; subst e2; have R5 := Blk.kept (w := w4.drew) R4.out k5 (O4.out.last_ne R4.out (by decide)); have q3 := R5.cell 3; have B5 := Blk.kept (w := w4.drew) hBm.out k5 (O4.out.last_ne hBm.out (by decide)); have j0 : w5.cell? ⟨bm, 0, none⟩ = some (.int .i64 b1) := B5.cell 0; have j1 : w5.cell? ⟨bm, 1, none⟩ = some (.int .i64 b2) := B5.cell 1
                  refine hK.out _ _ (by exact ⟨q3, j0, j1⟩) (fun hS => ?_)
                  clear hK K
                  try simp only [Act.put, List.setIfInBounds_toArray, List.set_cons_zero, List.set_cons_succ]
                  refine wpAnyH_take (i := 18) (v := ?_) rfl (by kernel_rfl) (by kernel_rfl) (by kernel_rfl) (fun _ _ _ h => h) (Or.inl ⟨by rfl, ?_⟩) (by assumption) ?_
                  rotate_left
                  · intro wx hSx
                    try dsimp only at hSx
                    go_simp
                    first | done | with_reducible rfl
                  simp only [Act.put, List.setIfInBounds_toArray, List.set_cons_zero, List.set_cons_succ]
                  refine wpAnyH_take (i := 19) (v := ?_) rfl (by kernel_rfl) (by kernel_rfl) (by kernel_rfl) (fun _ _ _ h => h) (Or.inl ⟨by rfl, ?_⟩) (by assumption) ?_
                  rotate_left
                  · intro wx hSx
                    try dsimp only at hSx
                    go_simp
                    first | done | with_reducible rfl
                  simp only [Act.put, List.setIfInBounds_toArray, List.set_cons_zero, List.set_cons_succ]
                  refine wpAnyH_ready (rs := [20]) (by kernel_rfl) (by simp) ?_
                  refine AllReadyH.cons rfl (fun K hK => ?_) AllReadyH.nil
                  go_simp
                  refine hK.out _ _ (by go_keep) (fun hS => ?_)
                  clear hK K
                  try simp only [Act.put, List.setIfInBounds_toArray, List.set_cons_zero, List.set_cons_succ]
                  refine wpAnyH_done (by kernel_rfl) ?_ _
                  go_wp2_with fail
                  go_roundw
                  case rel => exact ⟨k + 1, q ++ [(({ x with ents := x.ents ++ [⟨b1, b2⟩] } : Sl), Value.slice A2 (x.ents.length + 1) c2)], .slice (some ⟨g, 0, none⟩) (q.length + 1) cg, by omega, by omega, by go_num, fold_last HE2.out, by rw [List.length_append, List.length_singleton]; omega, Lib.hid (HEk2.out _), R5.far n4 _, (Blk.kept (w := w4.drew) Z4.out k5 (O4.out.last_ne Z4.out (by decide))).far n6 _, (Blk.kept (w := w4.drew) Y4.out k5 (O4.out.last_ne Y4.out (by decide))).far n5 _, Lib.hid o5, k5b⟩
                  case measure => simp [RowKit.intOf]; omega
          · have hxe := Lib.hid (slot_ents hx)
            have HE2 : Hid ((l.drop 1).foldlM stepP [] = (l.drop (k + 1)).foldlM stepP ((ps ++ [(x, nilE)]).map (·.1))) := by
              rw [Hid, HE1.out, step_some hx, List.map_append]
              rfl
            have kA := (HK.out.trans k3).alloc (.cells (lineC x nilE) 64)
            have k3a := k3.alloc (.cells (lineC x nilE) 64)
            have OA := HO.out.kept0 k3a
            have R3 := Lib.hid (HR.out.kept k3a (fun h => by cases h))
            have Y3 := Lib.hid (HY.out.kept k3a (fun h => by cases h))
            have Z3 := Lib.hid (HZ.out.kept k3a (fun h => by cases h))
            have hRun := lines_push i0 p0 p1 p2 p3 34 Tryd.underlying34 (by decide) x hxe.out OA kA (by omega)
            rw [show (w3.alloc (.cells (lineC x nilE) 64)).heap.size = w3.heap.size + 1 by simp] at hRun
            unfold lineC nilE at hRun
            have HRun := Lib.hid hRun
            clear hRun
            replace OA := Lib.hid OA
            obtain ⟨r0, r1, r2, r3⟩ := blk4 R3.out
            have hrl := R3.out.lt
            clear hx k3 k3a e0 HE1
            unfold lineC nilE at R3 Y3 Z3 r0 r1 r2 r3 hrl
            unfold lineV lineC nilE
            go_wp2_with (at_builtin; refine wpList_app rfl (.tmp 56) (.tmp 58) _ rfl _ _ rfl rfl (HRun.out _) ?_; rintro v5 w5 ⟨o5, k5, k5b⟩; obtain ⟨A5, c5, rfl⟩ := o5.slice1; clear HRun; have R5 := R3.out.kept k5b (fun hm => own_ne OA.out.row R3.out (by decide) _ (by simpa using hm) rfl); have q3 := R5.cell 3; have f3 := R5.frozen 3)
            have Y5 := Y3.out.kept k5b (fun hm => own_ne OA.out.row Y3.out (by decide) _ (by simpa using hm) rfl)
            have Z5 := Z3.out.kept k5b (fun hm => own_ne OA.out.row Z3.out (by decide) _ (by simpa using hm) rfl)
            have hRw : w.heap.size ≤ w1.heap.size := by omega
            have hRy : w.heap.size ≠ w1.heap.size := by omega
            have hRz : w.heap.size + 1 ≠ w1.heap.size := by omega
            go_roundw
            case rel => exact ⟨k + 1, ps ++ [(x, nilE)], _, by omega, by omega, by go_num, HE2, by rw [List.length_append, List.length_singleton]; omega, ents_push HEk.out hxe.out, R5.set_ 3 _, Z5.far hRz _, Y5.far hRy _, o5.far (p := ⟨w1.heap.size, 3, none⟩) R5 (by decide) (by decide) _, k5.setCell (.inr hRw) _⟩
            case measure => simp [RowKit.intOf]; omega
        · obtain rfl : k = l.length := by omega
          have hv : Hid ((l.drop 1).foldlM stepP [] = some (ps.map (·.1))) := by
            have := HE.out
            rw [List.drop_length] at this
            exact this
          have HV : Hid (parseD l = some ⟨a1, a2, a3, ps.map (·.1)⟩) := by
            rw [Hid, HP2.out, hv.out]
            rfl
          obtain ⟨r0, r1, r2, r3⟩ := blk4 HR.out
          obtain ⟨y0, y1, y2, y3⟩ := blk4 HY.out
          obtain ⟨g0, g1, g2, g3⟩ := frz4 HY.out
          go_wp2_with fail
          refine bodyPost_ret (results_rparse _ _ w.heap.size a1 a2 a3 (.slice Av ps.length cv) _ rfl rfl (blk4_set HY.out _ _ _ _)) rfl ?_
          exact HYes.out _ ⟨a1, a2, a3, ps.map (·.1)⟩ _ ps HV.out rfl (by omega) (far4 HO.out HY.out (by decide) (by decide) _ _ _ _) (kept4 HK.out (.inr (Nat.le_refl _)) _ _ _ _)
end Go.Proofs.YtooplogodcadgaaDoor
