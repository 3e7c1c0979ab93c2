/- One act of the laws on a disk of the program and on one of the reference. -/
import Derived.Test.YtgdbafinncajfaaLawB
import Derived.Deep.RegionHeld3
namespace Go.Proofs.Ytgdbafinncajfaa
open Go.RowKit

/-- a disk of the program and one of the reference lie in the blocks of L, apart -/
def PR (w : World) (L : List Nat) (g gm : Nat) (d m : D) : Prop := ∃ F Fm, L = F ++ Fm ∧ PD w g F d ∧ RD w gm Fm m ∧ ∀ x ∈ F, x ∉ Fm
theorem PR.lt {w : World} {L : List Nat} {g gm : Nat} {d m : D} (h : PR w L g gm d m) : ∀ x ∈ L, x < w.heap.size := by
  obtain ⟨F, Fm, rfl, h1, h2, _⟩ := h
  intro x hx
  rcases List.mem_append.1 hx with h3 | h3
  · exact h1.lt x h3
  · exact h2.lt x h3
theorem PR.kept {w w' : World} {L l : List Nat} {g gm : Nat} {d m : D} (h : PR w L g gm d m) (hk : Kept l w w') (hl : ∀ x ∈ L, x ∉ l) : PR w' L g gm d m := by
  obtain ⟨F, Fm, rfl, h1, h2, h3⟩ := h
  exact ⟨F, Fm, rfl, h1.kept hk (fun x hx => hl x (by simp [hx])), h2.kept hk (fun x hx => hl x (by simp [hx])), h3⟩
theorem PR.pd {w : World} {L : List Nat} {g gm : Nat} {d m : D} (h : PR w L g gm d m) : ∃ F, PD w g F d ∧ ∀ x ∈ F, x ∈ L := by
  obtain ⟨F, Fm, rfl, h1, _, _⟩ := h
  exact ⟨F, h1, fun x hx => by simp [hx]⟩
theorem PR.rd {w : World} {L : List Nat} {g gm : Nat} {d m : D} (h : PR w L g gm d m) : ∃ F, RD w gm F m ∧ ∀ x ∈ F, x ∈ L := by
  obtain ⟨F, Fm, rfl, _, h1, _⟩ := h
  exact ⟨Fm, h1, fun x hx => by simp [hx]⟩
/-- both may have moved, in the blocks of L and in new ones -/
def PRto (w : World) (L : List Nat) (g gm : Nat) (d m : D) (w' : World) : Prop := (∃ L', PR w' L' g gm d m ∧ ∀ x ∈ L', x ∈ L ∨ w.heap.size ≤ x) ∧ Kept L w w'
theorem PRto.of {w w1 w2 : World} {g gm : Nat} {F F1 Fm : List Nat} {d1 m m1 : D} (hd : ∀ x ∈ F, x ∉ Fm) (hR : RD w gm Fm m) (h1 : PD w1 g F1 d1) (hF1 : ∀ x ∈ F1, x ∈ F ∨ w.heap.size ≤ x) (k1 : Kept F w w1)
    (h2 : ∃ F2, RD w2 gm F2 m1 ∧ ∀ x ∈ F2, x ∈ Fm ∨ w1.heap.size ≤ x) (k2 : Kept Fm w1 w2) : PRto w (F ++ Fm) g gm d1 m1 w2 := by
  obtain ⟨F2, h2, hF2⟩ := h2
  have hs := k1.size
  have hdis : ∀ x ∈ F1, x ∉ Fm := fun x hx hx2 => by
    rcases hF1 x hx with h | h
    · exact hd x h hx2
    · have := hR.lt x hx2
      omega
  refine ⟨⟨F1 ++ F2, ⟨F1, F2, rfl, h1.kept k2 hdis, h2, fun x hx hx2 => ?_⟩, fun x hx => ?_⟩, ?_⟩
  · rcases hF2 x hx2 with h | h
    · exact hdis x hx h
    · have := h1.lt x hx
      omega
  · rcases List.mem_append.1 hx with h | h
    · rcases hF1 x h with h3 | h3
      · exact .inl (by simp [h3])
      · exact .inr h3
    · rcases hF2 x h with h3 | h3
      · exact .inl (by simp [h3])
      · exact .inr (by omega)
  · exact (k1.mono (fun x hx => .inl (by simp [hx]))).trans' k2 (fun x hx => .inl (by simp [hx]))

def actD (d : D) (a : Act) : D :=
  if a.kind % 5 = 0 then d else if a.kind % 5 = 1 then (d.write a.at_ a.data).2 else if a.kind % 5 = 2 then d.flush.2 else if a.kind % 5 = 3 then { d with fuse := max a.n (-1) } else d.restart a.kl
theorem PRto.same {w w1 : World} {g gm : Nat} {F Fm : List Nat} {d m : D} (hd : ∀ x ∈ F, x ∉ Fm) (h1 : PD w1 g F d) (h2 : RD w1 gm Fm m) (k : Kept [] w w1) : PRto w (F ++ Fm) g gm d m w1 :=
  ⟨⟨F ++ Fm, ⟨F, Fm, rfl, h1, h2, hd⟩, fun _ hx => .inl hx⟩, k.mono fun _ h => by cases h⟩
theorem PRto.from {w w0 w1 : World} {g gm : Nat} {L : List Nat} {d m : D} (k : Kept [] w w0) (h : PRto w0 L g gm d m w1) : PRto w L g gm d m w1 := by
  obtain ⟨⟨L', h1, h2⟩, h3⟩ := h
  have := k.size
  refine ⟨⟨L', h1, fun x hx => ?_⟩, (k.mono (fun _ h => by cases h)).trans h3⟩
  rcases h2 x hx with h4 | h4
  · exact .inl h4
  · exact .inr (by omega)
theorem actD_0 (d : D) (a : Act) (h : (a.kind : Int) % 5 = 0) : actD d a = d := by unfold actD; rw [if_pos (by omega)]
theorem actD_1 (d : D) (a : Act) (h : (a.kind : Int) % 5 = 1) : actD d a = (d.write a.at_ a.data).2 := by unfold actD; rw [if_neg (by omega), if_pos (by omega)]
theorem actD_2 (d : D) (a : Act) (h : (a.kind : Int) % 5 = 2) : actD d a = d.flush.2 := by unfold actD; rw [if_neg (by omega), if_neg (by omega), if_pos (by omega)]
theorem actD_3 (d : D) (a : Act) (h : (a.kind : Int) % 5 = 3) : actD d a = { d with fuse := max a.n (-1) } := by unfold actD; rw [if_neg (by omega), if_neg (by omega), if_neg (by omega), if_pos (by omega)]
theorem actD_4 (d : D) (a : Act) (h : (a.kind : Int) % 5 = 4) : actD d a = d.restart a.kl := by unfold actD; rw [if_neg (by omega), if_neg (by omega), if_neg (by omega), if_neg (by omega)]
def ActP (w : World) (L : List Nat) (g gm : Nat) (d m : D) (a : Act) (e : Ending) (w' : World) : Prop := ∃ bl : Bool, e = .returned (.bool bl) ∧ (d = m → bl = true) ∧ PRto w L g gm (actD d a) (actD m a) w'
theorem ActP.mk {w w' : World} {L : List Nat} {g gm : Nat} {d m d' m' : D} {a : Act} (bl : Bool) (hb : d = m → bl = true) (h : PRto w L g gm d' m' w') (h1 : actD d a = d') (h2 : actD m a = m') : ActP w L g gm d m a (.returned (.bool bl)) w' := by
  subst h1 h2
  exact ⟨bl, rfl, hb, h⟩

def Act.cells (a : Act) : Array Value := #[.int .u8 (a.kind : Int), .int .i64 a.at_, .int .i64 a.n, .string ⟨a.data.toArray⟩, .slice a.Ak a.kl.length a.ck]
def boxW (w : World) (kind : Nat) (at_ n : Int) (data : List UInt8) (Ak : Option Addr) (kl : List Bool) (ck : Nat) : World := w.alloc (.cells #[.int .u8 (kind : Int), .int .i64 at_, .int .i64 n, .string ⟨data.toArray⟩, .slice Ak kl.length ck] 46)

set_option maxRecDepth 8000 in
set_option maxHeartbeats 4000000 in
theorem act_read (w : World) (F Fm : List Nat) (g gm : Nat) (d m : D) (kind : Nat) (at_ n : Int) (data : List UInt8) (Ak : Option Addr) (kl : List Bool) (ck : Nat) (B : Nat) (hP : PD w g F d) (hR : RD w gm Fm m) (hdis : ∀ x ∈ F, x ∉ Fm)
    (ha : Act.ok w B ⟨kind, at_, n, data, Ak, kl, ck⟩) (hB : B ≤ w.heap.size) (hL : ∀ x ∈ F ++ Fm, B ≤ x) (hr : (kind : Int) % 5 = 0) :
    Calls Try.prog 20 #[.pointer (some ⟨g, 0, none⟩), .pointer (some ⟨gm, 0, none⟩), .agg #[.int .u8 (kind : Int), .int .i64 at_, .int .i64 n, .string ⟨data.toArray⟩, .slice Ak kl.length ck]] w (ActP w (F ++ Fm) g gm d m ⟨kind, at_, n, data, Ak, kl, ck⟩) := by
  obtain ⟨hk, ha1, ha2, hn1, hn2, hdl, hkl⟩ := ha
  simp only at hk ha1 ha2 hn1 hn2 hdl hkl
  have HB : Hid (Blk (boxW w kind at_ n data Ak kl ck) w.heap.size 46 #[.int .u8 (kind : Int), .int .i64 at_, .int .i64 n, .string ⟨data.toArray⟩, .slice Ak kl.length ck]) := Blk.new w _ _
  have Hk : Hid (Kept [] w (boxW w kind at_ n data Ak kl ck)) := (Kept.refl [] w).alloc _
  have HP : Hid (PD (boxW w kind at_ n data Ak kl ck) g F d) := hP.kept Hk.out (fun _ _ h => by cases h)
  have HR : Hid (RD (boxW w kind at_ n data Ak kl ck) gm Fm m) := hR.kept Hk.out (fun _ _ h => by cases h)
  have hs := HB.out.lt
  have hnF : w.heap.size ∉ F := fun h => Nat.lt_irrefl _ (hP.lt _ h)
  have hnR : w.heap.size ∉ Fm := fun h => Nat.lt_irrefl _ (hR.lt _ h)
  clear hP hR
  go_enter Try.func20, Try.ntmps20
  go_wp2_with fail
  refine (disk_Read _ g F d HP.out at_ n).mono ?_
  rintro e w1 ⟨rfl, k1⟩
  have hb1 := HB.out.kept k1 (fun h => by cases h)
  have b1 := hb1.cell 1
  have b2 := hb1.cell 2
  simp at b1 b2
  have k01 := Hk.out.trans k1
  have hR1 := HR.out.kept k1 (fun _ _ h => by cases h)
  have hP1 := HP.out.kept k1 (fun _ _ h => by cases h)
  clear hb1 HP HR k1 HB Hk
  go_wp2_with fail
  refine (ref_Read _ gm Fm m hR1 at_ n).mono ?_
  rintro e w2 ⟨rfl, rfl⟩
  unfold str
  go_wp2_with fail
  · go_ret
    exact ActP.mk _ (fun e => by subst e; simp) (PRto.same hdis hP1 hR1 k01) (actD_0 _ _ hr) (actD_0 _ _ hr)
  · go_ret
    rename_i hne
    exact ActP.mk _ (fun e => by subst e; simp at hne) (PRto.same hdis hP1 hR1 k01) (actD_0 _ _ hr) (actD_0 _ _ hr)

set_option maxRecDepth 8000 in
set_option maxHeartbeats 4000000 in
theorem act_write (w : World) (F Fm : List Nat) (g gm : Nat) (d m : D) (kind : Nat) (at_ n : Int) (data : List UInt8) (Ak : Option Addr) (kl : List Bool) (ck : Nat) (B : Nat) (hP : PD w g F d) (hR : RD w gm Fm m) (hdis : ∀ x ∈ F, x ∉ Fm)
    (ha : Act.ok w B ⟨kind, at_, n, data, Ak, kl, ck⟩) (hB : B ≤ w.heap.size) (hL : ∀ x ∈ F ++ Fm, B ≤ x) (hd : d.ps.length ≤ 100000000) (hm : m.ps.length ≤ 100000000) (hsm : data.length ≤ 1000) (hr : (kind : Int) % 5 = 1) :
    Calls Try.prog 20 #[.pointer (some ⟨g, 0, none⟩), .pointer (some ⟨gm, 0, none⟩), .agg #[.int .u8 (kind : Int), .int .i64 at_, .int .i64 n, .string ⟨data.toArray⟩, .slice Ak kl.length ck]] w (ActP w (F ++ Fm) g gm d m ⟨kind, at_, n, data, Ak, kl, ck⟩) := by
  obtain ⟨hk, ha1, ha2, hn1, hn2, hdl, hkl⟩ := ha
  simp only at hk ha1 ha2 hn1 hn2 hdl hkl
  have HB : Hid (Blk (boxW w kind at_ n data Ak kl ck) w.heap.size 46 #[.int .u8 (kind : Int), .int .i64 at_, .int .i64 n, .string ⟨data.toArray⟩, .slice Ak kl.length ck]) := Blk.new w _ _
  have Hk : Hid (Kept [] w (boxW w kind at_ n data Ak kl ck)) := (Kept.refl [] w).alloc _
  have HP : Hid (PD (boxW w kind at_ n data Ak kl ck) g F d) := hP.kept Hk.out (fun _ _ h => by cases h)
  have HR : Hid (RD (boxW w kind at_ n data Ak kl ck) gm Fm m) := hR.kept Hk.out (fun _ _ h => by cases h)
  have hs := HB.out.lt
  have hnF : w.heap.size ∉ F := fun h => Nat.lt_irrefl _ (hP.lt _ h)
  have hnR : w.heap.size ∉ Fm := fun h => Nat.lt_irrefl _ (hR.lt _ h)
  clear hP hR
  go_enter Try.func20, Try.ntmps20
  go_wp2_with fail
  go_region_held3 (fun w' => w'.cell? ⟨w.heap.size, 1, none⟩ = some (.int .i64 at_) ∧ w'.cell? ⟨w.heap.size, 3, none⟩ = some (.string ⟨data.toArray⟩))
    (first | go_keep | (go_split_ands; exact ⟨k2.cell ‹_› hnR, k2.cell ‹_› hnR⟩) | (go_split_ands; exact ⟨k1.cell ‹_› hnF, k1.cell ‹_› hnF⟩))
    (first | (go_at_call 32; refine (disk_Write _ g F d (HP.out.kept (Kept.refl [] _).drew (fun _ _ h => by cases h)) at_ data (by omega) hd).mono ?_; rintro e w1 ⟨rfl, ⟨F1, hP1, hF1⟩, k1⟩)
           | (go_at_call 40; refine (ref_Write w1 gm Fm m ((HR.out.kept (Kept.refl [] _).drew (fun _ _ h => by cases h)).kept k1 (fun x hx hx2 => hdis x hx2 hx)) at_ data (by omega) hm).mono ?_; rintro e w2 ⟨rfl, ⟨F2, hR2, hF2⟩, k2⟩))
  go_wp2
  go_ret
  exact ActP.mk _ (fun e => by subst e; simp) (PRto.from (Hk.out.drew) (PRto.of hdis (HR.out.kept (Kept.refl [] _).drew (fun _ _ h => by cases h)) hP1 hF1 k1 ⟨F2, hR2, hF2⟩ k2)) (actD_1 _ _ hr) (actD_1 _ _ hr)

set_option maxRecDepth 8000 in
set_option maxHeartbeats 4000000 in
theorem act_flush (w : World) (F Fm : List Nat) (g gm : Nat) (d m : D) (kind : Nat) (at_ n : Int) (data : List UInt8) (Ak : Option Addr) (kl : List Bool) (ck : Nat) (B : Nat) (hP : PD w g F d) (hR : RD w gm Fm m) (hdis : ∀ x ∈ F, x ∉ Fm)
    (ha : Act.ok w B ⟨kind, at_, n, data, Ak, kl, ck⟩) (hB : B ≤ w.heap.size) (hL : ∀ x ∈ F ++ Fm, B ≤ x) (hr : (kind : Int) % 5 = 2) :
    Calls Try.prog 20 #[.pointer (some ⟨g, 0, none⟩), .pointer (some ⟨gm, 0, none⟩), .agg #[.int .u8 (kind : Int), .int .i64 at_, .int .i64 n, .string ⟨data.toArray⟩, .slice Ak kl.length ck]] w (ActP w (F ++ Fm) g gm d m ⟨kind, at_, n, data, Ak, kl, ck⟩) := by
  obtain ⟨hk, ha1, ha2, hn1, hn2, hdl, hkl⟩ := ha
  simp only at hk ha1 ha2 hn1 hn2 hdl hkl
  have HB : Hid (Blk (boxW w kind at_ n data Ak kl ck) w.heap.size 46 #[.int .u8 (kind : Int), .int .i64 at_, .int .i64 n, .string ⟨data.toArray⟩, .slice Ak kl.length ck]) := Blk.new w _ _
  have Hk : Hid (Kept [] w (boxW w kind at_ n data Ak kl ck)) := (Kept.refl [] w).alloc _
  have HP : Hid (PD (boxW w kind at_ n data Ak kl ck) g F d) := hP.kept Hk.out (fun _ _ h => by cases h)
  have HR : Hid (RD (boxW w kind at_ n data Ak kl ck) gm Fm m) := hR.kept Hk.out (fun _ _ h => by cases h)
  have hs := HB.out.lt
  have hnF : w.heap.size ∉ F := fun h => Nat.lt_irrefl _ (hP.lt _ h)
  have hnR : w.heap.size ∉ Fm := fun h => Nat.lt_irrefl _ (hR.lt _ h)
  clear hP hR
  go_enter Try.func20, Try.ntmps20
  go_wp2_with fail
  refine (disk_Flush _ g F d HP.out).mono ?_
  rintro e w1 ⟨rfl, ⟨F1, hP1, hF1⟩, k1⟩
  have hR1 := HR.out.kept k1 (fun x hx hx2 => hdis x hx2 hx)
  clear HB HP
  go_wp2_with fail
  refine (ref_Flush _ gm Fm m hR1).mono ?_
  rintro e w2 ⟨rfl, ⟨F2, hR2, hF2⟩, k2⟩
  go_wp2_with fail
  go_ret
  exact ActP.mk _ (fun e => by subst e; simp) (PRto.from Hk.out (PRto.of hdis HR.out hP1 (fun x hx => .inl (hF1 x hx)) k1 ⟨F2, hR2, fun x hx => .inl (hF2 x hx)⟩ k2)) (actD_2 _ _ hr) (actD_2 _ _ hr)

set_option maxRecDepth 8000 in
set_option maxHeartbeats 4000000 in
theorem act_fail (w : World) (F Fm : List Nat) (g gm : Nat) (d m : D) (kind : Nat) (at_ n : Int) (data : List UInt8) (Ak : Option Addr) (kl : List Bool) (ck : Nat) (B : Nat) (hP : PD w g F d) (hR : RD w gm Fm m) (hdis : ∀ x ∈ F, x ∉ Fm)
    (ha : Act.ok w B ⟨kind, at_, n, data, Ak, kl, ck⟩) (hB : B ≤ w.heap.size) (hL : ∀ x ∈ F ++ Fm, B ≤ x) (hr : (kind : Int) % 5 = 3) :
    Calls Try.prog 20 #[.pointer (some ⟨g, 0, none⟩), .pointer (some ⟨gm, 0, none⟩), .agg #[.int .u8 (kind : Int), .int .i64 at_, .int .i64 n, .string ⟨data.toArray⟩, .slice Ak kl.length ck]] w (ActP w (F ++ Fm) g gm d m ⟨kind, at_, n, data, Ak, kl, ck⟩) := by
  obtain ⟨hk, ha1, ha2, hn1, hn2, hdl, hkl⟩ := ha
  simp only at hk ha1 ha2 hn1 hn2 hdl hkl
  have HB : Hid (Blk (boxW w kind at_ n data Ak kl ck) w.heap.size 46 #[.int .u8 (kind : Int), .int .i64 at_, .int .i64 n, .string ⟨data.toArray⟩, .slice Ak kl.length ck]) := Blk.new w _ _
  have Hk : Hid (Kept [] w (boxW w kind at_ n data Ak kl ck)) := (Kept.refl [] w).alloc _
  have HP : Hid (PD (boxW w kind at_ n data Ak kl ck) g F d) := hP.kept Hk.out (fun _ _ h => by cases h)
  have HR : Hid (RD (boxW w kind at_ n data Ak kl ck) gm Fm m) := hR.kept Hk.out (fun _ _ h => by cases h)
  have hs := HB.out.lt
  have hnF : w.heap.size ∉ F := fun h => Nat.lt_irrefl _ (hP.lt _ h)
  have hnR : w.heap.size ∉ Fm := fun h => Nat.lt_irrefl _ (hR.lt _ h)
  clear hP hR
  go_enter Try.func20, Try.ntmps20
  go_wp2_with fail
  refine (disk_Fail _ g F d HP.out n hn1 hn2).mono ?_
  rintro e w1 ⟨rfl, hP1, k1⟩
  have hgF := HP.out.mem_self
  have hR1 := HR.out.kept k1 (fun x hx hx2 => hdis g hgF (by simp at hx2; rw [← hx2]; exact hx))
  have b2 := (HB.out.kept k1 (fun hx => hnF (by simp at hx; rw [hx]; exact hgF))).cell 2
  simp at b2
  have HR1 := Lib.hid hR1
  obtain ⟨_, _, _, _, _, _, q2, _, fz⟩ := hR1.open
  have f2 := fz 2
  clear fz hR1
  go_wp2_with fail
  · go_ret
    have h3 := HR1.out.setFuse (max n (-1)) (by omega) (by omega)
    have k2 : Kept Fm w1 (w1.setCell ⟨gm, 2, none⟩ (.int .i64 (max n (-1)))) := (Kept.refl _ _).setCell (.inl HR1.out.mem_self) _
    have e1 : (Value.int .i64 (max n (-1))) = .int .i64 (-1) := by congr 1; omega
    rw [e1] at h3 k2
    exact ActP.mk _ (fun _ => rfl) (PRto.from Hk.out (PRto.of hdis HR.out hP1 (fun x hx => .inl hx) (k1.mono (fun x hx => .inl (by simp at hx; rw [hx]; exact hgF))) ⟨Fm, h3, fun x hx => .inl hx⟩ k2)) (actD_3 _ _ hr) (actD_3 _ _ hr)
  · go_ret
    have h3 := HR1.out.setFuse (max n (-1)) (by omega) (by omega)
    have k2 : Kept Fm w1 (w1.setCell ⟨gm, 2, none⟩ (.int .i64 (max n (-1)))) := (Kept.refl _ _).setCell (.inl HR1.out.mem_self) _
    have e1 : (Value.int .i64 (max n (-1))) = .int .i64 (n) := by congr 1; omega
    rw [e1] at h3 k2
    exact ActP.mk _ (fun _ => rfl) (PRto.from Hk.out (PRto.of hdis HR.out hP1 (fun x hx => .inl hx) (k1.mono (fun x hx => .inl (by simp at hx; rw [hx]; exact hgF))) ⟨Fm, h3, fun x hx => .inl hx⟩ k2)) (actD_3 _ _ hr) (actD_3 _ _ hr)

set_option maxRecDepth 8000 in
set_option maxHeartbeats 4000000 in
theorem act_restart (w : World) (F Fm : List Nat) (g gm : Nat) (d m : D) (kind : Nat) (at_ n : Int) (data : List UInt8) (Ak : Option Addr) (kl : List Bool) (ck : Nat) (B : Nat) (hP : PD w g F d) (hR : RD w gm Fm m) (hdis : ∀ x ∈ F, x ∉ Fm)
    (ha : Act.ok w B ⟨kind, at_, n, data, Ak, kl, ck⟩) (hB : B ≤ w.heap.size) (hL : ∀ x ∈ F ++ Fm, B ≤ x) (hr : (kind : Int) % 5 = 4) :
    Calls Try.prog 20 #[.pointer (some ⟨g, 0, none⟩), .pointer (some ⟨gm, 0, none⟩), .agg #[.int .u8 (kind : Int), .int .i64 at_, .int .i64 n, .string ⟨data.toArray⟩, .slice Ak kl.length ck]] w (ActP w (F ++ Fm) g gm d m ⟨kind, at_, n, data, Ak, kl, ck⟩) := by
  obtain ⟨hk, ha1, ha2, hn1, hn2, hdl, hkl⟩ := ha
  simp only at hk ha1 ha2 hn1 hn2 hdl hkl
  have HB : Hid (Blk (boxW w kind at_ n data Ak kl ck) w.heap.size 46 #[.int .u8 (kind : Int), .int .i64 at_, .int .i64 n, .string ⟨data.toArray⟩, .slice Ak kl.length ck]) := Blk.new w _ _
  have Hk : Hid (Kept [] w (boxW w kind at_ n data Ak kl ck)) := (Kept.refl [] w).alloc _
  have HP : Hid (PD (boxW w kind at_ n data Ak kl ck) g F d) := hP.kept Hk.out (fun _ _ h => by cases h)
  have HR : Hid (RD (boxW w kind at_ n data Ak kl ck) gm Fm m) := hR.kept Hk.out (fun _ _ h => by cases h)
  have hs := HB.out.lt
  have hnF : w.heap.size ∉ F := fun h => Nat.lt_irrefl _ (hP.lt _ h)
  have hnR : w.heap.size ∉ Fm := fun h => Nat.lt_irrefl _ (hR.lt _ h)
  clear hP hR
  go_enter Try.func20, Try.ntmps20
  go_wp2_with fail
  have hk1 := hkl.1
  refine (disk_Restart _ g F d HP.out Ak ck kl hk1 (fun i hi => ?_)).mono ?_
  · obtain ⟨b, o, e, hb, hc⟩ := hkl.2 i hi
    exact ⟨b, o, e, by omega, fun hx => absurd (hL b (by simp [hx])) (by omega), Hk.out.cell hc (fun h => by cases h)⟩
  rintro e w1 ⟨rfl, ⟨F1, hP1, hF1⟩, k1⟩
  have hR1 := HR.out.kept k1 (fun x hx hx2 => hdis x hx2 hx)
  have b4 := (HB.out.kept k1 hnF).cell 4
  simp at b4
  have hs1 := k1.size
  go_wp2_with fail
  refine (ref_Restart _ gm Fm m hR1 Ak ck kl hk1 (fun i hi => ?_)).mono ?_
  · obtain ⟨b, o, e, hb, hc⟩ := hkl.2 i hi
    exact ⟨b, o, e, by omega, fun hx => absurd (hL b (by simp [hx])) (by omega), k1.cell (Hk.out.cell hc (fun h => by cases h)) (fun hx => absurd (hL b (by simp [hx])) (by omega))⟩
  rintro e w2 ⟨rfl, ⟨F2, hR2, hF2⟩, k2⟩
  go_wp2_with fail
  go_ret
  exact ActP.mk _ (fun _ => rfl) (PRto.from Hk.out (PRto.of hdis HR.out hP1 (fun x hx => .inl (hF1 x hx)) k1 ⟨F2, hR2, fun x hx => .inl (hF2 x hx)⟩ k2)) (actD_4 _ _ hr) (actD_4 _ _ hr)

theorem act_run (w : World) (L : List Nat) (g gm : Nat) (d m : D) (a : Act) (B : Nat) (h : PR w L g gm d m) (ha : Act.ok w B a) (hB : B ≤ w.heap.size) (hL : ∀ x ∈ L, B ≤ x) (hd : d.ps.length ≤ 100000000) (hm : m.ps.length ≤ 100000000) (hsm : a.data.length ≤ 1000) :
    Calls Try.prog 20 #[.pointer (some ⟨g, 0, none⟩), .pointer (some ⟨gm, 0, none⟩), .agg #[.int .u8 (a.kind : Int), .int .i64 a.at_, .int .i64 a.n, .string ⟨a.data.toArray⟩, .slice a.Ak a.kl.length a.ck]] w (ActP w L g gm d m a) := by
  obtain ⟨F, Fm, rfl, hP, hR, hdis⟩ := h
  obtain ⟨kind, at_, n, data, Ak, kl, ck⟩ := a
  have : (kind : Int) % 5 = 0 ∨ (kind : Int) % 5 = 1 ∨ (kind : Int) % 5 = 2 ∨ (kind : Int) % 5 = 3 ∨ (kind : Int) % 5 = 4 := by omega
  rcases this with h | h | h | h | h
  · exact act_read w F Fm g gm d m kind at_ n data Ak kl ck B hP hR hdis ha hB hL h
  · exact act_write w F Fm g gm d m kind at_ n data Ak kl ck B hP hR hdis ha hB hL hd hm hsm h
  · exact act_flush w F Fm g gm d m kind at_ n data Ak kl ck B hP hR hdis ha hB hL h
  · exact act_fail w F Fm g gm d m kind at_ n data Ak kl ck B hP hR hdis ha hB hL h
  · exact act_restart w F Fm g gm d m kind at_ n data Ak kl ck B hP hR hdis ha hB hL h
end Go.Proofs.Ytgdbafinncajfaa
