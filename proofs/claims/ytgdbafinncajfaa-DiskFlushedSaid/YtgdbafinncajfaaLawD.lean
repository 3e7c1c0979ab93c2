/- The first law's walk: the disk of the program and the reference play alike. -/
import Derived.Test.YtgdbafinncajfaaLawP
namespace Go.Proofs.Ytgdbafinncajfaa
open Go.RowKit

/-- after some acts: both disks hold the same -/
def PlayI (w : World) (B : Nat) (g gm k : Nat) (W : World) : Prop := ∃ L d, PR W L g gm d d ∧ (∀ x ∈ L, B ≤ x) ∧ d.ps.length ≤ k * 16 ∧ Below B w W

theorem PlayI.drewN {w W : World} {B g gm k : Nat} (h : PlayI w B g gm k W) (n : Nat) : PlayI w B g gm k (W.drewN n) := by
  obtain ⟨L, d, h1, h2, h3, h4⟩ := h
  exact ⟨L, d, h1.kept ((Kept.refl [] _).drewN n) (fun _ _ h => by cases h), h2, h3, ⟨h4.os, h4.tape, h4.output, h4.size, h4.block⟩⟩
theorem quiet_same {P : Program} {f : FuncId} {args : Array Value} {w : World} {n : Nat} {v : Value} (h : Calls P f args (w.drewN n) fun e w' => e = .returned v ∧ w.drewN n = w') : Calls P f args (w.drewN n) fun e w'' => e = .returned v ∧ ∃ m, w'' = w.drewN m :=
  h.mono fun _ _ h => ⟨h.1, n, h.2.symm⟩
theorem quiet_same' {P : Program} {f : FuncId} {args : Array Value} {w : World} {n : Nat} {v : Value} (h : Calls P f args (w.drewN n) fun e w' => e = .returned v ∧ w' = w.drewN n) : Calls P f args (w.drewN n) fun e w'' => e = .returned v ∧ ∃ m, w'' = w.drewN m :=
  h.mono fun _ _ h => ⟨h.1, n, h.2⟩

theorem ref_Bytes_s (w : World) (g : Nat) (F : List Nat) (d : D) (h : RD w g F d) :
    Calls Try.prog 24 #[.pointer (some ⟨g, 0, none⟩)] w fun e w' => e = .returned (.string ⟨d.ss.flatten.toArray⟩) ∧ w' = w := ref_Bytes w g F d h

theorem fits_no (w : World) (data : List UInt8) (hdl : data.length ≤ 140737488351232) :
    Calls Try.prog 17 #[.string ⟨data.toArray⟩] w fun e w' => ∃ p, e = .returned (.pointer p) ∧ Kept [] w w' := by
  by_cases hn : (data.length + 63) / 64 ≤ 1048576
  · refine (disk_Load_yes w data _ rfl hn).mono ?_
    rintro e w' ⟨g, F, rfl, _, k, _⟩
    exact ⟨_, rfl, k⟩
  · refine (disk_Load_no w data hdl (by omega)).mono ?_
    rintro e w' ⟨rfl, rfl⟩
    exact ⟨_, rfl, Kept.refl _ _⟩

set_option maxRecDepth 8000 in
set_option maxHeartbeats 4000000 in
theorem DiskPlays_no (w : World) (B : Nat) (data : List UInt8) (A : Option Addr) (c : Nat) (l : List Act) (h : ActsRd w B A l) (hB : B ≤ w.heap.size) (hdl : data.length ≤ 140737488351232) (hno : fitsB l = false ∨ 2560 < data.length) :
    Calls Try.prog 6 #[.string ⟨data.toArray⟩, .slice A l.length c] w fun e w' => e = .returned (.bool true) ∧ Below B w w' := by
  go_enter Try.func6, Try.ntmps6
  go_wp2_with fail
  refine (fits_run w B A c l h).mono ?_
  rintro e w1 ⟨rfl, rfl⟩
  go_wp2_with fail
  refine (fits_no w data hdl).mono ?_
  rintro e w1 ⟨p, rfl, k1⟩
  cases hf : fitsB l
  · go_wp2_with (go_at_call 18; refine (alive_true _).mono ?_; rintro e w2 ⟨rfl, k2⟩)
    go_ret
    exact ⟨rfl, (k1.trans k2).below hB (fun _ h => by cases h)⟩
  · have h2 : 2560 < data.length := by
      rcases hno with h1 | h1
      · rw [hf] at h1; cases h1
      · exact h1
    go_wp2_with (go_at_call 18; refine (alive_true _).mono ?_; rintro e w2 ⟨rfl, k2⟩)
    go_ret
    exact ⟨rfl, (k1.trans k2).below hB (fun _ h => by cases h)⟩

set_option maxRecDepth 8000 in
set_option maxHeartbeats 8000000 in
theorem DiskPlays_yes (w : World) (B : Nat) (data : List UInt8) (A : Option Addr) (c : Nat) (l : List Act) (h : ActsRd w B A l) (hB : B ≤ w.heap.size) (hyes : fitsB l = true) (hl : data.length ≤ 2560) :
    Calls Try.prog 6 #[.string ⟨data.toArray⟩, .slice A l.length c] w fun e w' => e = .returned (.bool true) ∧ Below B w w' := by
  obtain ⟨h60, hsm⟩ := fits_of hyes
  have Hsm := Lib.hid hsm
  clear hsm
  go_enter Try.func6, Try.ntmps6
  go_wp2_with fail
  refine (fits_run w B A c l h).mono ?_
  rintro e w1 ⟨rfl, rfl⟩
  rw [hyes]
  go_wp2_with fail
  refine (disk_Load_yes w data _ rfl (by omega)).mono ?_
  rintro e w1 ⟨g, F, rfl, hP, k1, hF⟩
  go_wp2_with fail
  refine (ref_Load data _ w1 rfl (by omega)).mono ?_
  rintro e w2 ⟨gm, Fm, rfl, hR, k2, hFm⟩
  have hs1 := k1.size
  have HI : Hid (PlayI w B g gm 0 w2) := ⟨F ++ Fm, _, ⟨F, Fm, rfl, hP.kept k2 (fun _ _ h => by cases h), hR, fun x hx hx2 => by have := hP.lt x hx; have := hFm x hx2; omega⟩, fun x hx => by
    rcases List.mem_append.1 hx with h | h
    · have := hF x h; omega
    · have := hFm x h; omega, Nat.zero_le _, (k1.trans k2).below hB (fun _ h => by cases h)⟩
  have H := Lib.hid h
  clear hP hR k1 k2 hF hFm hs1 h hyes
  go_wp2_with fail
  go_loopw [8] (fun i W => ∃ k : Nat, k ≤ l.length ∧ i = .int .i64 k ∧ PlayI w B g gm k W) (fun i _ => l.length - (intOf i).toNat)
  case atStart => exact ⟨0, by omega, rfl, HI.out⟩
  case round =>
    obtain ⟨k, hk, rfl, L, d, hPR, hL, hpl, hbel⟩ := hrel
    have hl60 : l.length ≤ maxLen := H.out.1
    unfold maxLen at hl60
    by_cases hlt : k < l.length
    · obtain ⟨hok, b, o, rfl, hbB, c0, c1, c2, c3, c4⟩ := (H.out.below hbel).2 k hlt
      have hsz := hbel.size
      have hact := act_run _ L g gm d d l[k] B hPR hok (by omega) hL (by omega) (by omega) (Hsm.out k hlt).1
      have hpl2 := actD_pl d l[k] (Hsm.out k hlt).1
      go_wp2_with fail
      refine hact.mono ?_
      rintro e w3 ⟨bl, rfl, hbl, ⟨L', hPR', hL'⟩, k3⟩
      rw [hbl rfl]
      have hI3 : PlayI w B g gm (k + 1) w3 := ⟨L', _, hPR', fun x hx => by
        rcases hL' x hx with h | h
        · exact hL x h
        · omega, by omega, hbel.trans (k3.below (by omega) hL)⟩
      obtain ⟨F', hP', _⟩ := hPR'.pd
      obtain ⟨Fm', hR', _⟩ := hPR'.rd
      have HI3 := Lib.hid hI3
      clear hI3 hact hPR hok c0 c1 c2 c3 c4 hL hbl hL' hPR' k3 hpl hpl2
      obtain ⟨_, _, _, _, q0, q1, _, q3, _⟩ := hR'.open
      have HP' := Lib.hid hP'
      have HR' := Lib.hid hR'
      clear hP' hR'
      go_wp2_with fail
      go_quiet (first
        | (refine quiet_same (disk_Pending _ g F' _ (HP'.out.kept ((Kept.refl [] _).drewN _) (fun _ _ h => by cases h))))
        | (refine quiet_same (disk_Dead _ g F' _ (HP'.out.kept ((Kept.refl [] _).drewN _) (fun _ _ h => by cases h))))
        | (refine quiet_same (disk_Bytes _ g F' _ (HP'.out.kept ((Kept.refl [] _).drewN _) (fun _ _ h => by cases h))))
        | (refine quiet_same (disk_Sectors _ g F' _ (HP'.out.kept ((Kept.refl [] _).drewN _) (fun _ _ h => by cases h))))
        | (refine quiet_same' (ref_Bytes_s _ gm Fm' _ (HR'.out.kept ((Kept.refl [] _).drewN _) (fun _ _ h => by cases h)))))
      go_wp2
      go_round
      case rel => exact ⟨k + 1, by omega, by go_num, HI3.out.drewN _⟩
      case measure => simp [intOf]; omega
    · go_wp2_with (go_at_call 18; refine (alive_true _).mono ?_; rintro e w4 ⟨rfl, k4⟩)
      go_ret
      exact ⟨rfl, hbel.trans (k4.below (Nat.le_trans hB hbel.size) (fun _ h => by cases h))⟩

theorem DiskPlays_run (w : World) (B : Nat) (data : List UInt8) (A : Option Addr) (c : Nat) (l : List Act) (h : ActsRd w B A l) (hB : B ≤ w.heap.size) (hdl : data.length ≤ 140737488351232) :
    Calls Try.prog 6 #[.string ⟨data.toArray⟩, .slice A l.length c] w fun e w' => e = .returned (.bool true) ∧ Below B w w' := by
  by_cases h1 : fitsB l = true
  · by_cases h2 : data.length ≤ 2560
    · exact DiskPlays_yes w B data A c l h hB h1 h2
    · exact DiskPlays_no w B data A c l h hB hdl (.inr (by omega))
  · exact DiskPlays_no w B data A c l h hB hdl (.inl (by simpa using h1))
end Go.Proofs.Ytgdbafinncajfaa
