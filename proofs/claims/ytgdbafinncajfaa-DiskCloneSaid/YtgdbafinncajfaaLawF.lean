/- The third law's walk: a clone plays on by itself. -/
import Derived.Test.YtgdbafinncajfaaLawE
namespace Go.Proofs.Ytgdbafinncajfaa
open Go.RowKit

set_option maxRecDepth 8000 in
set_option maxHeartbeats 4000000 in
theorem DiskClone_no (w : World) (B : Nat) (data : List UInt8) (A A2 : Option Addr) (c c2 : Nat) (l l2 : List Act) (h : ActsRd w B A l) (h2 : ActsRd w B A2 l2) (hB : B ≤ w.heap.size) (hdl : data.length ≤ 140737488351232) (hno : (fitsB l = false ∨ fitsB l2 = false) ∨ 2560 < data.length) :
    Calls Try.prog 8 #[.string ⟨data.toArray⟩, .slice A l.length c, .slice A2 l2.length c2] w fun e w' => e = .returned (.bool true) ∧ Below B w w' := by
  go_enter Try.func8, Try.ntmps8
  go_wp2_with fail
  refine (fits_run w B A c l h).mono ?_
  rintro e w1 ⟨rfl, rfl⟩
  go_wp2_with fail
  refine (fits_run w B A2 c2 l2 h2).mono ?_
  rintro e w1 ⟨rfl, rfl⟩
  go_wp2_with fail
  refine (fits_no w data hdl).mono ?_
  rintro e w1 ⟨p, rfl, k1⟩
  cases hf : fitsB l
  · cases hf2 : fitsB l2
    all_goals
      go_wp2_with (go_at_call 18; refine (alive_true _).mono ?_; rintro e w2 ⟨rfl, k2⟩)
      go_ret
      exact ⟨rfl, (k1.trans k2).below hB (fun _ h => by cases h)⟩
  · cases hf2 : fitsB l2
    · go_wp2_with (go_at_call 18; refine (alive_true _).mono ?_; rintro e w2 ⟨rfl, k2⟩)
      go_ret
      exact ⟨rfl, (k1.trans k2).below hB (fun _ h => by cases h)⟩
    · have h2 : 2560 < data.length := by
        rcases hno with (h1 | h1) | h1
        · rw [hf] at h1; cases h1
        · rw [hf2] at h1; cases h1
        · exact h1
      go_wp2_with (go_at_call 18; refine (alive_true _).mono ?_; rintro e w2 ⟨rfl, k2⟩)
      go_ret
      exact ⟨rfl, (k1.trans k2).below hB (fun _ h => by cases h)⟩

set_option maxRecDepth 8000 in
set_option maxHeartbeats 16000000 in
theorem DiskClone_yes (w : World) (B : Nat) (data : List UInt8) (A A2 : Option Addr) (c c2 : Nat) (l l2 : List Act) (h : ActsRd w B A l) (h2 : ActsRd w B A2 l2) (hB : B ≤ w.heap.size) (hyes : fitsB l = true) (hyes2 : fitsB l2 = true) (hl : data.length ≤ 2560) :
    Calls Try.prog 8 #[.string ⟨data.toArray⟩, .slice A l.length c, .slice A2 l2.length c2] w fun e w' => e = .returned (.bool true) ∧ Below B w w' := by
  obtain ⟨h60, hsm⟩ := fits_of hyes
  obtain ⟨h62, hsm2⟩ := fits_of hyes2
  have Hsm := Lib.hid hsm
  have Hsm2 := Lib.hid hsm2
  clear hsm hsm2
  go_enter Try.func8, Try.ntmps8
  go_wp2_with fail
  refine (fits_run w B A c l h).mono ?_
  rintro e w1 ⟨rfl, rfl⟩
  rw [hyes]
  go_wp2_with fail
  refine (fits_run w B A2 c2 l2 h2).mono ?_
  rintro e w1 ⟨rfl, rfl⟩
  rw [hyes2]
  go_wp2_with fail
  refine (disk_Load_yes w data _ rfl (by omega)).mono ?_
  rintro e w1 ⟨g, F, rfl, hP, k1, hF⟩
  go_wp2_with fail
  refine (ref_Load data _ w1 rfl (by omega)).mono ?_
  rintro e w2 ⟨gm, Fm, rfl, hR, k2, hFm⟩
  have hs1 := k1.size
  have HI : Hid (One w B g gm ⟨loadS data ((data.length + 63) / 64), [], -1, false⟩ w2) := ⟨F ++ Fm, ⟨F, Fm, rfl, hP.kept k2 (fun _ _ h => by cases h), hR, fun x hx hx2 => by have := hP.lt x hx; have := hFm x hx2; omega⟩, fun x hx => by
    rcases List.mem_append.1 hx with h | h
    · have := hF x h; omega
    · have := hFm x h; omega, (k1.trans k2).below hB (fun _ h => by cases h)⟩
  have hd0 : (⟨loadS data ((data.length + 63) / 64), [], -1, false⟩ : D).ps.length = 0 := rfl
  generalize (⟨loadS data ((data.length + 63) / 64), [], -1, false⟩ : D) = d0 at HI hd0
  have H := Lib.hid h
  have H2 := Lib.hid h2
  have Hd0 := Lib.hid hd0
  clear hP hR k1 k2 hF hFm hs1 h h2 hyes hyes2 hd0
  go_wp2_with fail
  go_loopw [11] (fun i W => ∃ k : Nat, k ≤ l.length ∧ i = .int .i64 k ∧ One w B g gm (foldD d0 l k) W) (fun i _ => l.length - (intOf i).toNat)
  case atStart => exact ⟨0, by omega, rfl, HI.out⟩
  case round =>
    obtain ⟨k, hk, rfl, hone⟩ := hrel
    have hl60 : l.length ≤ maxLen := H.out.1
    unfold maxLen at hl60
    have hpl := foldD_pl d0 l Hsm.out k hk
    rw [Hd0.out] at hpl
    by_cases hlt : k < l.length
    · obtain ⟨hok, b, o, rfl, hbB, c0, c1, c2', c3, c4⟩ := (H.out.below hone.below).2 k hlt
      have hact := hone.act hB l[k] hok (by omega) (Hsm.out k hlt).1
      rw [← foldD_succ d0 l k hlt] at hact
      clear hone
      go_wp2_with fail
      refine hact.mono ?_
      rintro e w3 ⟨rfl, hone⟩
      go_wp2_with fail
      go_round
      case rel => exact ⟨k + 1, by omega, by go_num, hone⟩
      case measure => simp [intOf]; omega
    · have hkl : k = l.length := by omega
      generalize foldD d0 l k = d1 at hone hpl
      obtain ⟨F1, hP1⟩ := hone.pd
      obtain ⟨Fm1, hR1⟩ := hone.rd
      have Hone := Lib.hid hone
      clear hone
      go_wp2_with fail
      refine (disk_Clone _ g F1 d1 hP1 (by omega)).mono ?_
      rintro e w4 ⟨g2, F2, rfl, hP2, k4, hF2⟩
      have hR4 := hR1.kept k4 (fun _ _ h => by cases h)
      go_wp2_with fail
      refine (ref_Copy w4 gm Fm1 d1 hR4 (by omega)).mono ?_
      rintro e w5 ⟨gm2, Fm2, rfl, hR5, k5, hFm2⟩
      have HT : Hid (Two w B g gm g2 gm2 d1 d1 w5) := Two.of Hone.out hB hP2 k4 hF2 hR5 k5 hFm2
      clear hP1 hR1 hP2 k4 hF2 hR4 hR5 k5 hFm2 Hone
      go_wp2_with fail
      go_loopw [14] (fun i W => ∃ k : Nat, k ≤ l2.length ∧ i = .int .i64 k ∧ Two w B g gm g2 gm2 (foldD d1 l2 k) d1 W) (fun i _ => l2.length - (intOf i).toNat)
      case atStart => exact ⟨0, by omega, rfl, HT.out⟩
      case round =>
        obtain ⟨k2, hk2, rfl, htwo⟩ := hrel
        have hl62 : l2.length ≤ maxLen := H2.out.1
        unfold maxLen at hl62
        have hpl2 := foldD_pl d1 l2 Hsm2.out k2 hk2
        by_cases hlt2 : k2 < l2.length
        · obtain ⟨hok, b, o, rfl, hbB, c0, c1, c2', c3, c4⟩ := (H2.out.below htwo.below).2 k2 hlt2
          have hact := htwo.act hB l2[k2] hok (by omega) (Hsm2.out k2 hlt2).1
          rw [← foldD_succ d1 l2 k2 hlt2] at hact
          clear htwo
          go_wp2_with fail
          refine hact.mono ?_
          rintro e w3 ⟨rfl, htwo⟩
          go_wp2_with fail
          go_round
          case rel => exact ⟨k2 + 1, by omega, by go_num, htwo⟩
          case measure => simp [intOf]; omega
        · have hkl2 : k2 = l2.length := by omega
          subst hkl2
          have Htwo := Lib.hid htwo
          obtain ⟨F6, hP6⟩ := htwo.symm.pd
          obtain ⟨Fm6, hR6⟩ := htwo.symm.rd
          obtain ⟨_, _, _, _, q0, q1, _, q3, _⟩ := hR6.open
          have HP6 := Lib.hid hP6
          have HR6 := Lib.hid hR6
          clear hP6 hR6 htwo
          go_wp2_with fail
          go_quiet (first
            | (refine quiet_same (disk_Pending _ g2 F6 _ (HP6.out.kept ((Kept.refl [] _).drewN _) (fun _ _ h => by cases h))))
            | (refine quiet_same (disk_Dead _ g2 F6 _ (HP6.out.kept ((Kept.refl [] _).drewN _) (fun _ _ h => by cases h))))
            | (refine quiet_same (disk_Bytes _ g2 F6 _ (HP6.out.kept ((Kept.refl [] _).drewN _) (fun _ _ h => by cases h))))
            | (refine quiet_same (disk_Sectors _ g2 F6 _ (HP6.out.kept ((Kept.refl [] _).drewN _) (fun _ _ h => by cases h))))
            | (refine quiet_same' (ref_Bytes_s _ gm2 Fm6 _ (HR6.out.kept ((Kept.refl [] _).drewN _) (fun _ _ h => by cases h)))))
          have HT7 : Hid (Two w B g2 gm2 g gm (foldD d1 l2 0) (foldD d1 l2 l2.length) (_ : World)) := Htwo.out.symm.drewN nq
          clear Htwo q0 q1 q3 HP6 HR6
          go_wp2_with fail
          go_loopw [15] (fun i W => ∃ k : Nat, k ≤ l2.length ∧ i = .int .i64 k ∧ Two w B g2 gm2 g gm (foldD d1 l2 k) (foldD d1 l2 l2.length) W) (fun i _ => l2.length - (intOf i).toNat)
          case atStart => exact ⟨0, by omega, rfl, HT7.out⟩
          case round =>
            obtain ⟨k3, hk3, rfl, htwo⟩ := hrel
            have hpl3 := foldD_pl d1 l2 Hsm2.out k3 hk3
            by_cases hlt3 : k3 < l2.length
            · obtain ⟨hok, b, o, rfl, hbB, c0, c1, c2', c3, c4⟩ := (H2.out.below htwo.below).2 k3 hlt3
              have hact := htwo.act hB l2[k3] hok (by omega) (Hsm2.out k3 hlt3).1
              rw [← foldD_succ d1 l2 k3 hlt3] at hact
              clear htwo
              go_wp2_with fail
              refine hact.mono ?_
              rintro e w3 ⟨rfl, htwo⟩
              go_wp2_with fail
              go_round
              case rel => exact ⟨k3 + 1, by omega, by go_num, htwo⟩
              case measure => simp [intOf]; omega
            · have hkl3 : k3 = l2.length := by omega
              subst hkl3
              generalize foldD d1 l2 l2.length = dE at htwo
              have Htwo := Lib.hid htwo
              clear htwo HT7 HT HI H H2 Hsm Hsm2 hpl hpl2 hpl3
              go_wp2_with (go_at_call 26; refine (disk_Read_nil _ _ _).mono ?_; rintro e w' ⟨rfl, rfl⟩)
              refine (disk_Fail_nil _ _).mono ?_
              rintro e w' ⟨rfl, rfl⟩
              go_wp2_with fail
              refine (disk_Restart_nil _ _ ⟨_, _, _, rfl⟩).mono ?_
              rintro e w7 ⟨rfl, k7⟩
              have hT7 := Htwo.out.kept hB (((Kept.refl [] _).alloc (.cells #[.bool true] 4)).trans k7)
              have HT7 := Lib.hid hT7
              clear hT7 k7 Htwo
              go_wp2_with fail
              refine (alive_true _).mono ?_
              rintro e w8 ⟨rfl, k8⟩
              have hT8 := HT7.out.kept hB k8
              obtain ⟨F8, hP8⟩ := hT8.pd
              obtain ⟨F9, hP9⟩ := hT8.symm.pd
              have hbel8 := hT8.below
              clear hT8 HT7 k8
              go_wp2_with fail
              refine (disk_Bytes _ g2 F8 dE hP8).mono ?_
              rintro e w' ⟨rfl, rfl⟩
              go_wp2_with fail
              refine (disk_Bytes _ g F9 dE hP9).mono ?_
              rintro e w' ⟨rfl, rfl⟩
              go_wp2_with fail
              refine (disk_Write_nil _ _ _).mono ?_
              rintro e w' ⟨rfl, rfl⟩
              go_wp2_with fail
              refine (disk_Flush_nil _).mono ?_
              rintro e w' ⟨rfl, rfl⟩
              go_wp2_with fail
              refine (disk_Pending_nil _).mono ?_
              rintro e w' ⟨rfl, rfl⟩
              go_wp2_with fail
              refine (disk_Sectors_nil _).mono ?_
              rintro e w' ⟨rfl, rfl⟩
              go_wp2_with fail
              refine (disk_Dead_nil _).mono ?_
              rintro e w' ⟨rfl, rfl⟩
              go_wp2_with fail
              refine (disk_Bytes_nil _).mono ?_
              rintro e w' ⟨rfl, rfl⟩
              go_wp2_with fail
              refine (disk_Clone_nil _).mono ?_
              rintro e w' ⟨rfl, rfl⟩
              go_wp2_with fail
              refine (disk_New_no _ _ (by decide)).mono ?_
              rintro e w' ⟨rfl, rfl⟩
              go_wp2_with fail
              refine (disk_New_no _ _ (by decide)).mono ?_
              rintro e w' ⟨rfl, rfl⟩
              go_wp2_with fail
              go_ret
              exact ⟨rfl, hbel8⟩

theorem DiskClone_run (w : World) (B : Nat) (data : List UInt8) (A A2 : Option Addr) (c c2 : Nat) (l l2 : List Act) (h : ActsRd w B A l) (h2 : ActsRd w B A2 l2) (hB : B ≤ w.heap.size) (hdl : data.length ≤ 140737488351232) :
    Calls Try.prog 8 #[.string ⟨data.toArray⟩, .slice A l.length c, .slice A2 l2.length c2] w fun e w' => e = .returned (.bool true) ∧ Below B w w' := by
  by_cases h1 : fitsB l = true
  · by_cases h3 : fitsB l2 = true
    · by_cases h4 : data.length ≤ 2560
      · exact DiskClone_yes w B data A A2 c c2 l l2 h h2 hB h1 h3 h4
      · exact DiskClone_no w B data A A2 c c2 l l2 h h2 hB hdl (.inr (by omega))
    · exact DiskClone_no w B data A A2 c c2 l l2 h h2 hB hdl (.inl (.inr (by simpa using h3)))
  · exact DiskClone_no w B data A A2 c c2 l l2 h h2 hB hdl (.inl (.inl (by simpa using h1)))
end Go.Proofs.Ytgdbafinncajfaa
