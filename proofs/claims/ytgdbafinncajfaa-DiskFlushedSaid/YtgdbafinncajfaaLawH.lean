/- The second law's walk: what a flush and a restart leave. -/
import Derived.Test.YtgdbafinncajfaaLawG
namespace Go.Proofs.Ytgdbafinncajfaa
open Go.RowKit

set_option maxRecDepth 8000 in
set_option maxHeartbeats 4000000 in
theorem DiskFlushed_no (w : World) (B : Nat) (data : List UInt8) (A Ak : Option Addr) (c ck : Nat) (l : List Act) (kl : List Bool) (h : ActsRd w B A l) (hkl : KeepRd w B Ak kl) (hB : B ≤ w.heap.size) (hdl : data.length ≤ 140737488351232) (hno : fitsB l = false ∨ 2560 < data.length ∨ 1000 < kl.length) :
    Calls Try.prog 7 #[.string ⟨data.toArray⟩, .slice A l.length c, .slice Ak kl.length ck] w fun e w' => e = .returned (.bool true) ∧ Below B w w' := by
  have hkk := hkl.1
  unfold maxLen at hkk
  go_enter Try.func7, Try.ntmps7
  go_wp2_with fail
  refine (fits_run w B A c l h).mono ?_
  rintro e w1 ⟨rfl, rfl⟩
  go_wp2_with fail
  refine (fits_no w data hdl).mono ?_
  rintro e w1 ⟨p, rfl, k1⟩
  cases hf : fitsB l
  · go_wp2_with (go_at_call 18; refine (alive_true _).mono ?_; rintro e w2 ⟨rfl, k2⟩)
    go_ret
    exact ⟨rfl, (k1.trans k2).below hB (fun _ h => by cases h)⟩
  · by_cases h2 : 2560 < data.length
    · go_wp2_with (go_at_call 18; refine (alive_true _).mono ?_; rintro e w2 ⟨rfl, k2⟩)
      go_ret
      exact ⟨rfl, (k1.trans k2).below hB (fun _ h => by cases h)⟩
    · have h3 : 1000 < kl.length := by
        rcases hno with h1 | h1 | h1
        · rw [hf] at h1; cases h1
        · omega
        · exact h1
      go_wp2_with (go_at_call 18; refine (alive_true _).mono ?_; rintro e w2 ⟨rfl, k2⟩)
      go_ret
      exact ⟨rfl, (k1.trans k2).below hB (fun _ h => by cases h)⟩

set_option maxRecDepth 8000 in
set_option maxHeartbeats 16000000 in
theorem DiskFlushed_yes (w : World) (B : Nat) (data : List UInt8) (A Ak : Option Addr) (c ck : Nat) (l : List Act) (kl : List Bool) (h : ActsRd w B A l) (hkl : KeepRd w B Ak kl) (hB : B ≤ w.heap.size) (hyes : fitsB l = true) (hl : data.length ≤ 2560) (hk1000 : kl.length ≤ 1000) :
    Calls Try.prog 7 #[.string ⟨data.toArray⟩, .slice A l.length c, .slice Ak kl.length ck] w fun e w' => e = .returned (.bool true) ∧ Below B w w' := by
  obtain ⟨h60, hsm⟩ := fits_of hyes
  have Hsm := Lib.hid hsm
  clear hsm
  go_enter Try.func7, Try.ntmps7
  go_wp2_with fail
  refine (fits_run w B A c l h).mono ?_
  rintro e w1 ⟨rfl, rfl⟩
  rw [hyes]
  go_wp2_with fail
  refine (disk_Load_yes w data _ rfl (by omega)).mono ?_
  rintro e w1 ⟨g, F, rfl, hP, k1, hF⟩
  have HI : Hid (Fl w B g (.slice none 0 0) ⟨loadS data ((data.length + 63) / 64), [], -1, false⟩ [] w1) :=
    ⟨⟨F, hP, fun x hx => by have := hF x hx; omega, fun k h => by simp [Value.ownBlock] at h⟩, World.ownsRow_nil _ _ _ _, fun k h => by simp [Value.ownBlock] at h, k1.below hB (fun _ h => by cases h)⟩
  have H := Lib.hid h
  have Hkl := Lib.hid hkl
  clear hP k1 hF h hyes hkl
  go_wp2_with fail
  go_loopw [9, 10] (fun s i W => ∃ (k : Nat) (d : D) (sl : List (Nat × List UInt8)) (Av : Option Addr) (cv : Nat), k ≤ l.length ∧ i = .int .i64 k ∧ s = .slice Av sl.length cv ∧ Hid (Fl w B g s d sl W) ∧ Hid (∀ p ∈ d.ps, p ∈ sl) ∧ d.ps.length ≤ k * 16 ∧ sl.length ≤ k * 16) (fun _ i _ => l.length - (intOf i).toNat)
  case atStart => exact ⟨0, _, [], none, 0, by omega, rfl, rfl, HI, (fun p h => by cases h), Nat.zero_le _, Nat.zero_le _⟩
  case round =>
    obtain ⟨k, d, sl, Av, cv, hk, rfl, rfl, HFl, HS, hpl, hsl⟩ := hrel
    have hl60 : l.length ≤ maxLen := H.out.1
    unfold maxLen at hl60
    obtain ⟨F1, hP1⟩ := HFl.out.disk
    have few := hP1.ok.few
    by_cases hlt : k < l.length
    · go_wp2_with (go_at_call 25; refine (disk_Sectors _ g F1 d hP1).mono ?_; rintro e w' ⟨rfl, rfl⟩)
      refine (disk_Read _ g F1 d hP1 0 _).mono ?_
      rintro e w3 ⟨rfl, k3⟩
      have hP3 := hP1.kept k3 (fun _ _ h => by cases h)
      have HFl3 := Lib.hid (HFl.out.kept hB k3)
      clear HFl hP1 k3
      go_wp2_with (go_at_call 21; refine (disk_Pending _ g F1 d hP3).mono ?_; rintro e w' ⟨rfl, rfl⟩)
      have hbel3 := HFl3.out.bel
      obtain ⟨hok3, b, o, rfl, hbB, c0, c1, c2, c3, c4⟩ := (H.out.below hbel3).2 k hlt
      have hsz3 := hbel3.size
      have hsmk := (Hsm.out k hlt).1
      have HR0 : Hid (hP3.ok = hP3.ok) := rfl
      obtain ⟨f, hf, hfr⟩ := actD_fresh d l[k] hP3.ok
      have hfl := flush_reads d hP3.ok
      have hpl2 := actD_pl d l[k] hsmk
      have Hf := Lib.hid hfr
      have Hfl := Lib.hid hfl
      have HP3 := Lib.hid hP3
      clear hfr hfl hP3 HR0
      go_wp2_with fail
      go_region_held3 (fun w' => w'.cell? ⟨b, o + k * 5, none⟩ = some (.int .u8 (l[k].kind : Int)) ∧ w'.cell? ⟨b, o + k * 5 + 1, none⟩ = some (.int .i64 l[k].at_) ∧ w'.cell? ⟨b, o + k * 5 + 2, none⟩ = some (.int .i64 l[k].n) ∧ w'.cell? ⟨b, o + k * 5 + 3, none⟩ = some (.string ⟨l[k].data.toArray⟩) ∧ w'.cell? ⟨b, o + k * 5 + 4, none⟩ = some (.slice l[k].Ak l[k].kl.length l[k].ck))
        (first | go_keep | (go_split_ands; exact ⟨k4.cell ‹_› (fun h => by cases h), k4.cell ‹_› (fun h => by cases h), k4.cell ‹_› (fun h => by cases h), k4.cell ‹_› (fun h => by cases h), k4.cell ‹_› (fun h => by cases h)⟩) | (go_split_ands; exact ⟨hb5.cell_some ‹_› hbB, hb5.cell_some ‹_› hbB, hb5.cell_some ‹_› hbB, hb5.cell_some ‹_› hbB, hb5.cell_some ‹_› hbB⟩))
        (first | (go_at_call 27; refine (ref_New 0 _ (by decide)).mono ?_; rintro e w4 ⟨gm, Fm, rfl, hR4, k4, hFm4⟩)
               | (go_at_call 20; refine (HFl3.out.act hB (((Kept.refl [] w3).drew).trans k4) hR4 hFm4 l[k] (hok3.below ((((Kept.refl [] w3).drew).trans k4).below (by omega) (fun _ h => by cases h))) (by omega) (Nat.zero_le _) hsmk).mono ?_; rintro e w5 ⟨⟨bl, rfl⟩, hFl5, hb5⟩))
      have HFl5 := Lib.hid hFl5
      obtain ⟨F5, hP5⟩ := hFl5.disk
      have hbel5 := hFl5.bel
      have few5 := hP5.ok.few
      have hck := hok3.kind
      clear hFl5 hR4 k4 hFm4 hb5 c0 c1 c2 c3 c4 hok3 HFl3 HP3
      obtain ⟨_, b', o', e', hbB', c0, c1, c2, c3, c4⟩ := (H.out.below hbel5).2 k hlt
      injection e' with e'
      injection e' with e1 e2
      subst e1 e2
      clear c2 c4
      generalize hd5 : actD d l[k] = d5 at *
      have HSf : Hid (∀ p ∈ d5.ps, p ∈ sl ∨ ∃ q, 0 ≤ q ∧ q < f ∧ p = (l[k].at_.toNat + q, (l[k].data.drop (q * 64)).take 64)) := fun p hp => by
        rcases Hf.out with h | ⟨h, _⟩
        · rw [h] at hp
          rcases List.mem_append.1 hp with h1 | h1
          · exact .inl (HS.out p h1)
          · unfold freshL at h1
            obtain ⟨q, hq, rfl⟩ := List.mem_map.1 h1
            exact .inr ⟨q, Nat.zero_le _, by simpa using hq, rfl⟩
        · rw [h] at hp; cases hp
      have hfr2 : ((d5.ps.length : Int) - (d.ps.length : Int) = f) ∨ (f = 0 ∧ (d5.ps.length : Int) - (d.ps.length : Int) ≤ 0) := by
        rcases Hf.out with h | ⟨h, h0⟩
        · left; rw [h]; simp [freshL]; omega
        · right; rw [h]; simp [h0]
      have hpl5 : d5.ps.length ≤ (k + 1) * 16 := by omega
      have hi64 : IntKind.i64.wrap ((d5.ps.length : Int) - (d.ps.length : Int)) = (d5.ps.length : Int) - (d.ps.length : Int) := IntWalk.i64_in _ (by omega)
      have HF2 : Hid ((l[k].kind : Int) % 5 = 2 → d5.dead = false → (d.read 0 d.ss.length).2 = 0 → d5.ss.flatten = (d.read 0 d.ss.length).1) := fun q1 q3 q4 => by
        rw [← hd5, actD_2 _ _ q1] at q3 ⊢
        exact Hfl.out q4 q3
      clear Hf Hfl hd5 HS
      have cP := disk_Pending w5 g F5 d5 hP5
      have cD := disk_Dead w5 g F5 d5 hP5
      have cB := disk_Bytes w5 g F5 d5 hP5
      have HF5 : Hid (d5.ps.length = 0 → Fl w B g (.slice none 0 0) d5 [] w5) := fun _ => HFl5.out.empty
      have HS5 : Hid (d5.ps.length = 0 → ∀ p ∈ d5.ps, p ∈ ([] : List (Nat × List UInt8)) ∨ ∃ q, 0 ≤ q ∧ q < f ∧ p = (l[k].at_.toNat + q, (l[k].data.drop (q * 64)).take 64)) := fun h p hp => by
        rw [List.length_eq_zero_iff.1 h] at hp; cases hp
      have hcase : ((l[k].kind : Int) % 5 = 2 ∧ d5.ps.length = 0 ∧ d5.dead = false ∧ (d.read 0 d.ss.length).2 = 0 ∧ d5.ss.flatten = (d.read 0 d.ss.length).1) ∨
          ((l[k].kind : Int) % 5 = 2 ∧ d5.ps.length = 0 ∧ d5.dead = false ∧ ((d.read 0 d.ss.length).2 == 0) = false) ∨
          ((l[k].kind : Int) % 5 = 2 ∧ d5.ps.length = 0 ∧ d5.dead = true) ∨ ((l[k].kind : Int) % 5 = 2 ∧ ((d5.ps.length : Int) == 0) = false) ∨
          (((l[k].kind : Int) % 5 == 2) = false ∧ d5.ps.length = 0) ∨ (((l[k].kind : Int) % 5 == 2) = false ∧ ((d5.ps.length : Int) == 0) = false) := by
        have hz : d5.ps.length = 0 ∨ ((d5.ps.length : Int) == 0) = false := by
          by_cases q : d5.ps.length = 0
          · exact .inl q
          · right; rw [beq_eq_false_iff_ne]; omega
        by_cases q1 : (l[k].kind : Int) % 5 = 2
        · rcases hz with q2 | q2
          · cases q3 : d5.dead
            · by_cases q4 : (d.read 0 d.ss.length).2 = 0
              · exact .inl ⟨q1, q2, rfl, q4, HF2.out q1 q3 q4⟩
              · exact .inr (.inl ⟨q1, q2, rfl, by rw [beq_eq_false_iff_ne]; exact q4⟩)
            · exact .inr (.inr (.inl ⟨q1, q2, rfl⟩))
          · exact .inr (.inr (.inr (.inl ⟨q1, q2⟩)))
        · have q1' : ((l[k].kind : Int) % 5 == 2) = false := by rw [beq_eq_false_iff_ne]; exact q1
          rcases hz with q2 | q2
          · exact .inr (.inr (.inr (.inr (.inl ⟨q1', q2⟩))))
          · exact .inr (.inr (.inr (.inr (.inr ⟨q1', q2⟩))))
      clear HF2 hP5 c1 c3
      rcases hcase with ⟨q1, q2, q3, q4, q5⟩ | ⟨q1, q2, q3, q4⟩ | ⟨q1, q2, q3⟩ | ⟨q1, q2⟩ | ⟨q1, q2⟩ | ⟨q1, q2⟩
      · rw [q2] at cP; rw [q3] at cD; rw [q5] at cB; clear q5 q3
        go_wp2_with (first | (go_at_call 21; refine cP.mono ?_; rintro e w' ⟨rfl, rfl⟩) | (go_at_call 22; refine cD.mono ?_; rintro e w' ⟨rfl, rfl⟩) | (go_at_call 23; refine cB.mono ?_; rintro e w' ⟨rfl, rfl⟩))
        go_loopw [9, 15] (fun s i W => ∃ (j : Nat) (sl2 : List (Nat × List UInt8)) (Av2 : Option Addr) (cv2 : Nat), j ≤ f ∧ i = .int .i64 j ∧ s = .slice Av2 sl2.length cv2 ∧ Hid (Fl w B g s d5 sl2 W) ∧ Hid (∀ p ∈ d5.ps, p ∈ sl2 ∨ ∃ q, j ≤ q ∧ q < f ∧ p = (l[k].at_.toNat + q, (l[k].data.drop (q * 64)).take 64)) ∧ sl2.length ≤ k * 16 + j) (fun _ i _ => f - (intOf i).toNat)
        case atStart => exact ⟨0, [], none, 0, Nat.zero_le _, rfl, rfl, (HF5.out q2), (HS5.out q2), by simp only [List.length_nil]; omega⟩
        case round =>
          obtain ⟨j, sl2, Av2, cv2, hj, rfl, rfl, HFj, HSj, hsl2⟩ := hrel
          clear HF5 HS5 HSf HFl5 cP cD cB
          by_cases hlt2 : j < f
          · omega
          · have hx : ¬ ((j : Int) < -(d.ps.length : Int)) := by omega
            have HS7 : Hid (∀ p ∈ d5.ps, p ∈ sl2) := fun p hp => by
              rcases HSj.out p hp with h | ⟨q, h1, h2, _⟩
              · exact h
              · omega
            clear HSj
            go_wp2_with fail
            go_round
            case rel => exact ⟨k + 1, d5, sl2, Av2, cv2, by omega, by go_num, rfl, HFj, HS7, by omega, by omega⟩
            case measure => simp [intOf]; omega
      · rw [q2] at cP; rw [q3] at cD; clear q3
        go_wp2_with (first | (go_at_call 21; refine cP.mono ?_; rintro e w' ⟨rfl, rfl⟩) | (go_at_call 22; refine cD.mono ?_; rintro e w' ⟨rfl, rfl⟩) | (go_at_call 23; refine cB.mono ?_; rintro e w' ⟨rfl, rfl⟩))
        go_loopw [9, 15] (fun s i W => ∃ (j : Nat) (sl2 : List (Nat × List UInt8)) (Av2 : Option Addr) (cv2 : Nat), j ≤ f ∧ i = .int .i64 j ∧ s = .slice Av2 sl2.length cv2 ∧ Hid (Fl w B g s d5 sl2 W) ∧ Hid (∀ p ∈ d5.ps, p ∈ sl2 ∨ ∃ q, j ≤ q ∧ q < f ∧ p = (l[k].at_.toNat + q, (l[k].data.drop (q * 64)).take 64)) ∧ sl2.length ≤ k * 16 + j) (fun _ i _ => f - (intOf i).toNat)
        case atStart => exact ⟨0, [], none, 0, Nat.zero_le _, rfl, rfl, (HF5.out q2), (HS5.out q2), by simp only [List.length_nil]; omega⟩
        case round =>
          obtain ⟨j, sl2, Av2, cv2, hj, rfl, rfl, HFj, HSj, hsl2⟩ := hrel
          clear HF5 HS5 HSf HFl5 cP cD cB
          by_cases hlt2 : j < f
          · omega
          · have hx : ¬ ((j : Int) < -(d.ps.length : Int)) := by omega
            have HS7 : Hid (∀ p ∈ d5.ps, p ∈ sl2) := fun p hp => by
              rcases HSj.out p hp with h | ⟨q, h1, h2, _⟩
              · exact h
              · omega
            clear HSj
            go_wp2_with fail
            go_round
            case rel => exact ⟨k + 1, d5, sl2, Av2, cv2, by omega, by go_num, rfl, HFj, HS7, by omega, by omega⟩
            case measure => simp [intOf]; omega
      · rw [q2] at cP; rw [q3] at cD; clear q3
        go_wp2_with (first | (go_at_call 21; refine cP.mono ?_; rintro e w' ⟨rfl, rfl⟩) | (go_at_call 22; refine cD.mono ?_; rintro e w' ⟨rfl, rfl⟩) | (go_at_call 23; refine cB.mono ?_; rintro e w' ⟨rfl, rfl⟩))
        go_loopw [9, 15] (fun s i W => ∃ (j : Nat) (sl2 : List (Nat × List UInt8)) (Av2 : Option Addr) (cv2 : Nat), j ≤ f ∧ i = .int .i64 j ∧ s = .slice Av2 sl2.length cv2 ∧ Hid (Fl w B g s d5 sl2 W) ∧ Hid (∀ p ∈ d5.ps, p ∈ sl2 ∨ ∃ q, j ≤ q ∧ q < f ∧ p = (l[k].at_.toNat + q, (l[k].data.drop (q * 64)).take 64)) ∧ sl2.length ≤ k * 16 + j) (fun _ i _ => f - (intOf i).toNat)
        case atStart => exact ⟨0, [], none, 0, Nat.zero_le _, rfl, rfl, (HF5.out q2), (HS5.out q2), by simp only [List.length_nil]; omega⟩
        case round =>
          obtain ⟨j, sl2, Av2, cv2, hj, rfl, rfl, HFj, HSj, hsl2⟩ := hrel
          clear HF5 HS5 HSf HFl5 cP cD cB
          by_cases hlt2 : j < f
          · omega
          · have hx : ¬ ((j : Int) < -(d.ps.length : Int)) := by omega
            have HS7 : Hid (∀ p ∈ d5.ps, p ∈ sl2) := fun p hp => by
              rcases HSj.out p hp with h | ⟨q, h1, h2, _⟩
              · exact h
              · omega
            clear HSj
            go_wp2_with fail
            go_round
            case rel => exact ⟨k + 1, d5, sl2, Av2, cv2, by omega, by go_num, rfl, HFj, HS7, by omega, by omega⟩
            case measure => simp [intOf]; omega
      · skip
        go_wp2_with (first | (go_at_call 21; refine cP.mono ?_; rintro e w' ⟨rfl, rfl⟩) | (go_at_call 22; refine cD.mono ?_; rintro e w' ⟨rfl, rfl⟩) | (go_at_call 23; refine cB.mono ?_; rintro e w' ⟨rfl, rfl⟩))
        go_loopw [9, 15] (fun s i W => ∃ (j : Nat) (sl2 : List (Nat × List UInt8)) (Av2 : Option Addr) (cv2 : Nat), j ≤ f ∧ i = .int .i64 j ∧ s = .slice Av2 sl2.length cv2 ∧ Hid (Fl w B g s d5 sl2 W) ∧ Hid (∀ p ∈ d5.ps, p ∈ sl2 ∨ ∃ q, j ≤ q ∧ q < f ∧ p = (l[k].at_.toNat + q, (l[k].data.drop (q * 64)).take 64)) ∧ sl2.length ≤ k * 16 + j) (fun _ i _ => f - (intOf i).toNat)
        case atStart => exact ⟨0, sl, Av, cv, Nat.zero_le _, rfl, rfl, HFl5.out, HSf.out, by omega⟩
        case round =>
          obtain ⟨j, sl2, Av2, cv2, hj, rfl, rfl, HFj, HSj, hsl2⟩ := hrel
          clear HF5 HS5 HSf HFl5 cP cD cB
          by_cases hlt2 : j < f
          · have hx : (j : Int) < (d5.ps.length : Int) - (d.ps.length : Int) := by omega
            obtain ⟨ha0, hfl, hfs⟩ : 0 ≤ l[k].at_ ∧ 64 * f ≤ l[k].data.length ∧ l[k].at_ + f ≤ d.ss.length := by
              rcases hf with h | h
              · omega
              · exact h
            obtain ⟨_, b', o', e', _, _, c1, _, c3, _⟩ := (H.out.below HFj.out.bel).2 k hlt
            injection e' with e'
            injection e' with e1 e2
            subst e1 e2
            have hown := HFj.out.own
            generalize hat : l[k].at_ = at_ at *
            generalize hdt : l[k].data = dt at *
            obtain ⟨an, rfl⟩ : ∃ an : Nat, at_ = an := ⟨at_.toNat, by omega⟩
            have hext : (⟨dt.toArray⟩ : ByteArray).extract (64 * j) (64 * j + 64) = ⟨((dt.drop (j * 64)).take 64).toArray⟩ := by
              rw [extract_list, Nat.mul_comm 64 j]; congr 2; rw [show j * 64 + 64 - j * 64 = 64 by omega]
            obtain ⟨i0, hi0, hz0, hz1, hz2⟩ := info_parts infoRW
            have w1 : IntKind.i64.wrap ((an : Int) + (j : Int)) = (an : Int) + j := IntWalk.i64_in _ (by omega)
            have w2 : IntKind.i64.wrap (64 * (j : Int)) = 64 * (j : Int) := IntWalk.i64_in _ (by omega)
            have w3' : IntKind.i64.wrap (64 * (j : Int) + 64) = 64 * (j : Int) + 64 := IntWalk.i64_in _ (by omega)
            have w5' : 0 ≤ 64 * (j : Int) := by omega
            have w6 : 0 ≤ 64 * (j : Int) + 64 := by omega
            have w7 : 64 * (j : Int) + 64 ≤ (dt.length : Int) := by omega
            have w8 : (64 * (j : Int)).toNat = 64 * j := by omega
            have w9 : (64 * (j : Int) + 64).toNat = 64 * j + 64 := by omega
            have wa : 64 * (j : Int) ≤ 64 * (j : Int) + 64 := by omega
            go_wp2_with fail
            go_region_law ((refine step_append_lies _ (by rfl) (.tmp 104) (.tmp 124) _ (by rfl) 0 58 i0 _ 2 24 Try.underlying49 hi0 hz0 hz1 hz2 rfl (by omega) _ _ _ (by rfl) ((hown.alloc _).drew) ⟨wr.heap.size, 0, none⟩ 1 1 (pcells (an + j, (dt.drop (j * 64)).take 64)) (by rfl) (by rfl) (World.news_of_block (cs := #[.int .i64 ((an : Int) + j), .string ⟨((dt.drop (j * 64)).take 64).toArray⟩]) (t := 58) (fr := (0, 0)) (heap_alloc_new wr _)) (by simp [pcells, Value.oneCell']) (by omega) (by simp only [maxLen]; omega) (by omega) (by omega) _ rfl ?_; intro gg cap wn hown2 hgrow hatg hltg; have hkW : Kept (Value.slice Av2 sl2.length cv2).ownBlock.toList wr wn := ((Kept.refl _ wr).alloc _).drew.grown hgrow (fun x hx => .inl (by simp [hx]))))
            all_goals
              go_wp2
              go_roundw
              case rel =>
                have hF9 := HFj.out.push hB hkW (p := (an + j, (dt.drop (j * 64)).take 64)) hown2 (by rcases hatg with h | h; exact .inl h; right; rw [h]; simp)
                refine ⟨j + 1, sl2 ++ [(an + j, (dt.drop (j * 64)).take 64)], some ⟨gg, 0, none⟩, cap, by omega, by go_num, by rw [List.length_append]; rfl, hF9, ?_, by rw [List.length_append]; simp only [List.length_cons, List.length_nil]; omega⟩
                intro p hp
                rcases HSj.out p hp with h | ⟨q, h1, h2, h3⟩
                · exact .inl (by simp [h])
                · by_cases hq : q = j
                  · left
                    rw [h3, hq]
                    simp
                  · exact .inr ⟨q, by omega, h2, h3⟩
              case measure => simp [intOf]; omega
          · have hx : ¬ ((j : Int) < (d5.ps.length : Int) - (d.ps.length : Int)) := by omega
            have HS7 : Hid (∀ p ∈ d5.ps, p ∈ sl2) := fun p hp => by
              rcases HSj.out p hp with h | ⟨q, h1, h2, _⟩
              · exact h
              · omega
            clear HSj
            go_wp2_with fail
            go_round
            case rel => exact ⟨k + 1, d5, sl2, Av2, cv2, by omega, by go_num, rfl, HFj, HS7, by omega, by omega⟩
            case measure => simp [intOf]; omega
      · rw [q2] at cP
        go_wp2_with (first | (go_at_call 21; refine cP.mono ?_; rintro e w' ⟨rfl, rfl⟩) | (go_at_call 22; refine cD.mono ?_; rintro e w' ⟨rfl, rfl⟩) | (go_at_call 23; refine cB.mono ?_; rintro e w' ⟨rfl, rfl⟩))
        go_loopw [9, 15] (fun s i W => ∃ (j : Nat) (sl2 : List (Nat × List UInt8)) (Av2 : Option Addr) (cv2 : Nat), j ≤ f ∧ i = .int .i64 j ∧ s = .slice Av2 sl2.length cv2 ∧ Hid (Fl w B g s d5 sl2 W) ∧ Hid (∀ p ∈ d5.ps, p ∈ sl2 ∨ ∃ q, j ≤ q ∧ q < f ∧ p = (l[k].at_.toNat + q, (l[k].data.drop (q * 64)).take 64)) ∧ sl2.length ≤ k * 16 + j) (fun _ i _ => f - (intOf i).toNat)
        case atStart => exact ⟨0, [], none, 0, Nat.zero_le _, rfl, rfl, (HF5.out q2), (HS5.out q2), by simp only [List.length_nil]; omega⟩
        case round =>
          obtain ⟨j, sl2, Av2, cv2, hj, rfl, rfl, HFj, HSj, hsl2⟩ := hrel
          clear HF5 HS5 HSf HFl5 cP cD cB
          by_cases hlt2 : j < f
          · omega
          · have hx : ¬ ((j : Int) < -(d.ps.length : Int)) := by omega
            have HS7 : Hid (∀ p ∈ d5.ps, p ∈ sl2) := fun p hp => by
              rcases HSj.out p hp with h | ⟨q, h1, h2, _⟩
              · exact h
              · omega
            clear HSj
            go_wp2_with fail
            go_round
            case rel => exact ⟨k + 1, d5, sl2, Av2, cv2, by omega, by go_num, rfl, HFj, HS7, by omega, by omega⟩
            case measure => simp [intOf]; omega
      · skip
        go_wp2_with (first | (go_at_call 21; refine cP.mono ?_; rintro e w' ⟨rfl, rfl⟩) | (go_at_call 22; refine cD.mono ?_; rintro e w' ⟨rfl, rfl⟩) | (go_at_call 23; refine cB.mono ?_; rintro e w' ⟨rfl, rfl⟩))
        go_loopw [9, 15] (fun s i W => ∃ (j : Nat) (sl2 : List (Nat × List UInt8)) (Av2 : Option Addr) (cv2 : Nat), j ≤ f ∧ i = .int .i64 j ∧ s = .slice Av2 sl2.length cv2 ∧ Hid (Fl w B g s d5 sl2 W) ∧ Hid (∀ p ∈ d5.ps, p ∈ sl2 ∨ ∃ q, j ≤ q ∧ q < f ∧ p = (l[k].at_.toNat + q, (l[k].data.drop (q * 64)).take 64)) ∧ sl2.length ≤ k * 16 + j) (fun _ i _ => f - (intOf i).toNat)
        case atStart => exact ⟨0, sl, Av, cv, Nat.zero_le _, rfl, rfl, HFl5.out, HSf.out, by omega⟩
        case round =>
          obtain ⟨j, sl2, Av2, cv2, hj, rfl, rfl, HFj, HSj, hsl2⟩ := hrel
          clear HF5 HS5 HSf HFl5 cP cD cB
          by_cases hlt2 : j < f
          · have hx : (j : Int) < (d5.ps.length : Int) - (d.ps.length : Int) := by omega
            obtain ⟨ha0, hfl, hfs⟩ : 0 ≤ l[k].at_ ∧ 64 * f ≤ l[k].data.length ∧ l[k].at_ + f ≤ d.ss.length := by
              rcases hf with h | h
              · omega
              · exact h
            obtain ⟨_, b', o', e', _, _, c1, _, c3, _⟩ := (H.out.below HFj.out.bel).2 k hlt
            injection e' with e'
            injection e' with e1 e2
            subst e1 e2
            have hown := HFj.out.own
            generalize hat : l[k].at_ = at_ at *
            generalize hdt : l[k].data = dt at *
            obtain ⟨an, rfl⟩ : ∃ an : Nat, at_ = an := ⟨at_.toNat, by omega⟩
            have hext : (⟨dt.toArray⟩ : ByteArray).extract (64 * j) (64 * j + 64) = ⟨((dt.drop (j * 64)).take 64).toArray⟩ := by
              rw [extract_list, Nat.mul_comm 64 j]; congr 2; rw [show j * 64 + 64 - j * 64 = 64 by omega]
            obtain ⟨i0, hi0, hz0, hz1, hz2⟩ := info_parts infoRW
            have w1 : IntKind.i64.wrap ((an : Int) + (j : Int)) = (an : Int) + j := IntWalk.i64_in _ (by omega)
            have w2 : IntKind.i64.wrap (64 * (j : Int)) = 64 * (j : Int) := IntWalk.i64_in _ (by omega)
            have w3' : IntKind.i64.wrap (64 * (j : Int) + 64) = 64 * (j : Int) + 64 := IntWalk.i64_in _ (by omega)
            have w5' : 0 ≤ 64 * (j : Int) := by omega
            have w6 : 0 ≤ 64 * (j : Int) + 64 := by omega
            have w7 : 64 * (j : Int) + 64 ≤ (dt.length : Int) := by omega
            have w8 : (64 * (j : Int)).toNat = 64 * j := by omega
            have w9 : (64 * (j : Int) + 64).toNat = 64 * j + 64 := by omega
            have wa : 64 * (j : Int) ≤ 64 * (j : Int) + 64 := by omega
            go_wp2_with fail
            go_region_law ((refine step_append_lies _ (by rfl) (.tmp 104) (.tmp 124) _ (by rfl) 0 58 i0 _ 2 24 Try.underlying49 hi0 hz0 hz1 hz2 rfl (by omega) _ _ _ (by rfl) ((hown.alloc _).drew) ⟨wr.heap.size, 0, none⟩ 1 1 (pcells (an + j, (dt.drop (j * 64)).take 64)) (by rfl) (by rfl) (World.news_of_block (cs := #[.int .i64 ((an : Int) + j), .string ⟨((dt.drop (j * 64)).take 64).toArray⟩]) (t := 58) (fr := (0, 0)) (heap_alloc_new wr _)) (by simp [pcells, Value.oneCell']) (by omega) (by simp only [maxLen]; omega) (by omega) (by omega) _ rfl ?_; intro gg cap wn hown2 hgrow hatg hltg; have hkW : Kept (Value.slice Av2 sl2.length cv2).ownBlock.toList wr wn := ((Kept.refl _ wr).alloc _).drew.grown hgrow (fun x hx => .inl (by simp [hx]))))
            all_goals
              go_wp2
              go_roundw
              case rel =>
                have hF9 := HFj.out.push hB hkW (p := (an + j, (dt.drop (j * 64)).take 64)) hown2 (by rcases hatg with h | h; exact .inl h; right; rw [h]; simp)
                refine ⟨j + 1, sl2 ++ [(an + j, (dt.drop (j * 64)).take 64)], some ⟨gg, 0, none⟩, cap, by omega, by go_num, by rw [List.length_append]; rfl, hF9, ?_, by rw [List.length_append]; simp only [List.length_cons, List.length_nil]; omega⟩
                intro p hp
                rcases HSj.out p hp with h | ⟨q, h1, h2, h3⟩
                · exact .inl (by simp [h])
                · by_cases hq : q = j
                  · left
                    rw [h3, hq]
                    simp
                  · exact .inr ⟨q, by omega, h2, h3⟩
              case measure => simp [intOf]; omega
          · have hx : ¬ ((j : Int) < (d5.ps.length : Int) - (d.ps.length : Int)) := by omega
            have HS7 : Hid (∀ p ∈ d5.ps, p ∈ sl2) := fun p hp => by
              rcases HSj.out p hp with h | ⟨q, h1, h2, _⟩
              · exact h
              · omega
            clear HSj
            go_wp2_with fail
            go_round
            case rel => exact ⟨k + 1, d5, sl2, Av2, cv2, by omega, by go_num, rfl, HFj, HS7, by omega, by omega⟩
            case measure => simp [intOf]; omega
    · have hkk := Hkl.out.1
      unfold maxLen at hkk
      go_wp2_with fail
      refine (disk_Bytes _ g F1 d hP1).mono ?_
      rintro e w' ⟨rfl, rfl⟩
      go_wp2_with fail
      refine (HFl.out.restart hB (Hkl.out.below HFl.out.bel)).mono ?_
      rintro e w7 ⟨rfl, hFl7⟩
      have hokd := hP1.ok
      have HO := Lib.hid hFl7.own
      have HFl7 := Lib.hid hFl7
      obtain ⟨F7, hP7⟩ := hFl7.disk
      have HX : Hid (∀ kk, (hkk : kk < d.ss.length) → (⟨(d.restart kl).ss.flatten.toArray⟩ : ByteArray).extract (64 * kk) (64 * kk + 64) = ⟨((d.restart kl).ss.getD kk []).toArray⟩ ∧ (⟨d.ss.flatten.toArray⟩ : ByteArray).extract (64 * kk) (64 * kk + 64) = ⟨(d.ss.getD kk []).toArray⟩ ∧
          ((d.restart kl).ss.getD kk [] = d.ss.getD kk [] ∨ ∃ q, ∃ hq : q < sl.length, sl[q] = (kk, (d.restart kl).ss.getD kk []))) := fun kk hkk => by
        have hlr : (d.restart kl).ss.length = d.ss.length := d.stand_len _ hokd
        refine ⟨?_, ?_, ?_⟩
        · rw [extract_list, Nat.mul_comm 64 kk, show kk * 64 + 64 - kk * 64 = 64 by omega, flat_get _ kk hP7.ok.s64 (by omega)]
          simp [List.getD, hlr, hkk]
        · rw [extract_list, Nat.mul_comm 64 kk, show kk * 64 + 64 - kk * 64 = 64 by omega, flat_get _ kk hokd.s64 hkk]
          simp [List.getD, hkk]
        · rcases stand_or (fun i => kl.getD i false) kk d.ps 0 d.ss hkk with h | ⟨p, hp, h1, h2⟩
          · exact .inl h
          · right
            obtain ⟨q, hq, he⟩ := List.mem_iff_getElem.1 (HS.out p hp)
            refine ⟨q, hq, ?_⟩
            rw [he]
            exact Prod.ext h1 h2
      have hlr : (d.restart kl).ss.length = d.ss.length := d.stand_len _ hokd
      have hps : (d.restart kl).ps.length = 0 := rfl
      have hdd : (d.restart kl).dead = false := rfl
      have few := hokd.few
      have hl1 : d.ss.flatten.length = 64 * d.ss.length := flat_len _ hokd.s64
      have hl2 : (d.restart kl).ss.flatten.length = 64 * d.ss.length := by rw [flat_len _ hP7.ok.s64, hlr]
      generalize d.restart kl = dR at *
      have cS := disk_Sectors w7 g F7 dR hP7
      rw [hlr] at cS
      have cB7 := disk_Bytes w7 g F7 dR hP7
      generalize d.ss.flatten = DS at *
      generalize dR.ss.flatten = DR at *
      have Hl1 := Lib.hid hl1
      have Hl2 := Lib.hid hl2
      have Hps := Lib.hid hps
      have Hdd := Lib.hid hdd
      clear hP1 HFl hokd hFl7 hlr hps hdd hl1 hl2 HS
      go_wp2_with fail
      refine cB7.mono ?_
      rintro e w' ⟨rfl, rfl⟩
      go_wp2_with fail
      go_loop [18] (fun i => ∃ kk : Nat, kk ≤ d.ss.length ∧ i = .int .i64 kk) (fun i => d.ss.length - (intOf i).toNat)
      case atStart => exact ⟨0, Nat.zero_le _, rfl⟩
      case round =>
        obtain ⟨kk, hkk2, rfl⟩ := hrel
        by_cases hlt3 : kk < d.ss.length
        · obtain ⟨hx1, hx2, hor⟩ := HX.out kk hlt3
          have HOr := Lib.hid hor
          have v2 : IntKind.i64.wrap (64 * (kk : Int)) = 64 * (kk : Int) := IntWalk.i64_in _ (by omega)
          have v3 : IntKind.i64.wrap (64 * (kk : Int) + 64) = 64 * (kk : Int) + 64 := IntWalk.i64_in _ (by omega)
          have v5 : 0 ≤ 64 * (kk : Int) := by omega
          have v6 : 0 ≤ 64 * (kk : Int) + 64 := by omega
          have v7 : 64 * (kk : Int) + 64 ≤ (DS.length : Int) := by rw [Hl1.out]; omega
          have v7' : 64 * (kk : Int) + 64 ≤ (DR.length : Int) := by rw [Hl2.out]; omega
          have v8 : (64 * (kk : Int)).toNat = 64 * kk := by omega
          have v9 : (64 * (kk : Int) + 64).toNat = 64 * kk + 64 := by omega
          have va : 64 * (kk : Int) ≤ 64 * (kk : Int) + 64 := by omega
          clear hor
          generalize hX : dR.ss.getD kk [] = X at hx1 HOr
          generalize hY : d.ss.getD kk [] = Y at hx2 HOr
          clear hX hY
          go_wp2_with (go_at_call 25; refine cS.mono ?_; rintro e w' ⟨rfl, rfl⟩)
          go_loop [20, 21] (fun bv i => ∃ (jj : Nat) (bb : Bool), jj ≤ sl.length ∧ i = .int .i64 jj ∧ bv = .bool bb ∧ Hid (bb = true ∨ ∃ q, jj ≤ q ∧ ∃ hq : q < sl.length, sl[q] = (kk, X))) (fun _ i => sl.length - (intOf i).toNat)
          case atStart =>
            refine ⟨0, _, Nat.zero_le _, rfl, rfl, ?_⟩
            rcases HOr.out with h | ⟨q, hq, h⟩
            · left; subst h; simp
            · exact .inr ⟨q, Nat.zero_le _, hq, h⟩
          case round =>
            obtain ⟨jj, bb, hjj, rfl, rfl, HB⟩ := hrel
            by_cases hlt4 : jj < sl.length
            · cases bb
              · obtain ⟨gv, cv', hv, _⟩ := own_some HO.out (by omega)
                injection hv with hv1 _ hv2
                subst hv1 hv2
                have ha1 := own_at (f := pcells) (l := sl) HO.out (fun _ => rfl) jj 0 hlt4 (by decide) rfl
                have ha2 := own_at (f := pcells) (l := sl) HO.out (fun _ => rfl) jj 1 hlt4 (by decide) rfl
                simp at ha1
                have HB2 : Hid (sl[jj].1 = kk → sl[jj].2 = X ∨ ∃ q, jj + 1 ≤ q ∧ ∃ hq : q < sl.length, sl[q] = (kk, X)) := fun _ => by
                  rcases HB.out with h | ⟨q, h1, hq, h2⟩
                  · cases h
                  · by_cases hqj : q = jj
                    · subst hqj; left; rw [h2]
                    · exact .inr ⟨q, by omega, hq, h2⟩
                have HB3 : Hid (sl[jj].1 ≠ kk → ∃ q, jj + 1 ≤ q ∧ ∃ hq : q < sl.length, sl[q] = (kk, X)) := fun hne => by
                  rcases HB.out with h | ⟨q, h1, hq, h2⟩
                  · cases h
                  · by_cases hqj : q = jj
                    · subst hqj; exact absurd (by rw [h2]) hne
                    · exact ⟨q, by omega, hq, h2⟩
                clear HB
                generalize sl[jj] = p at *
                obtain ⟨pa, pd⟩ := p
                simp only at ha1 ha2 HB2 HB3
                by_cases he : pa = kk
                · have HB4 := Lib.hid (HB2.out he)
                  subst he
                  clear HB2 HB3
                  go_wp2_with fail
                  go_round
                  case rel =>
                    refine ⟨jj + 1, _, by omega, by go_num, rfl, ?_⟩
                    rcases HB4.out with h | h
                    · left; subst h; simp
                    · exact .inr h
                  case measure => simp [intOf]; omega
                · have he2 : ((pa : Int) == (kk : Int)) = false := by rw [beq_eq_false_iff_ne]; omega
                  have HB4 := Lib.hid (HB3.out he)
                  clear HB2 HB3
                  go_wp2_with fail
                  go_round
                  case rel => exact ⟨jj + 1, _, by omega, by go_num, rfl, .inr HB4.out⟩
                  case measure => simp [intOf]; omega
              · go_wp2_with fail
                go_round
                case rel => exact ⟨jj + 1, true, by omega, by go_num, rfl, .inl rfl⟩
                case measure => simp [intOf]; omega
            · obtain rfl : bb = true := by
                rcases HB.out with h | ⟨q, h1, hq, _⟩
                · exact h
                · omega
              go_wp2_with fail
              go_round
              case rel => exact ⟨kk + 1, by omega, by go_num⟩
              case measure => simp [intOf]; omega
        · go_wp2_with (go_at_call 25; refine cS.mono ?_; rintro e w' ⟨rfl, rfl⟩)
          refine (alive_true _).mono ?_
          rintro e w8 ⟨rfl, k8⟩
          have hP8 := hP7.kept k8 (fun _ _ h => by cases h)
          have cP8 := disk_Pending w8 g F7 dR hP8
          have cD8 := disk_Dead w8 g F7 dR hP8
          rw [Hps.out] at cP8
          rw [Hdd.out] at cD8
          have hbel8 : Below B w w8 := HFl7.out.bel.trans (k8.below (Nat.le_trans hB HFl7.out.bel.size) (fun _ h => by cases h))
          clear hP8 hP7
          go_wp2_with (first | (go_at_call 21; refine cP8.mono ?_; rintro e w' ⟨rfl, rfl⟩) | (go_at_call 22; refine cD8.mono ?_; rintro e w' ⟨rfl, rfl⟩))
          go_ret
          exact ⟨rfl, hbel8⟩

theorem DiskFlushed_run (w : World) (B : Nat) (data : List UInt8) (A Ak : Option Addr) (c ck : Nat) (l : List Act) (kl : List Bool) (h : ActsRd w B A l) (hkl : KeepRd w B Ak kl) (hB : B ≤ w.heap.size) (hdl : data.length ≤ 140737488351232) :
    Calls Try.prog 7 #[.string ⟨data.toArray⟩, .slice A l.length c, .slice Ak kl.length ck] w fun e w' => e = .returned (.bool true) ∧ Below B w w' := by
  by_cases h1 : fitsB l = true
  · by_cases h3 : kl.length ≤ 1000
    · by_cases h4 : data.length ≤ 2560
      · exact DiskFlushed_yes w B data A Ak c ck l kl h hkl hB h1 h4 h3
      · exact DiskFlushed_no w B data A Ak c ck l kl h hkl hB hdl (.inr (.inl (by omega)))
    · exact DiskFlushed_no w B data A Ak c ck l kl h hkl hB hdl (.inr (.inr (by omega)))
  · exact DiskFlushed_no w B data A Ak c ck l kl h hkl hB hdl (.inl (by simpa using h1))
end Go.Proofs.Ytgdbafinncajfaa
