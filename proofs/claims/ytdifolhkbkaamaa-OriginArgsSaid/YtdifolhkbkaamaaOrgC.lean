/- The law's own small questions: fits; the live one. -/
import Derived.Test.YtdifolhkbkaamaaOrgB
import Derived.Test.YtdifolhkbkaamaaRefD
namespace Go.Proofs.Ytdifolhkbkaamaa
open Go.RowKit

def one97 : List UInt8 := 97 :: List.replicate 63 0
def D30 : D := ⟨List.replicate 30 zsec, [], -1, false⟩
def E30 : D := ⟨List.replicate 30 zsec, [(21, one97)], -1, false⟩
theorem load97 : (loadS [97] 1).flatten = one97 := by decide +kernel
theorem write30 : D30.write (17 + 4) ((one97 ++ one97).take (1 * 64)) = (0, E30) := by
  have h1 : (D30.write (17 + 4) ((one97 ++ one97).take (1 * 64))).1 = 0 := by decide +kernel
  have h2 : (D30.write (17 + 4) ((one97 ++ one97).take (1 * 64))).2.ps = [(21, one97)] := by decide +kernel
  have h3 : (D30.write (17 + 4) ((one97 ++ one97).take (1 * 64))).2.ss = List.replicate 30 zsec := by decide +kernel
  have h4 : (D30.write (17 + 4) ((one97 ++ one97).take (1 * 64))).2.fuse = -1 := by decide +kernel
  have h5 : (D30.write (17 + 4) ((one97 ++ one97).take (1 * 64))).2.dead = false := by decide +kernel
  generalize D30.write (17 + 4) ((one97 ++ one97).take (1 * 64)) = r at *
  obtain ⟨a, ⟨ss, ps, fu, de⟩⟩ := r
  simp only at h1 h2 h3 h4 h5
  subst h1 h2 h3 h4 h5
  rfl
theorem read30a : E30.read (17 + 4) 1 = (one97, 0) := by
  have h1 : (E30.read (17 + 4) 1).1 = one97 := by decide +kernel
  have h2 : (E30.read (17 + 4) 1).2 = 0 := by decide +kernel
  exact Prod.ext h1 h2
theorem read30b : E30.read 21 2 = (one97 ++ List.replicate 64 0, 0) := by
  have h1 : (E30.read 21 2).1 = one97 ++ List.replicate 64 0 := by decide +kernel
  have h2 : (E30.read 21 2).2 = 0 := by decide +kernel
  exact Prod.ext h1 h2
set_option maxRecDepth 8000 in
set_option maxHeartbeats 4000000 in
theorem org_alive (w : World) : Calls Try.prog 14 #[] w fun e w' => e = .returned (.bool true) ∧ Kept [] w w' := by
  have hw30 : wfS ⟨30, 5, 2⟩ := by unfold wfS; decide
  have hr30 : rightS ⟨30, 5, 2⟩ = true := by decide
  have hg : rightG 5 2 = true := by decide
  obtain ⟨O, hO⟩ : ∃ O, one97 = O := ⟨_, rfl⟩
  have hOl : O.length = 64 := by rw [← hO]; decide
  go_enter Try.func14, Try.ntmps14
  go_wp2_with fail
  refine (disk_New_yes 30 w (by decide)).mono ?_
  rintro e w1 ⟨gd, F, rfl, hd, k1, hF⟩
  go_wp2_with fail
  refine (layout_Of ⟨30, 5, 2⟩ hw30 _).mono ?_
  rintro e w2 ⟨rfl, k2⟩
  rw [if_pos hr30, if_pos hr30, show sv ⟨30, 5, 2⟩ = .agg #[.int .i64 30, .int .i64 5, .int .i64 2] from rfl]
  have hL2 := Blk.new w2 30 #[.int .i64 30, .int .i64 5, .int .i64 2]
  have hd2 := hd.kept (k2.alloc (.cells #[.int .i64 30, .int .i64 5, .int .i64 2] 30)) (fun x hx h => by cases h)
  have HK2 := Lib.hid ((k1.trans k2).alloc (.cells #[.int .i64 30, .int .i64 5, .int .i64 2] 30))
  go_wp2_with fail
  refine (origin_Of_some ⟨30, 5, 2⟩ hr30 _ gd F _ hd2).mono ?_
  rintro e w3 ⟨k3, hB⟩
  rw [if_neg (by simp)] at hB
  obtain ⟨B, rfl, hBw, hBB⟩ := hB
  have HB3 : Hid (OB w3 B gd 5 2) := hBB
  have hd3 := hd2.kept k3 (fun x hx h => by cases h)
  have HK3 := Lib.hid (HK2.out.trans k3)
  have hBF : B ∉ F := fun h => by
    have := hd2.lt B h
    omega
  have HD3 : Hid (PD w3 gd F D30) := hd3
  have HFw := Lib.hid hF
  clear hd hd2 hd3 hL2 hF hBB k1 k2 k3 hBw HK2
  go_wp2_with fail
  refine (ref_Load [97] 1 w3 (by decide) (by decide)).mono ?_
  rintro e w4 ⟨gr, Fr, rfl, hr4, k4, _⟩
  go_wp2_with fail
  refine (ref_Bytes w4 gr Fr _ hr4).mono ?_
  rintro e w5 ⟨rfl, rfl⟩
  rw [show (D.mk (loadS [97] 1) [] (-1) false).ss.flatten = O from load97.trans hO, show str O = .string ⟨O.toArray⟩ from rfl]
  have HB4 := Lib.hid (HB3.out.kept k4 (fun h => by cases h))
  have HD4 := Lib.hid (HD3.out.kept k4 (fun x hx h => by cases h))
  have HK4 := Lib.hid (HK3.out.trans k4)
  have happ := app_arr O O
  have hwr : D30.write (17 + 4) ((O ++ O).take (1 * 64)) = (0, E30) := by rw [← hO]; exact write30
  have hra : E30.read (17 + 4) 1 = (O, 0) := by rw [← hO]; exact read30a
  have hrb : E30.read 21 2 = (O ++ List.replicate 64 0, 0) := by rw [← hO]; exact read30b
  have hZ0 : (O ++ List.replicate 64 0)[0]? = some 97 := by rw [← hO]; decide
  have hZ64 : (O ++ List.replicate 64 0)[64]? = some 0 := by rw [← hO]; decide
  have hZl : (O ++ List.replicate 64 0).length = 128 := by simp [hOl]
  have HP := Lib.hid (org_Put w5 B gd F D30 5 2 2 4 1 (O ++ O) 0 E30 HB4.out hBF HD4.out hg (by decide) (by decide) (by decide) (by decide) (by decide) (by simp [hOl]) (by decide) (by decide) hwr)
  clear hr4 k4 hwr hO HB3 HD3 HK3
  go_wp2_with fail
  refine HP.out.mono ?_
  rintro e w6 ⟨rfl, ⟨F2, hd6, hF2⟩, k6⟩
  have HB6 := Lib.hid (HB4.out.kept k6 hBF)
  have HD6 := Lib.hid hd6
  have HK6 := Lib.hid (HK4.out.trans' k6 (fun x hx => .inr (HFw.out x hx)))
  have HC := Lib.hid (org_Chunk w6 B gd F2 E30 5 2 2 4 1 O 0 64 HB6.out hd6 hg (by decide) (by decide) (by decide) (by decide) (by decide) hra (by simp [hOl]))
  clear hd6 k6 HP HB4 HD4 HK4 hF2
  obtain ⟨Z, hZ⟩ : ∃ Z, O ++ List.replicate 64 0 = Z := ⟨_, rfl⟩
  rw [hZ] at hrb hZ0 hZ64 hZl
  go_wp2_with fail
  refine HC.out.mono ?_
  rintro e w7 ⟨he, k7⟩
  simp only [↓reduceIte, hZ] at he
  subst he
  have HB7 := Lib.hid (HB6.out.kept k7 (fun h => by cases h))
  have HD7 := Lib.hid (HD6.out.kept k7 (fun x hx h => by cases h))
  have HR := org_Read_one w7 B gd F2 E30 5 2 4 HB7.out HD7.out hg (by decide) (by decide)
  rw [hra] at HR
  have HR := Lib.hid HR
  clear HC HB6 HD6 hZ hra
  go_wp2_with fail
  refine HR.out.mono ?_
  rintro e w8 ⟨rfl, k8⟩
  have HB8 := Lib.hid (HB7.out.kept k8 (fun h => by cases h))
  have HD8 := Lib.hid (HD7.out.kept k8 (fun x hx h => by cases h))
  clear HR HB7 HD7
  go_wp2_with fail
  refine (org_Read_far w8 B gd 5 2 HB8.out hg).mono ?_
  rintro e w9 ⟨rfl, k9⟩
  have HD9 := Lib.hid (HD8.out.kept k9 (fun x hx h => by cases h))
  have HR2 := disk_Read w9 gd F2 E30 HD9.out 21 2
  rw [hrb] at HR2
  have HR2 := Lib.hid HR2
  clear HB8 HD8 HD9 hrb
  go_wp2_with fail
  refine HR2.out.mono ?_
  rintro e wa ⟨rfl, ka⟩
  have HKa := Lib.hid ((((HK6.out.trans k7).trans k8).trans k9).trans ka)
  have z0 : (⟨Z.toArray⟩ : ByteArray)[0]'(by show 0 < Z.length; omega) = 97 := (List.getElem?_eq_some_iff.1 hZ0).2
  have z64 : (⟨Z.toArray⟩ : ByteArray)[64]'(by show 64 < Z.length; omega) = 0 := (List.getElem?_eq_some_iff.1 hZ64).2
  clear k7 k8 k9 ka HR2 hZ0 hZ64 HK6
  go_wp2_with fail
  go_ret
  exact ⟨rfl, HKa.out⟩
end Go.Proofs.Ytdifolhkbkaamaa
