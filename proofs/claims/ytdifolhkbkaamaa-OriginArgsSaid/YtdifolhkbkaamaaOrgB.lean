/- An origin's chunks. -/
import Derived.Test.YtdifolhkbkaamaaOrgA
import Derived.Test.YtdifolhkbkaamaaShelf
namespace Go.Proofs.Ytdifolhkbkaamaa
open Go.RowKit

theorem rep_zero (n : Nat) : Lib.repeatL [0] n = List.replicate n (0 : UInt8) := by
  induction n with
  | zero => rfl
  | succ n ih => simp_all [Lib.repeatL, List.replicate_succ]
theorem app_arr (a b : List UInt8) : (⟨a.toArray⟩ : ByteArray) ++ ⟨b.toArray⟩ = ⟨(a ++ b).toArray⟩ := by
  apply ByteArray.ext
  simp [ByteArray.data_append]
set_option maxHeartbeats 2000000 in
theorem org_Chunk (w : World) (B gd : Nat) (F : List Nat) (d : D) (o c ch x m : Int) (rs : List UInt8) (re : Int) (n : Nat) (hB : OB w B gd o c) (hd : PD w gd F d) (hG : rightG o c = true) (h0 : 0 ≤ ch) (h1 : ch < (o + c - 1) / c) (hx : ch * c = x) (hm : min c (o - x) = m) (hxb : 0 ≤ x ∧ x ≤ 1048576)
    (hrs : d.read (17 + x) m = (rs, re)) (hn : (n : Int) = c * 64 - rs.length) :
    Calls Try.prog 10 #[.pointer (some ⟨B, 0, none⟩), .int .i64 ch] w fun e w' => (if re = 0 then e = .returned (.tuple #[.string ⟨(rs ++ List.replicate n 0).toArray⟩, .int .i64 0]) else e = .returned (.tuple #[.string ⟨#[]⟩, .int .i64 re])) ∧ Kept [] w w' := by
  have hr : (1 ≤ o ∧ o ≤ 1048576) ∧ 1 ≤ c ∧ c ≤ 128 := by simpa [rightG, and_assoc] using hG
  obtain ⟨b0, b1, b2, b3⟩ := hB.cells
  have hw : IntKind.i64.wrap (17 + x) = 17 + x := IntWalk.i64_in _ (by omega)
  have HSp := Lib.hid (fun W => geom_Span o c ch x m W hG h0 h1 hx hm hxb)
  have HN := Lib.hid hn
  have HX := Lib.hid hxb
  clear hx hm h1 hn
  go_enter Try.func10, Try.ntmps10
  go_wp2_with fail
  refine (HSp.out _).mono ?_
  rintro e w1 ⟨rfl, k1⟩
  have KA := (k1.alloc (.cells #[.int .i64 x, .int .i64 m] 48))
  have HB1 := Lib.hid (hB.kept KA (fun h => by cases h))
  have hX1 := Blk.new w1 48 #[.int .i64 x, .int .i64 m]
  have x0 : (w1.alloc (.cells #[.int .i64 x, .int .i64 m] 48)).cell? ⟨w1.heap.size, 0, none⟩ = some (.int .i64 x) := hX1.cell 0
  have x1 : (w1.alloc (.cells #[.int .i64 x, .int .i64 m] 48)).cell? ⟨w1.heap.size, 1, none⟩ = some (.int .i64 m) := hX1.cell 1
  have HD1 := Lib.hid (hd.kept KA.drew (fun x hx h => by cases h))
  obtain ⟨c0, c1, c2, c3⟩ := HB1.out.cells
  have HKA := Lib.hid KA
  clear b0 b1 b2 b3 hd k1 KA hX1
  go_wp2_with fail
  generalize w1.alloc (.cells #[.int .i64 x, .int .i64 m] 48) = w2 at *
  have HRd := disk_Read w2.drew gd F d HD1.out (17 + x) m
  rw [hrs] at HRd
  have HRd := Lib.hid HRd
  clear hrs HD1
  by_cases he : re = 0
  · subst he
    go_region_held3 (fun W => W.cell? ⟨B, 0, none⟩ = some (.pointer (some ⟨gd, 0, none⟩)) ∧ W.cell? ⟨B, 3, none⟩ = some (.int .i64 17) ∧ W.cell? ⟨w1.heap.size, 0, none⟩ = some (.int .i64 x) ∧ W.cell? ⟨w1.heap.size, 1, none⟩ = some (.int .i64 m)) (first | exact ⟨c0, c3, x0, x1⟩ | exact ⟨kr.cell c0 (fun h => by cases h), kr.cell c3 (fun h => by cases h), kr.cell x0 (fun h => by cases h), kr.cell x1 (fun h => by cases h)⟩ | go_keep) ((first | (go_at_call 23; refine HRd.out.mono ?_; rintro e w4 ⟨rfl, kr⟩)))
    all_goals
      have HB4 := Lib.hid (HB1.out.kept (l := []) (Kept.trans (Kept.refl [] w2).drew kr) (fun h => by cases h))
      obtain ⟨g0, g1, g2, g3⟩ := HB4.out.cells
      have hw64 : IntKind.i64.wrap (c * 64) = c * 64 := IntWalk.i64_in _ (by omega)
      have hnn := HN.out
      have hwn : IntKind.i64.wrap (c * 64 - (rs.length : Int)) = (n : Int) := by rw [← hnn]; exact IntWalk.i64_in _ (by omega)
      have hsub : c * 64 - (rs.length : Int) = (n : Int) := hnn.symm
      have hnb : n ≤ 100000 := by omega
      have hrb : rs.length ≤ 100000 := by omega
      have happ := app_arr rs (List.replicate n 0)
      clear c0 c3 x0 x1 hnn
      go_wp2_with fail
      refine (Try.strings_Repeat ⟨#[0]⟩ n w4 (by omega) (by show 1 * n ≤ _; omega)).mono ?_
      rintro e w5 ⟨rfl, k5⟩
      rw [show (Lib.repeatL (ByteArray.mk #[0]).data.toList n) = List.replicate n 0 from rep_zero n]
      go_wp2_with fail
      go_ret2
      exact ⟨rfl, (HKA.out.drew.trans kr).trans (Kept.ofBelow k5)⟩
  · go_region_held3 (fun W => W.cell? ⟨B, 0, none⟩ = some (.pointer (some ⟨gd, 0, none⟩)) ∧ W.cell? ⟨B, 3, none⟩ = some (.int .i64 17) ∧ W.cell? ⟨w1.heap.size, 0, none⟩ = some (.int .i64 x) ∧ W.cell? ⟨w1.heap.size, 1, none⟩ = some (.int .i64 m)) (first | exact ⟨c0, c3, x0, x1⟩ | exact ⟨kr.cell c0 (fun h => by cases h), kr.cell c3 (fun h => by cases h), kr.cell x0 (fun h => by cases h), kr.cell x1 (fun h => by cases h)⟩ | go_keep) ((first | (go_at_call 23; refine HRd.out.mono ?_; rintro e w4 ⟨rfl, kr⟩)))
    all_goals
      go_wp2_with fail
      go_ret2
      refine ⟨?_, HKA.out.drew.trans kr⟩
      first | rfl | (rw [if_neg he]; rfl)
set_option maxHeartbeats 2000000 in
theorem org_Put (w : World) (B gd : Nat) (F : List Nat) (d : D) (o c ch x : Int) (m : Nat) (data : List UInt8) (we : Int) (d2 : D) (hB : OB w B gd o c) (hBF : B ∉ F) (hd : PD w gd F d) (hG : rightG o c = true) (h0 : 0 ≤ ch) (h1 : ch < (o + c - 1) / c) (hx : ch * c = x) (hm : min c (o - x) = m) (hxb : 0 ≤ x ∧ x ≤ 1048576)
    (hlen : (data.length : Int) = c * 64) (hmb : (m : Int) ≤ c) (hps : d.ps.length ≤ 100000000) (hwr : d.write (17 + x) (data.take (m * 64)) = (we, d2)) :
    Calls Try.prog 12 #[.pointer (some ⟨B, 0, none⟩), .int .i64 ch, .string ⟨data.toArray⟩] w fun e w' => e = .returned (.int .i64 we) ∧ (∃ F', PD w' gd F' d2 ∧ ∀ x ∈ F', x ∈ F ∨ w.heap.size ≤ x) ∧ Kept F w w' := by
  have hr : (1 ≤ o ∧ o ≤ 1048576) ∧ 1 ≤ c ∧ c ≤ 128 := by simpa [rightG, and_assoc] using hG
  obtain ⟨b0, b1, b2, b3⟩ := hB.cells
  have hw : IntKind.i64.wrap (17 + x) = 17 + x := IntWalk.i64_in _ (by omega)
  have hw64 : IntKind.i64.wrap (c * 64) = c * 64 := IntWalk.i64_in _ (by omega)
  have hwm : IntKind.i64.wrap ((m : Int) * 64) = (m : Int) * 64 := IntWalk.i64_in _ (by omega)
  have HSp := Lib.hid (fun W => geom_Span o c ch x m W hG h0 h1 hx hm hxb)
  have HL := Lib.hid hlen
  have hne : ((data.length : Int) != c * 64) = false := by rw [hlen]; simp
  have hdl : data.length ≤ 100000 := by omega
  have hm1 : (m : Int) * 64 ≤ (data.length : Int) := by omega
  have hm0 : 0 ≤ (m : Int) * 64 := by omega
  have htn : ((m : Int) * 64).toNat = m * 64 := by omega
  have hxt : (⟨data.toArray⟩ : ByteArray).extract 0 (m * 64) = ⟨(data.take (m * 64)).toArray⟩ := by
    apply ByteArray.ext
    simp
  have htl : (data.take (m * 64)).length ≤ 140737488351232 := by rw [List.length_take]; omega
  have HTL := Lib.hid htl
  clear hx hm h1 hlen htl
  go_enter Try.func12, Try.ntmps12
  go_wp2_with fail
  refine (HSp.out _).mono ?_
  rintro e w1 ⟨rfl, k1⟩
  have KA := (k1.alloc (.cells #[.int .i64 x, .int .i64 m] 48))
  have HB1 := Lib.hid (hB.kept KA (fun h => by cases h))
  have hX1 := Blk.new w1 48 #[.int .i64 x, .int .i64 m]
  have x0 : (w1.alloc (.cells #[.int .i64 x, .int .i64 m] 48)).cell? ⟨w1.heap.size, 0, none⟩ = some (.int .i64 x) := hX1.cell 0
  have x1 : (w1.alloc (.cells #[.int .i64 x, .int .i64 m] 48)).cell? ⟨w1.heap.size, 1, none⟩ = some (.int .i64 m) := hX1.cell 1
  have HD1 := Lib.hid (hd.kept KA.drew (fun x hx h => by cases h))
  have hFl := hd.lt
  have HFl := Lib.hid hFl
  have hs1 := k1.size
  obtain ⟨c0, c1, c2, c3⟩ := HB1.out.cells
  have HKA := Lib.hid KA
  clear b0 b1 b2 b3 hd k1 KA hX1
  go_wp2_with fail
  generalize hW2 : w1.alloc (.cells #[.int .i64 x, .int .i64 m] 48) = w2 at *
  have HRd := disk_Write w2.drew gd F d HD1.out (17 + x) (data.take (m * 64)) HTL.out hps
  rw [hwr] at HRd
  have HRd := Lib.hid HRd
  have HW2 := Lib.hid hW2
  clear hwr HD1 hFl hW2
  go_region_held3 (fun W => W.cell? ⟨B, 0, none⟩ = some (.pointer (some ⟨gd, 0, none⟩)) ∧ W.cell? ⟨B, 3, none⟩ = some (.int .i64 17) ∧ W.cell? ⟨w1.heap.size, 0, none⟩ = some (.int .i64 x) ∧ W.cell? ⟨w1.heap.size, 1, none⟩ = some (.int .i64 m)) (first | exact ⟨c0, c3, x0, x1⟩ | exact ⟨kr.cell c0 hBF, kr.cell c3 hBF, kr.cell x0 (fun h => Nat.lt_irrefl _ (Nat.lt_of_lt_of_le (HFl.out _ h) hs1)), kr.cell x1 (fun h => Nat.lt_irrefl _ (Nat.lt_of_lt_of_le (HFl.out _ h) hs1))⟩ | go_keep) ((first | (go_at_call 26; refine HRd.out.mono ?_; rintro e w4 ⟨rfl, hF', kr⟩)))
  all_goals
    go_wp2_with fail
    go_ret
    refine ⟨rfl, ?_, ((HKA.out.drew).mono (fun x hx => by cases hx)).trans kr⟩
    obtain ⟨F', hp, hf⟩ := hF'
    exact ⟨F', hp, fun y hy => (hf y hy).imp id (fun h => Nat.le_trans (HKA.out.drew).size h)⟩
end Go.Proofs.Ytdifolhkbkaamaa
