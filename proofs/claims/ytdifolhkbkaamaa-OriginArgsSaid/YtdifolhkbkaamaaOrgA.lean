/- An origin's calls. -/
import Derived.Test.YtdifolhkbkaamaaLayC
namespace Go.Proofs.Ytdifolhkbkaamaa
open Go.RowKit

theorem org_Read_nil (at_ n : Int) (w : World) : Calls Try.prog 9 #[.pointer none, .int .i64 at_, .int .i64 n] w fun e w' => e = .returned (.tuple #[.string ⟨#[]⟩, .int .i64 1]) ∧ w = w' := by
  go_enter Try.func9, Try.ntmps9
  go_wp2_with fail
  go_ret2
  exact ⟨rfl, rfl⟩
theorem org_Chunk_nil (c : Int) (w : World) : Calls Try.prog 10 #[.pointer none, .int .i64 c] w fun e w' => e = .returned (.tuple #[.string ⟨#[]⟩, .int .i64 1]) ∧ w = w' := by
  go_enter Try.func10, Try.ntmps10
  go_wp2_with fail
  go_ret2
  exact ⟨rfl, rfl⟩
theorem org_Write_nil (at_ : Int) (s : ByteArray) (w : World) : Calls Try.prog 11 #[.pointer none, .int .i64 at_, .string s] w fun e w' => e = .returned (.int .i64 1) ∧ w = w' := by
  go_enter Try.func11, Try.ntmps11
  go_wp2_with fail
  go_ret
  exact ⟨rfl, rfl⟩
theorem org_Put_nil (c : Int) (s : ByteArray) (w : World) : Calls Try.prog 12 #[.pointer none, .int .i64 c, .string s] w fun e w' => e = .returned (.int .i64 1) ∧ w = w' := by
  go_enter Try.func12, Try.ntmps12
  go_wp2_with fail
  go_ret
  exact ⟨rfl, rfl⟩
theorem org_Flush_nil (w : World) : Calls Try.prog 13 #[.pointer none] w fun e w' => e = .returned (.int .i64 1) ∧ w = w' := by
  go_enter Try.func13, Try.ntmps13
  go_wp2_with fail
  go_ret
  exact ⟨rfl, rfl⟩
/-- an origin lies at B, over the disk at gd -/
def OB (W : World) (B gd : Nat) (o c : Int) : Prop := Blk W B 55 #[.pointer (some ⟨gd, 0, none⟩), .int .i64 o, .int .i64 c, .int .i64 17]
theorem OB.cells {W : World} {B gd : Nat} {o c : Int} (h : OB W B gd o c) : W.cell? ⟨B, 0, none⟩ = some (.pointer (some ⟨gd, 0, none⟩)) ∧ W.cell? ⟨B, 1, none⟩ = some (.int .i64 o) ∧ W.cell? ⟨B, 2, none⟩ = some (.int .i64 c) ∧ W.cell? ⟨B, 3, none⟩ = some (.int .i64 17) :=
  ⟨Blk.cell h 0, Blk.cell h 1, Blk.cell h 2, Blk.cell h 3⟩
theorem OB.kept {W W' : World} {B gd : Nat} {o c : Int} {l : List Nat} (h : OB W B gd o c) (k : Kept l W W') (hl : B ∉ l) : OB W' B gd o c := Blk.kept h k hl
theorem org_Flush (w : World) (B gd : Nat) (F : List Nat) (d : D) (o c : Int) (hB : OB w B gd o c) (hd : PD w gd F d) :
    Calls Try.prog 13 #[.pointer (some ⟨B, 0, none⟩)] w fun e w' => e = .returned (.int .i64 d.flush.1) ∧ (∃ F', PD w' gd F' d.flush.2 ∧ ∀ x ∈ F', x ∈ F) ∧ Kept F w w' := by
  obtain ⟨b0, b1, b2, b3⟩ := hB.cells
  go_enter Try.func13, Try.ntmps13
  go_wp2_with fail
  refine (disk_Flush w gd F d hd).mono ?_
  rintro e w1 ⟨rfl, h1, h2⟩
  go_wp2_with fail
  go_ret
  exact ⟨rfl, h1, h2⟩
set_option maxHeartbeats 1000000 in
theorem org_Read_one (w : World) (B gd : Nat) (F : List Nat) (d : D) (o c at_ : Int) (hB : OB w B gd o c) (hd : PD w gd F d) (hG : rightG o c = true) (h0 : 0 ≤ at_) (h1 : at_ < o) :
    Calls Try.prog 9 #[.pointer (some ⟨B, 0, none⟩), .int .i64 at_, .int .i64 1] w fun e w' => e = .returned (.tuple #[.string ⟨(d.read (17 + at_) 1).1.toArray⟩, .int .i64 (d.read (17 + at_) 1).2]) ∧ Kept [] w w' := by
  have hr : (1 ≤ o ∧ o ≤ 1048576) ∧ 1 ≤ c ∧ c ≤ 128 := by simpa [rightG, and_assoc] using hG
  obtain ⟨b0, b1, b2, b3⟩ := hB.cells
  have hw : IntKind.i64.wrap (17 + at_) = 17 + at_ := IntWalk.i64_in _ (by omega)
  go_enter Try.func9, Try.ntmps9
  go_wp2_with fail
  refine (geom_Split_one o c at_ _ hG h0 h1).mono ?_
  rintro e w1 ⟨⟨A, k, dd, rfl⟩, k1⟩
  have HB1 := Lib.hid (hB.kept k1 (fun h => by cases h))
  have HD1 := Lib.hid (hd.kept k1.drew (fun x hx h => by cases h))
  obtain ⟨c0, c1, c2, c3⟩ := HB1.out.cells
  have HRd := disk_Read w1.drew gd F d HD1.out (17 + at_) 1
  obtain ⟨⟨rs, re⟩, hrs⟩ : ∃ x, d.read (17 + at_) 1 = x := ⟨_, rfl⟩
  rw [hrs] at HRd
  have HRd := Lib.hid HRd
  have HRS := Lib.hid hrs
  clear b0 b1 b2 b3 hd hrs HD1
  go_wp2_with fail
  go_region_held3 (fun W => W.cell? ⟨B, 0, none⟩ = some (.pointer (some ⟨gd, 0, none⟩)) ∧ W.cell? ⟨B, 3, none⟩ = some (.int .i64 17)) (first | exact ⟨c0, c3⟩ | exact ⟨kr.cell c0 (fun h => by cases h), kr.cell c3 (fun h => by cases h)⟩ | go_keep) ((first | (go_at_call 23; refine HRd.out.mono ?_; rintro e w4 ⟨rfl, kr⟩)))
  all_goals
    go_wp2_with fail
    go_ret2
    rw [HRS.out]
    exact ⟨rfl, k1.drew.trans kr⟩
set_option maxHeartbeats 1000000 in
theorem org_Read_far (w : World) (B gd : Nat) (o c : Int) (hB : OB w B gd o c) (hG : rightG o c = true) :
    Calls Try.prog 9 #[.pointer (some ⟨B, 0, none⟩), .int .i64 o, .int .i64 1] w fun e w' => e = .returned (.tuple #[.string ⟨#[]⟩, .int .i64 2]) ∧ Kept [] w w' := by
  have hr : (1 ≤ o ∧ o ≤ 1048576) ∧ 1 ≤ c ∧ c ≤ 128 := by simpa [rightG, and_assoc] using hG
  obtain ⟨b0, b1, b2, b3⟩ := hB.cells
  go_enter Try.func9, Try.ntmps9
  go_wp2_with fail
  refine (geom_Split_far o c o 1 _ hG (by omega) (by omega)).mono ?_
  rintro e w1 ⟨⟨A, k, dd, rfl⟩, k1⟩
  go_wp2_with fail
  go_ret2
  exact ⟨rfl, k1⟩
end Go.Proofs.Ytdifolhkbkaamaa
