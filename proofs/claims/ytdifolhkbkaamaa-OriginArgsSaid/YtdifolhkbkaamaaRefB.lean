/- The reference's disk, its walks (second part): Bytes, Read, Write. -/
import Derived.Test.YtdifolhkbkaamaaRefA
import Derived.Test.YtdifolhkbkaamaaDiskC
namespace Go.Proofs.Ytdifolhkbkaamaa
open Go.RowKit

theorem app_arr (a b : List UInt8) : (⟨a.toArray⟩ : ByteArray) ++ ⟨b.toArray⟩ = ⟨(a ++ b).toArray⟩ := by
  apply ByteArray.ext
  simp [ByteArray.data_append]

set_option maxHeartbeats 1000000 in
theorem ref_Bytes (w : World) (g : Nat) (F : List Nat) (d : D) (h : RD w g F d) :
    Calls Try.prog 28 #[.pointer (some ⟨g, 0, none⟩)] w fun e w' => e = .returned (str d.ss.flatten) ∧ w' = w := by
  obtain ⟨vS, vP, hx, hF⟩ := h
  have few := hx.ok.few
  have hfl := flat_len d.ss hx.ok.s64
  obtain ⟨A, a, hvS, _⟩ := own_slice hx.secs
  have c0 := hx.blk.cell 0
  simp [hvS] at c0
  have Hx := Lib.hid hx
  have HvS := Lib.hid hvS
  have Hfl := Lib.hid hfl
  clear hx hvS hF hfl
  go_enter Try.func28, Try.ntmps28
  go_wp2
  go_loop [3, 4] (fun s i => ∃ (k : Nat) (x : List UInt8), k ≤ d.ss.length ∧ i = .int .i64 k ∧ s = .string ⟨x.toArray⟩ ∧ x.length = 64 * k ∧ Hid (d.ss.flatten = x ++ (d.ss.drop k).flatten)) (fun _ i => d.ss.length - (intOf i).toNat)
  case atStart => exact ⟨0, [], by omega, rfl, rfl, rfl, rfl⟩
  case round =>
    obtain ⟨k, x, hk, rfl, rfl, hxl, HL⟩ := hrel
    by_cases hlt : k < d.ss.length
    · have hS := Hx.out.secs
      obtain ⟨gs, cs, hvs, _⟩ := own_some hS (by omega)
      rw [hvs] at hS
      have hs := hS.cells (g := gs) rfl k (str d.ss[k]) (by simp [hlt])
      rw [Addr.add_lit, Nat.zero_add] at hs
      have hs64 := Hx.out.ok.s64 d.ss[k] (List.getElem_mem hlt)
      have HDR := Lib.hid (List.drop_eq_getElem_cons hlt)
      clear hS
      rw [HvS.out] at hvs
      injection hvs with hB1 _ hB3
      subst hB1
      subst hB3
      generalize d.ss[k] = y at *
      unfold str at hs
      have Hxl := Lib.hid hxl
      have Hs64 := Lib.hid hs64
      have q1 : x.length ≤ 67108864 := by omega
      have q2 : y.length ≤ 64 := by omega
      clear hxl hs64
      go_wp2
      go_round
      case rel => exact ⟨k + 1, x ++ y, by omega, by go_num, congrArg Value.string (app_arr x y), by rw [List.length_append, Hxl.out, Hs64.out]; omega, by rw [Hid, HL.out, HDR.out]; simp⟩
      case measure => simp [intOf]; omega
    · have HN : Hid (d.ss.flatten = x) := by rw [Hid, HL.out, List.drop_eq_nil_of_le (by omega)]; simp
      have Hxl := Lib.hid hxl
      clear hxl
      go_wp2
      go_ret
      exact ⟨by rw [HN.out]; rfl, rfl⟩

def readL (d : D) (at_ n : Nat) : List UInt8 := ((List.range n).map fun i => lastP (at_ + i) d.ps (d.ss.getD (at_ + i) [])).flatten

theorem infoRW : (Try.prog.info? 119).map (fun i => (i.zero, i.size, i.bytes)) = some (some (.agg #[.int .i64 0, .string ByteArray.empty]), 2, 24) := by kernel_rfl

theorem RDx.push {w1 w2 : World} {g : Nat} {vS vP : Value} {d : D} (h : RDx w1 g vS vP d) (hk : Kept vP.ownBlock.toList w1 w2) {gg cap : Nat} {p : Nat × List UInt8} (hp : p.1 < d.ss.length) (h64 : p.2.length = 64)
    (ho : w2.ownsRow 0 119 2 (.slice (some ⟨gg, 0, none⟩) (d.ps.length + 1) cap) (d.ps.length + 1) (d.ps.flatMap pcells ++ pcells p)) :
    RDx (w2.setCell ⟨g, 1, none⟩ (.slice (some ⟨gg, 0, none⟩) (d.ps.length + 1) cap)) g vS (.slice (some ⟨gg, 0, none⟩) (d.ps.length + 1) cap) { d with ps := d.ps ++ [p] } := by
  have hb2 := h.blk.kept hk (fun hm => own_ne h.pend h.blk (by decide) g (by simpa using hm) rfl)
  have hB2 := hk.owns h.secs (fun k e hm => own_own_ne h.secs h.pend (by decide) k e (by simpa using hm))
  have hs := hb2.set_ 1 (.slice (some ⟨gg, 0, none⟩) (d.ps.length + 1) cap)
  simp at hs
  refine ⟨⟨h.ok.s64, h.ok.few, fun q hq => ?_, fun q hq => ?_, h.ok.fuse⟩, hs, own_set hB2 (own_ne hB2 hb2 (by decide)) _, ?_⟩
  · rcases List.mem_append.1 hq with h1 | h1
    · exact h.ok.p64 q h1
    · simp at h1; subst h1; exact h64
  · rcases List.mem_append.1 hq with h1 | h1
    · exact h.ok.pat q h1
    · simp at h1; subst h1; exact hp
  · have := own_set ho (p := ⟨g, 1, none⟩) (own_ne ho hb2 (by decide)) (.slice (some ⟨gg, 0, none⟩) (d.ps.length + 1) cap)
    simpa using this

end Go.Proofs.Ytdifolhkbkaamaa
