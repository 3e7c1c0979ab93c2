/- Dumps: the program's line. -/
import Derived.Test.YtooplogodcadgaaDoorDuK
namespace Go.Proofs.YtooplogodcadgaaDoor
open Go.RowKit Go.Lib

theorem split_sign : ∀ {q : Bs}, 0 < q.count 35 → ∃ q0 q1, q = q0 ++ 35 :: q1 ∧ (35 : UInt8) ∉ q0
  | [], h => by simp at h
  | c :: t, h => by
    by_cases hc : c = 35
    · subst hc
      exact ⟨[], t, rfl, by simp⟩
    · rw [List.count_cons_of_ne hc] at h
      obtain ⟨q0, q1, rfl, hq⟩ := split_sign h
      refine ⟨c :: q0, q1, rfl, fun hm => ?_⟩
      rcases List.mem_cons.1 hm with hm | hm
      · exact hc hm.symm
      · exact hq hm
theorem hash_app : ∀ {q0 r : Bs} {ns : List Int}, (35 : UInt8) ∉ q0 → hashL (q0 ++ r) ns = q0 ++ hashL r ns
  | [], _, _, _ => rfl
  | c :: t, r, ns, h => by
    have hc : ¬ c = 35 := fun e => h (by rw [e]; exact List.mem_cons_self ..)
    rw [List.cons_append, hashL, if_neg hc, hash_app (fun h2 => h (List.mem_cons_of_mem _ h2))]
    rfl
theorem hash_plain {q : Bs} {ns : List Int} (h : q.count 35 = 0) : hashL q ns = q := by
  have := hash_app (q0 := q) (r := []) (ns := ns) (List.count_eq_zero.1 h)
  simpa [hashL] using this
theorem itoa_ne35 (n : Int) : itoa n ≠ [35] := fun h => itoa_hash n (by rw [h]; simp)
theorem itoa_len {n : Int} (h : -9223372036854775808 ≤ n ∧ n ≤ 9223372036854775807) : (itoa n).length ≤ 20 := by
  unfold itoa
  split
  · have := dec_len 18 n.natAbs (by omega)
    rw [List.length_cons]
    omega
  · have := dec_len 18 n.toNat (by omega)
    omega
set_option maxRecDepth 4000 in
set_option maxHeartbeats 2000000 in
theorem dump_line (f : Bs) (b c : Nat) (l : List Int) (w : World) (hL : Laid w) (h : IAt w b l) (hf : f.length ≤ 1000) (hc : f.count 35 = l.length) (hr : ∀ x ∈ l, in32 x = true) : Calls Tryd.prog 17 #[.string ⟨f.toArray⟩, .slice (some ⟨b, 0, none⟩) l.length c] w (LinePost f l w) := by
  have HF : Hid (∀ w', Kept [] w w' → LinePost f l w (.returned (.string ⟨(hashL f l).toArray⟩)) w') := fun w' k => ⟨rfl, k⟩
  generalize LinePost f l w = Q at *
  have H := Lib.hid h
  have HR := Lib.hid hr
  have HC := Lib.hid hc
  have HLd := Lib.hid hL
  have hln : l.length ≤ 1000 := by
    have := List.count_le_length (a := (35 : UInt8)) (l := f)
    omega
  have HIt := Lib.hid (fun (n : Int) (hn : 0 ≤ n ∧ n ≤ 4294967295) (V : World) (hV : Laid V) => lib_Itoa n (by omega) (by omega) V hV)
  have HRp := Lib.hid (fun (a t x : Bs) (V : World) (ha : (35 : UInt8) ∉ a) (hx : x ≠ [35]) (hn : a.length + t.length + x.length ≤ 1000000) => lib_Replace a t x ha hx hn V)
  clear h hr hc hL
  go_enter Tryd.func17, Tryd.ntmps17
  go_wp2_with fail
  go_loopw [0, 9] (fun s i V => ∃ (k : Nat) (p q : Bs), k ≤ l.length ∧ i = .int .i64 k ∧ s = .string ⟨(p ++ q).toArray⟩ ∧ Hid (p.length + q.length ≤ 1000 + 20 * k) ∧ Hid ((35 : UInt8) ∉ p) ∧ Hid (q.count 35 = (l.drop k).length) ∧ Hid (hashL f l = p ++ hashL q (l.drop k)) ∧ Hid (Kept [] w V)) (fun _ i _ => l.length - (RowKit.intOf i).toNat)
  case atStart => exact ⟨0, [], f, Nat.zero_le _, rfl, rfl, by simp [Hid]; omega, by simp [Hid], HC.out, rfl, Kept.refl _ _⟩
  case round =>
    obtain ⟨k, p, q, hk, rfl, rfl, HS, HP, HN, HE, HK⟩ := hrel
    by_cases hlt : k < l.length
    · have hki : (k : Int) < (l.length : Int) := by omega
      have hcell := (H.out.kept HK.out) k hlt
      have hdj := List.drop_eq_getElem_cons hlt
      obtain ⟨hx0, hx1⟩ := in32_iff.1 (HR.out _ (List.getElem_mem hlt))
      have hwk : IntKind.i64.wrap ((k : Int) + 1) = (k : Int) + 1 := IntWalk.i64_in _ (by omega)
      obtain ⟨q0, q1, hq, hq0⟩ := split_sign (q := q) (by rw [HN.out, List.length_drop]; omega)
      subst hq
      obtain ⟨P0, hP0⟩ : ∃ P0, P0 = p ++ q0 := ⟨_, rfl⟩
      have HE2 : Hid (hashL f l = (P0 ++ itoa l[k]) ++ hashL q1 (l.drop (k + 1))) := by
        rw [Hid, HE.out, hash_app hq0, hdj, hashL, if_pos rfl, List.headD_cons, List.tail_cons, hP0]
        simp only [List.append_assoc]
      have HN2 : Hid (q1.count 35 = (l.drop (k + 1)).length) := by
        have h1 := HN.out
        rw [hdj, List.count_append, List.count_cons_self, List.count_eq_zero.2 hq0, List.length_cons, Nat.zero_add] at h1
        exact Nat.succ.inj h1
      have HS1 := Lib.hid (itoa_len (n := l[k]) (by omega))
      have HX1 := Lib.hid (itoa_ne35 l[k])
      have HX2 := Lib.hid (itoa_hash l[k])
      have HP2 : Hid ((35 : UInt8) ∉ P0) := fun hm => by
        rw [hP0] at hm
        rcases List.mem_append.1 hm with hm | hm
        · exact HP.out hm
        · exact hq0 hm
      have HSp : Hid (P0.length + (q1.length + 1) ≤ 1000 + 20 * k) := by
        have := HS.out
        rw [List.length_append, List.length_cons] at this
        rw [Hid, hP0, List.length_append]
        omega
      have HA : p ++ (q0 ++ 35 :: q1) = P0 ++ 35 :: q1 := by rw [hP0, List.append_assoc]
      have HItk := Lib.hid (HIt.out l[k] ⟨hx0, hx1⟩)
      rw [HA]
      clear hdj hq0 hx0 hx1 HIt HE HN HS HA hP0 HP
      generalize l[k] = x at *
      generalize itoa x = ix at *
      have HRk : Hid (∀ V, Calls Tryd.prog 29 #[.string ⟨(P0 ++ 35 :: q1).toArray⟩, .string ⟨#[35]⟩, .string ⟨ix.toArray⟩, .int .i64 1] V fun e w' => e = .returned (.string ⟨(P0 ++ ix ++ q1).toArray⟩) ∧ Kept [] V w') := fun V => HRp.out P0 q1 ix V HP2.out HX1.out (by have h1 := HSp.out; have h2 := HS1.out; omega)
      obtain ⟨S1, hS1⟩ : ∃ S1, S1 = P0 ++ 35 :: q1 := ⟨_, rfl⟩
      obtain ⟨S2, hS2⟩ : ∃ S2, S2 = P0 ++ ix ++ q1 := ⟨_, rfl⟩
      have HS2 := Lib.hid hS2
      rw [← hS1, ← hS2] at HRk
      rw [← hS1]
      clear hS1 hS2 HRp
      go_wp2_with fail
      refine (HItk.out _ (HLd.out.kept HK.out)).mono ?_
      rintro e w1 ⟨rfl, k1⟩
      have K1 := Lib.hid (HK.out.trans k1)
      clear k1 hcell
      go_wp2_with fail
      refine (HRk.out _).mono ?_
      rintro e w2 ⟨rfl, k2⟩
      have K2 := Lib.hid (K1.out.trans k2)
      clear k2
      go_wp2_with fail
      go_roundw
      case rel => exact ⟨k + 1, P0 ++ ix, q1, by omega, by go_num, by rw [HS2.out], by have h1 := HSp.out; have h2 := HS1.out; rw [Hid, List.length_append]; omega, fun hm => (by
        rcases List.mem_append.1 hm with hm | hm
        · exact HP2.out hm
        · exact HX2.out hm), HN2, HE2, K2⟩
      case measure => simp [RowKit.intOf]; omega
    · obtain rfl : k = l.length := by omega
      have HV : Hid (hashL f l = p ++ q) := by
        have h1 := HN.out
        rw [List.drop_length] at h1
        rw [Hid, HE.out, hash_plain h1]
      go_wp2_with fail
      have h2 := HF.out wr HK.out
      rw [HV.out] at h2
      exact h2
end Go.Proofs.YtooplogodcadgaaDoor
