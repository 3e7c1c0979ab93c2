/- Plain laws of a disk: what a flush leaves, what a restart leaves, what an act adds to the pending writes. No program in sight. -/
import Derived.Test.YtgdbafinncajfaaLawP
namespace Go.Proofs.Ytgdbafinncajfaa

theorem standL_over (n : Nat) : ∀ (ps : List (Nat × List UInt8)) (i : Nat) (ss : List (List UInt8)), (∀ p ∈ ps, p.1 < n) → standL (fun _ => true) i ps ss = over 0 n ps ss
  | [], _, _, _ => rfl
  | p :: ps, i, ss, h => by
    have h1 := h p (by simp)
    rw [standL, over, if_pos rfl, if_pos ⟨Nat.zero_le _, by omega⟩, Nat.sub_zero]
    exact standL_over n ps (i + 1) _ (fun q hq => h q (by simp [hq]))

theorem flush_reads (d : D) (h : d.ok) (hr : (d.read 0 d.ss.length).2 = 0) (hd : d.flush.2.dead = false) : d.flush.2.ss.flatten = (d.read 0 d.ss.length).1 := by
  cases hdd : d.dead
  · have ht : thereE d.ss.length 0 d.ss.length = 0 := by
      unfold thereE
      rw [if_neg (by omega)]
    have e1 : (d.read 0 d.ss.length).1 = (over 0 d.ss.length d.ps d.ss).flatten := by
      unfold D.read
      rw [hdd, if_neg (by decide), if_neg (by rw [ht]; decide)]
      simp
    rw [e1]
    cases hth : d.thing.1
    · exfalso
      unfold D.flush at hd
      rw [hdd, if_neg (by decide), hth, if_neg (by decide)] at hd
      unfold D.thing at hth hd
      split at hth
      · rename_i h0
        rw [if_pos h0] at hd
        cases hd
      · split at hth <;> simp [hdd] at hth
    · unfold D.flush
      rw [hdd, if_neg (by decide), hth, if_pos rfl]
      show (standL _ 0 d.thing.2.ps d.thing.2.ss).flatten = _
      rw [D.thing_ps, D.thing_ss, standL_over d.ss.length d.ps 0 d.ss h.pat]
  · unfold D.read at hr
    rw [hdd, if_pos rfl] at hr
    cases hr

theorem stand_or (keep : Nat → Bool) (k : Nat) : ∀ (ps : List (Nat × List UInt8)) (i : Nat) (ss : List (List UInt8)), k < ss.length →
    (standL keep i ps ss).getD k [] = ss.getD k [] ∨ ∃ p ∈ ps, p.1 = k ∧ p.2 = (standL keep i ps ss).getD k []
  | [], _, _, _ => .inl rfl
  | p :: ps, i, ss, hk => by
    rw [standL]
    rcases stand_or keep k ps (i + 1) (if keep i then ss.set p.1 p.2 else ss) (by split <;> simp [hk]) with h | ⟨q, hq, h1, h2⟩
    · rw [h]
      split
      · by_cases he : p.1 = k
        · right
          refine ⟨p, by simp, he, ?_⟩
          subst he
          simp [List.getD, hk]
        · left
          simp [List.getD, he]
      · exact .inl rfl
    · exact .inr ⟨q, by simp [hq], h1, h2⟩

def freshL (a : Act) (f : Nat) : List (Nat × List UInt8) := (List.range f).map fun k => (a.at_.toNat + k, (a.data.drop (k * 64)).take 64)

theorem wr_ps (data : List UInt8) (at_ : Nat) : ∀ (m i : Nat) (d : D), ∃ f, f ≤ m ∧ (D.wr data at_ m i d).2.ps = d.ps ++ (List.range f).map fun j => (at_ + (i + j), (data.drop ((i + j) * 64)).take 64)
  | 0, i, d => ⟨0, Nat.le_refl _, by simp [D.wr]⟩
  | m + 1, i, d => by
    unfold D.wr
    split
    · obtain ⟨f, hf, he⟩ := wr_ps data at_ m (i + 1) { d.thing.2 with ps := d.thing.2.ps ++ [(at_ + i, (data.drop (i * 64)).take 64)] }
      refine ⟨f + 1, by omega, ?_⟩
      rw [he, List.range_succ_eq_map, List.map_cons, List.map_map]
      show (d.thing.2.ps ++ _) ++ _ = _
      rw [D.thing_ps, List.append_assoc]
      congr 1
      simp only [List.singleton_append, Nat.add_zero]
      congr 1
      apply List.map_congr_left
      intro j _
      simp only [Function.comp, Nat.succ_eq_add_one]
      rw [show i + 1 + j = i + (j + 1) by omega]
    · exact ⟨0, Nat.zero_le _, by rw [D.thing_ps]; simp⟩

theorem actD_fresh (d : D) (a : Act) (h : d.ok) : ∃ f : Nat, (f = 0 ∨ (0 ≤ a.at_ ∧ 64 * f ≤ a.data.length ∧ a.at_ + f ≤ d.ss.length)) ∧
    ((actD d a).ps = d.ps ++ freshL a f ∨ ((actD d a).ps = [] ∧ f = 0)) := by
  have same : ∀ e : D, e.ps = d.ps → ∃ f : Nat, (f = 0 ∨ (0 ≤ a.at_ ∧ 64 * f ≤ a.data.length ∧ a.at_ + f ≤ d.ss.length)) ∧ (e.ps = d.ps ++ freshL a f ∨ (e.ps = [] ∧ f = 0)) :=
    fun e he => ⟨0, .inl rfl, .inl (by simp [he, freshL])⟩
  unfold actD
  split
  · exact same _ rfl
  · split
    · unfold D.write
      split
      · exact same _ rfl
      · split
        · exact same _ rfl
        · split
          · exact same _ rfl
          · rename_i h1 h2 h3
            obtain ⟨f, hf, he⟩ := wr_ps a.data a.at_.toNat (a.data.length / 64) 0 d
            have h4 : thereE d.ss.length a.at_ (a.data.length / 64 : Nat) = 0 := by
              simpa using h3
            have h5 : 0 ≤ a.at_ ∧ a.at_ + (a.data.length / 64 : Nat) ≤ d.ss.length := by
              unfold thereE at h4
              split at h4
              · cases h4
              · omega
            refine ⟨f, .inr ⟨h5.1, by omega, by omega⟩, .inl ?_⟩
            show (D.wr a.data a.at_.toNat (a.data.length / 64) 0 d).2.ps = _
            rw [he]
            simp [freshL]
    · split
      · unfold D.flush
        split
        · exact same _ rfl
        · split
          · exact ⟨0, .inl rfl, .inr ⟨rfl, rfl⟩⟩
          · exact same _ (D.thing_ps d)
      · split
        · exact same _ rfl
        · exact ⟨0, .inl rfl, .inr ⟨rfl, rfl⟩⟩
end Go.Proofs.Ytgdbafinncajfaa
