/- How many writes can pend after an act: plain law. -/
import Derived.Test.YtgdbafinncajfaaLawC
namespace Go.Proofs.Ytgdbafinncajfaa

theorem D.thing_pl (d : D) : d.thing.2.ps.length = d.ps.length := by rw [D.thing_ps]
theorem D.wr_pl (data : List UInt8) (at_ : Nat) : ∀ (m i : Nat) (d : D), (D.wr data at_ m i d).2.ps.length ≤ d.ps.length + m
  | 0, _, d => by simp [D.wr]
  | m + 1, i, d => by
    unfold D.wr
    split
    · refine Nat.le_trans (D.wr_pl data at_ m (i + 1) _) ?_
      simp only [List.length_append, List.length_cons, List.length_nil, D.thing_pl]
      omega
    · rw [D.thing_pl]; omega
theorem D.write_pl (d : D) (at_ : Int) (data : List UInt8) (h : data.length ≤ 1000) : (d.write at_ data).2.ps.length ≤ d.ps.length + 16 := by
  unfold D.write
  split
  · exact Nat.le_add_right _ _
  · split
    · exact Nat.le_add_right _ _
    · split
      · exact Nat.le_add_right _ _
      · refine Nat.le_trans (D.wr_pl data at_.toNat (data.length / 64) 0 d) ?_
        omega
theorem actD_pl (d : D) (a : Act) (h : a.data.length ≤ 1000) : (actD d a).ps.length ≤ d.ps.length + 16 := by
  unfold actD
  split
  · omega
  · split
    · exact D.write_pl d _ _ h
    · split
      · unfold D.flush
        split
        · exact Nat.le_add_right _ _
        · split
          · exact Nat.zero_le _
          · exact Nat.le_trans (Nat.le_of_eq (D.thing_pl d)) (Nat.le_add_right _ _)
      · split
        · exact Nat.le_add_right _ _
        · exact Nat.zero_le _
end Go.Proofs.Ytgdbafinncajfaa
