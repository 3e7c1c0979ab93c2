/- Tables: the law TableBack, at every input. -/
import Derived.Test.YtfidgmpeiabhiaaTb6
namespace Go.Proofs.Ytfidgmpeiabhiaa
open Go.RowKit Go.Maps

set_option maxRecDepth 8000 in
set_option maxHeartbeats 2000000 in
theorem table_back (W : World) (places : Int) (hp : wf64 places) (A B : Option Addr) (c d : Nat) (l more : List Ac) (hA : AcsRd W A l c) (hB : AcsRd W B more d) :
    Calls Try.prog 5 #[.int .i64 places, .slice A l.length c, .slice B more.length d] W (TrueK W) := by
  have hm := hA.2.2.1
  have hm2 := hB.2.2.1
  unfold maxLen at hm hm2
  by_cases hall : (¬ 100 < places ∨ (100 < places ∧ ¬ places ≤ 1048576)) ∧ l.length ≤ 100 ∧ more.length ≤ 100
  · exact back_main W places hp A B c d l more hA.1 hB.1 hA.2.2.2.1 hB.2.2.2.1 hall.2.1 hall.2.2 hall.1
  · have hc : (100 < places ∧ places ≤ 1048576) ∨ (¬ 100 < places ∧ 100 < (l.length : Int)) ∨ (¬ 100 < places ∧ ¬ 100 < (l.length : Int) ∧ 100 < (more.length : Int)) ∨ (100 < places ∧ ¬ places ≤ 1048576 ∧ 100 < (l.length : Int)) ∨ (100 < places ∧ ¬ places ≤ 1048576 ∧ ¬ 100 < (l.length : Int) ∧ 100 < (more.length : Int)) := by omega
    clear hA hB hall hp
    rcases hc with ⟨h1, h2⟩ | ⟨h1, h2⟩ | ⟨h1, h2, h3⟩ | ⟨h1, h2, h3⟩ | ⟨h1, h2, h3, h4⟩
    all_goals (
      go_enter Try.func5, Try.ntmps5
      go_wp2_with fail
      refine (law_alive _).mono ?_
      rintro e w1 ⟨rfl, k1⟩
      go_wp2_with fail
      go_ret
      exact ⟨rfl, k1⟩)
end Go.Proofs.Ytfidgmpeiabhiaa
