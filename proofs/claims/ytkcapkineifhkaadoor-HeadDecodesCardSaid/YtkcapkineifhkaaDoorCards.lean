/-
  DERIVED. GIVEN WITH THE SEED: THE CARDS: each row of YtkcapkineifhkaaDoorRows.lean that lists a variable, with what it lists TIED to the program's text (the seventh form; the later family's looks); each row that meets fmt, with fmt's text TOLD by the authors' own Lean function (tested against real Go, not proved from fmt's source: count such statements apart). THE CARD IS WHAT COUNTS. Prove the row's statement (the work); the ties are given (YtkcapkineifhkaaDoorTie.lean); close each card by the builder's one call (the guide's Derived/Test/ToyasCard.lean, 'card_holds'). Laid BY PROGRAM, IN A SANDBOX (cutbox-door.mjs). By AI agents, Wed Nov 11 2026. No macro, syntax, notation, axiom, sorry.
-/
import Derived.Test.YtkcapkineifhkaaDoorRows
import GoSem.ClaimSeven
namespace Go.Proofs.YtkcapkineifhkaaDoor
namespace Rows

/-- THE TIED CARD OF 'oakumlaw07.HeadEncodes'. -/
def headEncodesCard : Claim7 := { stood := { row := headEncodesRow, standIns := [], harness := (true, "d575adb32180a509b4bab566df07d723ead5f616394059e738fe33268d19fbad"), looks := true }, kinds := [], alts := [], laidByText := true, laidKinds := [.data, .pinned], laidTests := true, laidLooks := .later }
def HeadEncodesCardSaid : Prop := Claim7.holds Tryd.pinned (.plain (OpenSpec.ofChange headEncodesSpec)) headEncodesCard

/-- THE TIED CARD OF 'oakumlaw07.HeadDecodes'. -/
def headDecodesCard : Claim7 := { stood := { row := headDecodesRow, standIns := [], harness := (true, "d575adb32180a509b4bab566df07d723ead5f616394059e738fe33268d19fbad"), looks := true }, kinds := [], alts := [], laidByText := true, laidKinds := [.data, .pinned], laidTests := true, laidLooks := .later }
def HeadDecodesCardSaid : Prop := Claim7.holds Tryd.pinned (.plain (OpenSpec.ofChange headDecodesSpec)) headDecodesCard

/-- THE TIED CARD OF 'oakumlaw07.HeadBack'. -/
def headBackCard : Claim7 := { stood := { row := headBackRow, standIns := [], harness := (true, "d575adb32180a509b4bab566df07d723ead5f616394059e738fe33268d19fbad"), looks := true }, kinds := [], alts := [], laidByText := true, laidKinds := [.data, .pinned], laidTests := true, laidLooks := .later }
def HeadBackCardSaid : Prop := Claim7.holds Tryd.pinned (.plain (OpenSpec.ofChange headBackSpec)) headBackCard

/-- THE SECOND FORM's CARD OF 'oakumlaw07.HeadEncodes'. -/
def headEncodesUptoCard : Claim7 := { stood := { row := headEncodesUptoRow, standIns := [], harness := (true, "d575adb32180a509b4bab566df07d723ead5f616394059e738fe33268d19fbad"), looks := true }, kinds := [], alts := [], laidByText := true, laidKinds := [.data, .pinned], laidTests := true, laidLooks := .later }
def HeadEncodesUptoCardSaid : Prop := Claim7.holds Tryd.pinned (.plain (OpenSpec.upto headEncodesSpec)) headEncodesUptoCard

/-- THE SECOND FORM's CARD OF 'oakumlaw07.HeadDecodes'. -/
def headDecodesUptoCard : Claim7 := { stood := { row := headDecodesUptoRow, standIns := [], harness := (true, "d575adb32180a509b4bab566df07d723ead5f616394059e738fe33268d19fbad"), looks := true }, kinds := [], alts := [], laidByText := true, laidKinds := [.data, .pinned], laidTests := true, laidLooks := .later }
def HeadDecodesUptoCardSaid : Prop := Claim7.holds Tryd.pinned (.plain (OpenSpec.upto headDecodesSpec)) headDecodesUptoCard

/-- THE SECOND FORM's CARD OF 'oakumlaw07.HeadBack'. -/
def headBackUptoCard : Claim7 := { stood := { row := headBackUptoRow, standIns := [], harness := (true, "d575adb32180a509b4bab566df07d723ead5f616394059e738fe33268d19fbad"), looks := true }, kinds := [], alts := [], laidByText := true, laidKinds := [.data, .pinned], laidTests := true, laidLooks := .later }
def HeadBackUptoCardSaid : Prop := Claim7.holds Tryd.pinned (.plain (OpenSpec.upto headBackSpec)) headBackUptoCard
end Rows
end Go.Proofs.YtkcapkineifhkaaDoor
