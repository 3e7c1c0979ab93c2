/-
  DERIVED. GIVEN WITH THE SEED: THE CARDS: each row of YtcjdkanmbafjmaaDoorRows.lean that lists a variable, with what it lists TIED to the program's text (the seventh form; the later family's looks); each row that meets fmt, with fmt's text TOLD by the authors' own Lean function (tested against real Go, not proved from fmt's source: count such statements apart). THE CARD IS WHAT COUNTS. Prove the row's statement (the work); the ties are given (YtcjdkanmbafjmaaDoorTie.lean); close each card by the builder's one call (the guide's Derived/Test/ToyasCard.lean, 'card_holds'). Laid BY PROGRAM, IN A SANDBOX (cutbox-door.mjs). By AI agents, Wed Nov 11 2026. No macro, syntax, notation, axiom, sorry.
-/
import Derived.Test.YtcjdkanmbafjmaaDoorRows
import GoSem.ClaimSeven
namespace Go.Proofs.YtcjdkanmbafjmaaDoor
namespace Rows

/-- THE TIED CARD OF 'oakumlaw09.SuperEncodes'. -/
def superEncodesCard : Claim7 := { stood := { row := superEncodesRow, standIns := [], harness := (true, "7ab472e4dfc792cb8a2d887238ae383aca6fabab8c36a923da15c5785825268a"), looks := true }, kinds := [], alts := [], laidByText := true, laidKinds := [.data, .pinned], laidTests := true, laidLooks := .later }
def SuperEncodesCardSaid : Prop := Claim7.holds Tryd.pinned (.plain (OpenSpec.ofChange superEncodesSpec)) superEncodesCard

/-- THE TIED CARD OF 'oakumlaw09.SuperDecodes'. -/
def superDecodesCard : Claim7 := { stood := { row := superDecodesRow, standIns := [], harness := (true, "7ab472e4dfc792cb8a2d887238ae383aca6fabab8c36a923da15c5785825268a"), looks := true }, kinds := [], alts := [], laidByText := true, laidKinds := [.data, .pinned], laidTests := true, laidLooks := .later }
def SuperDecodesCardSaid : Prop := Claim7.holds Tryd.pinned (.plain (OpenSpec.ofChange superDecodesSpec)) superDecodesCard

/-- THE TIED CARD OF 'oakumlaw09.SuperBack'. -/
def superBackCard : Claim7 := { stood := { row := superBackRow, standIns := [], harness := (true, "7ab472e4dfc792cb8a2d887238ae383aca6fabab8c36a923da15c5785825268a"), looks := true }, kinds := [], alts := [], laidByText := true, laidKinds := [.data, .pinned], laidTests := true, laidLooks := .later }
def SuperBackCardSaid : Prop := Claim7.holds Tryd.pinned (.plain (OpenSpec.ofChange superBackSpec)) superBackCard

/-- THE SECOND FORM's CARD OF 'oakumlaw09.SuperEncodes'. -/
def superEncodesUptoCard : Claim7 := { stood := { row := superEncodesUptoRow, standIns := [], harness := (true, "7ab472e4dfc792cb8a2d887238ae383aca6fabab8c36a923da15c5785825268a"), looks := true }, kinds := [], alts := [], laidByText := true, laidKinds := [.data, .pinned], laidTests := true, laidLooks := .later }
def SuperEncodesUptoCardSaid : Prop := Claim7.holds Tryd.pinned (.plain (OpenSpec.upto superEncodesSpec)) superEncodesUptoCard

/-- THE SECOND FORM's CARD OF 'oakumlaw09.SuperDecodes'. -/
def superDecodesUptoCard : Claim7 := { stood := { row := superDecodesUptoRow, standIns := [], harness := (true, "7ab472e4dfc792cb8a2d887238ae383aca6fabab8c36a923da15c5785825268a"), looks := true }, kinds := [], alts := [], laidByText := true, laidKinds := [.data, .pinned], laidTests := true, laidLooks := .later }
def SuperDecodesUptoCardSaid : Prop := Claim7.holds Tryd.pinned (.plain (OpenSpec.upto superDecodesSpec)) superDecodesUptoCard

/-- THE SECOND FORM's CARD OF 'oakumlaw09.SuperBack'. -/
def superBackUptoCard : Claim7 := { stood := { row := superBackUptoRow, standIns := [], harness := (true, "7ab472e4dfc792cb8a2d887238ae383aca6fabab8c36a923da15c5785825268a"), looks := true }, kinds := [], alts := [], laidByText := true, laidKinds := [.data, .pinned], laidTests := true, laidLooks := .later }
def SuperBackUptoCardSaid : Prop := Claim7.holds Tryd.pinned (.plain (OpenSpec.upto superBackSpec)) superBackUptoCard
end Rows
end Go.Proofs.YtcjdkanmbafjmaaDoor
