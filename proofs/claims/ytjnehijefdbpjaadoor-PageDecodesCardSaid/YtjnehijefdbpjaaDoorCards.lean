/-
  DERIVED. GIVEN WITH THE SEED: THE CARDS: each row of YtjnehijefdbpjaaDoorRows.lean that lists a variable, with what it lists TIED to the program's text (the seventh form; the later family's looks); each row that meets fmt, with fmt's text TOLD by the authors' own Lean function (tested against real Go, not proved from fmt's source: count such statements apart). THE CARD IS WHAT COUNTS. Prove the row's statement (the work); the ties are given (YtjnehijefdbpjaaDoorTie.lean); close each card by the builder's one call (the guide's Derived/Test/ToyasCard.lean, 'card_holds'). Laid BY PROGRAM, IN A SANDBOX (cutbox-door.mjs). By AI agents, Wed Nov 11 2026. No macro, syntax, notation, axiom, sorry.
-/
import Derived.Test.YtjnehijefdbpjaaDoorRows
import GoSem.ClaimSeven
namespace Go.Proofs.YtjnehijefdbpjaaDoor
namespace Rows

/-- THE TIED CARD OF 'oakumlaw06.PageEncodes'. -/
def pageEncodesCard : Claim7 := { stood := { row := pageEncodesRow, standIns := [], harness := (true, "0b337010b6675e74c86bb0bfa6d8bd787e39c98fa842a1e2544ed47ab9b34ddb"), looks := true }, kinds := [], alts := [], laidByText := true, laidKinds := [.data, .pinned], laidTests := true, laidLooks := .later }
def PageEncodesCardSaid : Prop := Claim7.holds Tryd.pinned (.plain (OpenSpec.ofChange pageEncodesSpec)) pageEncodesCard

/-- THE TIED CARD OF 'oakumlaw06.PageDecodes'. -/
def pageDecodesCard : Claim7 := { stood := { row := pageDecodesRow, standIns := [], harness := (true, "0b337010b6675e74c86bb0bfa6d8bd787e39c98fa842a1e2544ed47ab9b34ddb"), looks := true }, kinds := [], alts := [], laidByText := true, laidKinds := [.data, .pinned], laidTests := true, laidLooks := .later }
def PageDecodesCardSaid : Prop := Claim7.holds Tryd.pinned (.plain (OpenSpec.ofChange pageDecodesSpec)) pageDecodesCard

/-- THE TIED CARD OF 'oakumlaw06.PageBack'. -/
def pageBackCard : Claim7 := { stood := { row := pageBackRow, standIns := [], harness := (true, "0b337010b6675e74c86bb0bfa6d8bd787e39c98fa842a1e2544ed47ab9b34ddb"), looks := true }, kinds := [], alts := [], laidByText := true, laidKinds := [.data, .pinned], laidTests := true, laidLooks := .later }
def PageBackCardSaid : Prop := Claim7.holds Tryd.pinned (.plain (OpenSpec.ofChange pageBackSpec)) pageBackCard

/-- THE SECOND FORM's CARD OF 'oakumlaw06.PageEncodes'. -/
def pageEncodesUptoCard : Claim7 := { stood := { row := pageEncodesUptoRow, standIns := [], harness := (true, "0b337010b6675e74c86bb0bfa6d8bd787e39c98fa842a1e2544ed47ab9b34ddb"), looks := true }, kinds := [], alts := [], laidByText := true, laidKinds := [.data, .pinned], laidTests := true, laidLooks := .later }
def PageEncodesUptoCardSaid : Prop := Claim7.holds Tryd.pinned (.plain (OpenSpec.upto pageEncodesSpec)) pageEncodesUptoCard

/-- THE SECOND FORM's CARD OF 'oakumlaw06.PageDecodes'. -/
def pageDecodesUptoCard : Claim7 := { stood := { row := pageDecodesUptoRow, standIns := [], harness := (true, "0b337010b6675e74c86bb0bfa6d8bd787e39c98fa842a1e2544ed47ab9b34ddb"), looks := true }, kinds := [], alts := [], laidByText := true, laidKinds := [.data, .pinned], laidTests := true, laidLooks := .later }
def PageDecodesUptoCardSaid : Prop := Claim7.holds Tryd.pinned (.plain (OpenSpec.upto pageDecodesSpec)) pageDecodesUptoCard

/-- THE SECOND FORM's CARD OF 'oakumlaw06.PageBack'. -/
def pageBackUptoCard : Claim7 := { stood := { row := pageBackUptoRow, standIns := [], harness := (true, "0b337010b6675e74c86bb0bfa6d8bd787e39c98fa842a1e2544ed47ab9b34ddb"), looks := true }, kinds := [], alts := [], laidByText := true, laidKinds := [.data, .pinned], laidTests := true, laidLooks := .later }
def PageBackUptoCardSaid : Prop := Claim7.holds Tryd.pinned (.plain (OpenSpec.upto pageBackSpec)) pageBackUptoCard
end Rows
end Go.Proofs.YtjnehijefdbpjaaDoor
