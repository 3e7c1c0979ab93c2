/-
  DERIVED. GIVEN WITH THE SEED: THE CARDS: each row of YthlmdhklohnoaaaDoorRows.lean that lists a variable, with what it lists TIED to the program's text (the seventh form; the later family's looks); each row that meets fmt, with fmt's text TOLD by the authors' own Lean function (tested against real Go, not proved from fmt's source: count such statements apart). THE CARD IS WHAT COUNTS. Prove the row's statement (the work); the ties are given (YthlmdhklohnoaaaDoorTie.lean); close each card by the builder's one call (the guide's Derived/Test/ToyasCard.lean, 'card_holds'). Laid BY PROGRAM, IN A SANDBOX (cutbox-door.mjs). By AI agents, Wed Nov 11 2026. No macro, syntax, notation, axiom, sorry.
-/
import Derived.Test.YthlmdhklohnoaaaDoorRows
import GoSem.ClaimSeven
namespace Go.Proofs.YthlmdhklohnoaaaDoor
namespace Rows

/-- THE TIED CARD OF 'oakumlaw02.OctetGets'. -/
def octetGetsCard : Claim7 := { stood := { row := octetGetsRow, standIns := [], harness := (true, "9dfca63870af4f60c39e2db1ac7badf2629753adbef7982a86a49e08f9750ad1"), looks := true }, kinds := [], alts := [], laidByText := true, laidKinds := [.data, .pinned], laidTests := true, laidLooks := .later }
def OctetGetsCardSaid : Prop := Claim7.holds Tryd.pinned (.plain (OpenSpec.ofChange octetGetsSpec)) octetGetsCard

/-- THE TIED CARD OF 'oakumlaw02.OctetPuts'. -/
def octetPutsCard : Claim7 := { stood := { row := octetPutsRow, standIns := [], harness := (true, "9dfca63870af4f60c39e2db1ac7badf2629753adbef7982a86a49e08f9750ad1"), looks := true }, kinds := [], alts := [], laidByText := true, laidKinds := [.data, .pinned], laidTests := true, laidLooks := .later }
def OctetPutsCardSaid : Prop := Claim7.holds Tryd.pinned (.plain (OpenSpec.ofChange octetPutsSpec)) octetPutsCard

/-- THE TIED CARD OF 'oakumlaw02.OctetBack'. -/
def octetBackCard : Claim7 := { stood := { row := octetBackRow, standIns := [], harness := (true, "9dfca63870af4f60c39e2db1ac7badf2629753adbef7982a86a49e08f9750ad1"), looks := true }, kinds := [], alts := [], laidByText := true, laidKinds := [.data, .pinned], laidTests := true, laidLooks := .later }
def OctetBackCardSaid : Prop := Claim7.holds Tryd.pinned (.plain (OpenSpec.ofChange octetBackSpec)) octetBackCard

/-- THE TIED CARD OF 'oakumlaw02.OctetPads'. -/
def octetPadsCard : Claim7 := { stood := { row := octetPadsRow, standIns := [], harness := (true, "9dfca63870af4f60c39e2db1ac7badf2629753adbef7982a86a49e08f9750ad1"), looks := true }, kinds := [], alts := [], laidByText := true, laidKinds := [.data, .pinned], laidTests := true, laidLooks := .later }
def OctetPadsCardSaid : Prop := Claim7.holds Tryd.pinned (.plain (OpenSpec.ofChange octetPadsSpec)) octetPadsCard

/-- THE SECOND FORM's CARD OF 'oakumlaw02.OctetGets'. -/
def octetGetsUptoCard : Claim7 := { stood := { row := octetGetsUptoRow, standIns := [], harness := (true, "9dfca63870af4f60c39e2db1ac7badf2629753adbef7982a86a49e08f9750ad1"), looks := true }, kinds := [], alts := [], laidByText := true, laidKinds := [.data, .pinned], laidTests := true, laidLooks := .later }
def OctetGetsUptoCardSaid : Prop := Claim7.holds Tryd.pinned (.plain (OpenSpec.upto octetGetsSpec)) octetGetsUptoCard

/-- THE SECOND FORM's CARD OF 'oakumlaw02.OctetPuts'. -/
def octetPutsUptoCard : Claim7 := { stood := { row := octetPutsUptoRow, standIns := [], harness := (true, "9dfca63870af4f60c39e2db1ac7badf2629753adbef7982a86a49e08f9750ad1"), looks := true }, kinds := [], alts := [], laidByText := true, laidKinds := [.data, .pinned], laidTests := true, laidLooks := .later }
def OctetPutsUptoCardSaid : Prop := Claim7.holds Tryd.pinned (.plain (OpenSpec.upto octetPutsSpec)) octetPutsUptoCard

/-- THE SECOND FORM's CARD OF 'oakumlaw02.OctetBack'. -/
def octetBackUptoCard : Claim7 := { stood := { row := octetBackUptoRow, standIns := [], harness := (true, "9dfca63870af4f60c39e2db1ac7badf2629753adbef7982a86a49e08f9750ad1"), looks := true }, kinds := [], alts := [], laidByText := true, laidKinds := [.data, .pinned], laidTests := true, laidLooks := .later }
def OctetBackUptoCardSaid : Prop := Claim7.holds Tryd.pinned (.plain (OpenSpec.upto octetBackSpec)) octetBackUptoCard

/-- THE SECOND FORM's CARD OF 'oakumlaw02.OctetPads'. -/
def octetPadsUptoCard : Claim7 := { stood := { row := octetPadsUptoRow, standIns := [], harness := (true, "9dfca63870af4f60c39e2db1ac7badf2629753adbef7982a86a49e08f9750ad1"), looks := true }, kinds := [], alts := [], laidByText := true, laidKinds := [.data, .pinned], laidTests := true, laidLooks := .later }
def OctetPadsUptoCardSaid : Prop := Claim7.holds Tryd.pinned (.plain (OpenSpec.upto octetPadsSpec)) octetPadsUptoCard
end Rows
end Go.Proofs.YthlmdhklohnoaaaDoor
