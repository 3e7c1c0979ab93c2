/-
  No cell of these rows narrows 'for every input' (looked for: loops, veiled, ifaces, maps, wideKeys, modest, calm, conditions, laid).
  DERIVED. THE GIVEN ROWS OF THIS SEAT. 6 by the template 'for every input the law returns true; each argument reads behind the call as it read before'; 0 by the template 'total and deterministic' (their statements: YtgdbafinncajfaaTotals.lean).
  GIVEN WITH THE SEED: the statements are not yours to turn. If you find one false, say at which input.
  Laid BY PROGRAM, IN A SANDBOX (cutbox-rows.mjs): the forced cells as the released guide's own fill.sh prints them over the translation d1843a770f74fbf7… (all of the seat's roots in one cut). By AI agents, Wed Nov 11 2026. No macro, syntax, notation, axiom, sorry.
-/
import Derived.Test.YtgdbafinncajfaaChecked
import GoSem.Claim
import GoSem.ClaimJoined
import GoSem.ClaimMapViews
import Derived.JoinedTies
import Derived.KernelRfl
namespace Go.Proofs.Ytgdbafinncajfaa
/- THE CELL 'sum', in the pinned program and in every row, IS THE sha256 OF THE DUMP (.gsa) THAT YtgdbafinncajfaaProg.lean LOADS. Nothing in Lean hashes anything: it is a label: what it is worth is what the hold of that sum in a sandbox is worth. -/
noncomputable def Try.pinned : Pinned := { name := "ytgdbafinncajfaa", sum := "d1843a770f74fbf71bc3c836c0da04130e36c19cf5963241464ab17b34dc322b", checked := Try.checked }
namespace Rows
def none {H : Type} : Left H := { results := [], args := [] }

/-- 'oakumlaw13.RunsTell': WHATEVER THE INPUT: true; the input reads as it did. -/
def runsTellSpec : ChangeSpec := { name := "runsTell", fn := fun _ => fun
  | [d1, d2] => { results := [.lit (.bool true)], args := [d1, d2] }
  | _ => none }
def runsTellRow : OpenClaim := { program := "ytgdbafinncajfaa", sum := "d1843a770f74fbf71bc3c836c0da04130e36c19cf5963241464ab17b34dc322b", func := "oakum/oakumlaw13.RunsTell", spec := "runsTell", unfollowed := true, recurses := true, apart := false }
def RunsTellSaid : Prop := runsTellRow.holds Try.pinned (OpenSpec.ofChange runsTellSpec)

/-- ITS FALSE NEIGHBOUR: 'it returns false'. Refute it at one input. -/
def runsTellWrong : ChangeSpec := { name := "runsTell", fn := fun _ => fun
  | [d1, d2] => { results := [.lit (.bool false)], args := [d1, d2] }
  | _ => none }
def RunsTellWrongFalsely : Prop := runsTellRow.holds Try.pinned (OpenSpec.ofChange runsTellWrong)

/-- 'oakumlaw13.RunsWhole': WHATEVER THE INPUT: true; the input reads as it did. -/
def runsWholeSpec : ChangeSpec := { name := "runsWhole", fn := fun _ => fun
  | [d1, d2] => { results := [.lit (.bool true)], args := [d1, d2] }
  | _ => none }
def runsWholeRow : OpenClaim := { program := "ytgdbafinncajfaa", sum := "d1843a770f74fbf71bc3c836c0da04130e36c19cf5963241464ab17b34dc322b", func := "oakum/oakumlaw13.RunsWhole", spec := "runsWhole", unfollowed := true, recurses := true, apart := false }
def RunsWholeSaid : Prop := runsWholeRow.holds Try.pinned (OpenSpec.ofChange runsWholeSpec)

/-- ITS FALSE NEIGHBOUR: 'it returns false'. Refute it at one input. -/
def runsWholeWrong : ChangeSpec := { name := "runsWhole", fn := fun _ => fun
  | [d1, d2] => { results := [.lit (.bool false)], args := [d1, d2] }
  | _ => none }
def RunsWholeWrongFalsely : Prop := runsWholeRow.holds Try.pinned (OpenSpec.ofChange runsWholeWrong)

/-- 'oakumlaw13.RunsOwn': WHATEVER THE INPUT: true; the input reads as it did. -/
def runsOwnSpec : ChangeSpec := { name := "runsOwn", fn := fun _ => fun
  | [d1, d2] => { results := [.lit (.bool true)], args := [d1, d2] }
  | _ => none }
def runsOwnRow : OpenClaim := { program := "ytgdbafinncajfaa", sum := "d1843a770f74fbf71bc3c836c0da04130e36c19cf5963241464ab17b34dc322b", func := "oakum/oakumlaw13.RunsOwn", spec := "runsOwn", unfollowed := true, recurses := true, apart := false }
def RunsOwnSaid : Prop := runsOwnRow.holds Try.pinned (OpenSpec.ofChange runsOwnSpec)

/-- ITS FALSE NEIGHBOUR: 'it returns false'. Refute it at one input. -/
def runsOwnWrong : ChangeSpec := { name := "runsOwn", fn := fun _ => fun
  | [d1, d2] => { results := [.lit (.bool false)], args := [d1, d2] }
  | _ => none }
def RunsOwnWrongFalsely : Prop := runsOwnRow.holds Try.pinned (OpenSpec.ofChange runsOwnWrong)

/-- 'oakumlaw04.DiskPlays': WHATEVER THE INPUT: true; the input reads as it did. -/
def diskPlaysSpec : ChangeSpec := { name := "diskPlays", fn := fun _ => fun
  | [d1, d2] => { results := [.lit (.bool true)], args := [d1, d2] }
  | _ => none }
def diskPlaysRow : OpenClaim := { program := "ytgdbafinncajfaa", sum := "d1843a770f74fbf71bc3c836c0da04130e36c19cf5963241464ab17b34dc322b", func := "oakum/oakumlaw04.DiskPlays", spec := "diskPlays", unfollowed := true, recurses := true, apart := false }
def DiskPlaysSaid : Prop := diskPlaysRow.holds Try.pinned (OpenSpec.ofChange diskPlaysSpec)

/-- ITS FALSE NEIGHBOUR: 'it returns false'. Refute it at one input. -/
def diskPlaysWrong : ChangeSpec := { name := "diskPlays", fn := fun _ => fun
  | [d1, d2] => { results := [.lit (.bool false)], args := [d1, d2] }
  | _ => none }
def DiskPlaysWrongFalsely : Prop := diskPlaysRow.holds Try.pinned (OpenSpec.ofChange diskPlaysWrong)

/-- 'oakumlaw04.DiskFlushed': WHATEVER THE INPUT: true; the input reads as it did. -/
def diskFlushedSpec : ChangeSpec := { name := "diskFlushed", fn := fun _ => fun
  | [d1, d2, d3] => { results := [.lit (.bool true)], args := [d1, d2, d3] }
  | _ => none }
def diskFlushedRow : OpenClaim := { program := "ytgdbafinncajfaa", sum := "d1843a770f74fbf71bc3c836c0da04130e36c19cf5963241464ab17b34dc322b", func := "oakum/oakumlaw04.DiskFlushed", spec := "diskFlushed", unfollowed := true, recurses := true, apart := false }
def DiskFlushedSaid : Prop := diskFlushedRow.holds Try.pinned (OpenSpec.ofChange diskFlushedSpec)

/-- ITS FALSE NEIGHBOUR: 'it returns false'. Refute it at one input. -/
def diskFlushedWrong : ChangeSpec := { name := "diskFlushed", fn := fun _ => fun
  | [d1, d2, d3] => { results := [.lit (.bool false)], args := [d1, d2, d3] }
  | _ => none }
def DiskFlushedWrongFalsely : Prop := diskFlushedRow.holds Try.pinned (OpenSpec.ofChange diskFlushedWrong)

/-- 'oakumlaw04.DiskClone': WHATEVER THE INPUT: true; the input reads as it did. -/
def diskCloneSpec : ChangeSpec := { name := "diskClone", fn := fun _ => fun
  | [d1, d2, d3] => { results := [.lit (.bool true)], args := [d1, d2, d3] }
  | _ => none }
def diskCloneRow : OpenClaim := { program := "ytgdbafinncajfaa", sum := "d1843a770f74fbf71bc3c836c0da04130e36c19cf5963241464ab17b34dc322b", func := "oakum/oakumlaw04.DiskClone", spec := "diskClone", unfollowed := true, recurses := true, apart := false }
def DiskCloneSaid : Prop := diskCloneRow.holds Try.pinned (OpenSpec.ofChange diskCloneSpec)

/-- ITS FALSE NEIGHBOUR: 'it returns false'. Refute it at one input. -/
def diskCloneWrong : ChangeSpec := { name := "diskClone", fn := fun _ => fun
  | [d1, d2, d3] => { results := [.lit (.bool false)], args := [d1, d2, d3] }
  | _ => none }
def DiskCloneWrongFalsely : Prop := diskCloneRow.holds Try.pinned (OpenSpec.ofChange diskCloneWrong)

/- THE SECOND FORM. 'bulk': how many values and letters a reading holds, each counted each time it is reached (what is shared counts as often as it is met; a slice's spare places count too). A statement '..UptoSaid' is the law's where the arguments, and the package variables that the reading takes, are together of bulk at most 1048576: NARROWER than '..Said'. Prove '..Said' where nothing that the law and all that it calls make is longer than what came in: it says more and counts as full. Else prove '..UptoSaid'. A law counts once. -/
mutual
def uptoBulk {H : Type} : DataW H → Nat
  | .lit (.string bytes) => bytes.length + 1
  | .lit _ => 1
  | .nil => 1
  | .ptr d => uptoBulk d + 1
  | .slice elems spare => uptoBulkAll elems + uptoBulkAll spare + 1
  | .agg parts => uptoBulkAll parts + 1
  | .iface _ d => uptoBulk d + 1
  | .map entries => uptoBulkEntries entries + 1
  | .held _ => 1
def uptoBulkAll {H : Type} : List (DataW H) → Nat
  | [] => 0
  | d :: r => uptoBulk d + uptoBulkAll r
def uptoBulkEntries {H : Type} : List (Lit × DataW H) → Nat
  | [] => 0
  | x :: r => uptoBulkEntry x + uptoBulkEntries r
def uptoBulkEntry {H : Type} : Lit × DataW H → Nat
  | (.string bytes, d) => bytes.length + uptoBulk d + 1
  | (_, d) => uptoBulk d + 1
 end
def uptoSmall : (H : Type) → List (DataW H) → Bool := fun _ ds => decide (uptoBulkAll ds ≤ 1048576)
def OpenSpec.upto (s : _root_.Go.ChangeSpec) : _root_.Go.OpenSpec := { _root_.Go.OpenSpec.ofChange s with cond := some uptoSmall }

/-- 'oakumlaw13.RunsTell', WHERE WHAT IT READS IS OF BULK AT MOST 1048576: true; the input reads as it did. -/
def runsTellUptoRow : OpenClaim := { program := "ytgdbafinncajfaa", sum := "d1843a770f74fbf71bc3c836c0da04130e36c19cf5963241464ab17b34dc322b", func := "oakum/oakumlaw13.RunsTell", spec := "runsTell", unfollowed := true, recurses := true, apart := false, narrowed := true }
def RunsTellUptoSaid : Prop := runsTellUptoRow.holds Try.pinned (OpenSpec.upto runsTellSpec)

/-- 'oakumlaw13.RunsWhole', WHERE WHAT IT READS IS OF BULK AT MOST 1048576: true; the input reads as it did. -/
def runsWholeUptoRow : OpenClaim := { program := "ytgdbafinncajfaa", sum := "d1843a770f74fbf71bc3c836c0da04130e36c19cf5963241464ab17b34dc322b", func := "oakum/oakumlaw13.RunsWhole", spec := "runsWhole", unfollowed := true, recurses := true, apart := false, narrowed := true }
def RunsWholeUptoSaid : Prop := runsWholeUptoRow.holds Try.pinned (OpenSpec.upto runsWholeSpec)

/-- 'oakumlaw13.RunsOwn', WHERE WHAT IT READS IS OF BULK AT MOST 1048576: true; the input reads as it did. -/
def runsOwnUptoRow : OpenClaim := { program := "ytgdbafinncajfaa", sum := "d1843a770f74fbf71bc3c836c0da04130e36c19cf5963241464ab17b34dc322b", func := "oakum/oakumlaw13.RunsOwn", spec := "runsOwn", unfollowed := true, recurses := true, apart := false, narrowed := true }
def RunsOwnUptoSaid : Prop := runsOwnUptoRow.holds Try.pinned (OpenSpec.upto runsOwnSpec)

/-- 'oakumlaw04.DiskPlays', WHERE WHAT IT READS IS OF BULK AT MOST 1048576: true; the input reads as it did. -/
def diskPlaysUptoRow : OpenClaim := { program := "ytgdbafinncajfaa", sum := "d1843a770f74fbf71bc3c836c0da04130e36c19cf5963241464ab17b34dc322b", func := "oakum/oakumlaw04.DiskPlays", spec := "diskPlays", unfollowed := true, recurses := true, apart := false, narrowed := true }
def DiskPlaysUptoSaid : Prop := diskPlaysUptoRow.holds Try.pinned (OpenSpec.upto diskPlaysSpec)

/-- 'oakumlaw04.DiskFlushed', WHERE WHAT IT READS IS OF BULK AT MOST 1048576: true; the input reads as it did. -/
def diskFlushedUptoRow : OpenClaim := { program := "ytgdbafinncajfaa", sum := "d1843a770f74fbf71bc3c836c0da04130e36c19cf5963241464ab17b34dc322b", func := "oakum/oakumlaw04.DiskFlushed", spec := "diskFlushed", unfollowed := true, recurses := true, apart := false, narrowed := true }
def DiskFlushedUptoSaid : Prop := diskFlushedUptoRow.holds Try.pinned (OpenSpec.upto diskFlushedSpec)

/-- 'oakumlaw04.DiskClone', WHERE WHAT IT READS IS OF BULK AT MOST 1048576: true; the input reads as it did. -/
def diskCloneUptoRow : OpenClaim := { program := "ytgdbafinncajfaa", sum := "d1843a770f74fbf71bc3c836c0da04130e36c19cf5963241464ab17b34dc322b", func := "oakum/oakumlaw04.DiskClone", spec := "diskClone", unfollowed := true, recurses := true, apart := false, narrowed := true }
def DiskCloneUptoSaid : Prop := diskCloneUptoRow.holds Try.pinned (OpenSpec.upto diskCloneSpec)

end Rows
end Go.Proofs.Ytgdbafinncajfaa
