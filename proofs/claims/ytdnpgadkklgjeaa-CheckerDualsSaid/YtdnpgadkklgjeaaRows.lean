/-
  No cell of these rows narrows 'for every input' (looked for: loops, veiled, ifaces, maps, wideKeys, modest, calm, conditions, laid).
  DERIVED. THE GIVEN ROWS OF THIS SEAT. 7 by the template 'for every input the law returns true; each argument reads behind the call as it read before'; 0 by the template 'total and deterministic' (their statements: YtdnpgadkklgjeaaTotals.lean).
  GIVEN WITH THE SEED: the statements are not yours to turn. If you find one false, say at which input.
  Laid BY PROGRAM, IN A SANDBOX (cutbox-rows.mjs): the forced cells as the released guide's own fill.sh prints them over the translation 87504c7f31019853… (all of the seat's roots in one cut). By AI agents, Wed Nov 11 2026. No macro, syntax, notation, axiom, sorry.
-/
import Derived.Test.YtdnpgadkklgjeaaChecked
import GoSem.Claim
import GoSem.ClaimJoined
import GoSem.ClaimMapViews
import Derived.JoinedTies
import Derived.KernelRfl
namespace Go.Proofs.Ytdnpgadkklgjeaa
/- THE CELL 'sum', in the pinned program and in every row, IS THE sha256 OF THE DUMP (.gsa) THAT YtdnpgadkklgjeaaProg.lean LOADS. Nothing in Lean hashes anything: it is a label: what it is worth is what the hold of that sum in a sandbox is worth. -/
noncomputable def Try.pinned : Pinned := { name := "ytdnpgadkklgjeaa", sum := "87504c7f310198532f17bd0f9b4b635c85bd6784de0f036baafcf38cca058170", checked := Try.checked }
namespace Rows
def none {H : Type} : Left H := { results := [], args := [] }

/-- 'wittinglaw17.CheckerHolds': WHATEVER THE INPUT: true; the input reads as it did. -/
def checkerHoldsSpec : ChangeSpec := { name := "checkerHolds", fn := fun _ => fun
  | [d1, d2, d3] => { results := [.lit (.bool true)], args := [d1, d2, d3] }
  | _ => none }
def checkerHoldsRow : OpenClaim := { program := "ytdnpgadkklgjeaa", sum := "87504c7f310198532f17bd0f9b4b635c85bd6784de0f036baafcf38cca058170", func := "witting/wittinglaw17.CheckerHolds", spec := "checkerHolds", unfollowed := true, recurses := true, plainKeys := false, apart := false }
def CheckerHoldsSaid : Prop := checkerHoldsRow.holds Try.pinned (OpenSpec.ofChange checkerHoldsSpec)

/-- ITS FALSE NEIGHBOUR: 'it returns false'. Refute it at one input. -/
def checkerHoldsWrong : ChangeSpec := { name := "checkerHolds", fn := fun _ => fun
  | [d1, d2, d3] => { results := [.lit (.bool false)], args := [d1, d2, d3] }
  | _ => none }
def CheckerHoldsWrongFalsely : Prop := checkerHoldsRow.holds Try.pinned (OpenSpec.ofChange checkerHoldsWrong)

/-- 'wittinglaw17.CheckerSets': WHATEVER THE INPUT: true; the input reads as it did. -/
def checkerSetsSpec : ChangeSpec := { name := "checkerSets", fn := fun _ => fun
  | [d1, d2] => { results := [.lit (.bool true)], args := [d1, d2] }
  | _ => none }
def checkerSetsRow : OpenClaim := { program := "ytdnpgadkklgjeaa", sum := "87504c7f310198532f17bd0f9b4b635c85bd6784de0f036baafcf38cca058170", func := "witting/wittinglaw17.CheckerSets", spec := "checkerSets", unfollowed := true, recurses := true, plainKeys := false, apart := false }
def CheckerSetsSaid : Prop := checkerSetsRow.holds Try.pinned (OpenSpec.ofChange checkerSetsSpec)

/-- ITS FALSE NEIGHBOUR: 'it returns false'. Refute it at one input. -/
def checkerSetsWrong : ChangeSpec := { name := "checkerSets", fn := fun _ => fun
  | [d1, d2] => { results := [.lit (.bool false)], args := [d1, d2] }
  | _ => none }
def CheckerSetsWrongFalsely : Prop := checkerSetsRow.holds Try.pinned (OpenSpec.ofChange checkerSetsWrong)

/-- 'wittinglaw17.CheckerDuals': WHATEVER THE INPUT: true; the input reads as it did. -/
def checkerDualsSpec : ChangeSpec := { name := "checkerDuals", fn := fun _ => fun
  | [d1, d2, d3] => { results := [.lit (.bool true)], args := [d1, d2, d3] }
  | _ => none }
def checkerDualsRow : OpenClaim := { program := "ytdnpgadkklgjeaa", sum := "87504c7f310198532f17bd0f9b4b635c85bd6784de0f036baafcf38cca058170", func := "witting/wittinglaw17.CheckerDuals", spec := "checkerDuals", unfollowed := true, recurses := true, plainKeys := false, apart := false }
def CheckerDualsSaid : Prop := checkerDualsRow.holds Try.pinned (OpenSpec.ofChange checkerDualsSpec)

/-- ITS FALSE NEIGHBOUR: 'it returns false'. Refute it at one input. -/
def checkerDualsWrong : ChangeSpec := { name := "checkerDuals", fn := fun _ => fun
  | [d1, d2, d3] => { results := [.lit (.bool false)], args := [d1, d2, d3] }
  | _ => none }
def CheckerDualsWrongFalsely : Prop := checkerDualsRow.holds Try.pinned (OpenSpec.ofChange checkerDualsWrong)

/-- 'wittinglaw17.CheckerFixpoint': WHATEVER THE INPUT: true; the input reads as it did. -/
def checkerFixpointSpec : ChangeSpec := { name := "checkerFixpoint", fn := fun _ => fun
  | [d1, d2, d3] => { results := [.lit (.bool true)], args := [d1, d2, d3] }
  | _ => none }
def checkerFixpointRow : OpenClaim := { program := "ytdnpgadkklgjeaa", sum := "87504c7f310198532f17bd0f9b4b635c85bd6784de0f036baafcf38cca058170", func := "witting/wittinglaw17.CheckerFixpoint", spec := "checkerFixpoint", unfollowed := true, recurses := true, plainKeys := false, apart := false }
def CheckerFixpointSaid : Prop := checkerFixpointRow.holds Try.pinned (OpenSpec.ofChange checkerFixpointSpec)

/-- ITS FALSE NEIGHBOUR: 'it returns false'. Refute it at one input. -/
def checkerFixpointWrong : ChangeSpec := { name := "checkerFixpoint", fn := fun _ => fun
  | [d1, d2, d3] => { results := [.lit (.bool false)], args := [d1, d2, d3] }
  | _ => none }
def CheckerFixpointWrongFalsely : Prop := checkerFixpointRow.holds Try.pinned (OpenSpec.ofChange checkerFixpointWrong)

/-- 'wittinglaw17.CheckerPaths': WHATEVER THE INPUT: true; the input reads as it did. -/
def checkerPathsSpec : ChangeSpec := { name := "checkerPaths", fn := fun _ => fun
  | [d1, d2, d3] => { results := [.lit (.bool true)], args := [d1, d2, d3] }
  | _ => none }
def checkerPathsRow : OpenClaim := { program := "ytdnpgadkklgjeaa", sum := "87504c7f310198532f17bd0f9b4b635c85bd6784de0f036baafcf38cca058170", func := "witting/wittinglaw17.CheckerPaths", spec := "checkerPaths", unfollowed := true, recurses := true, plainKeys := false, apart := false }
def CheckerPathsSaid : Prop := checkerPathsRow.holds Try.pinned (OpenSpec.ofChange checkerPathsSpec)

/-- ITS FALSE NEIGHBOUR: 'it returns false'. Refute it at one input. -/
def checkerPathsWrong : ChangeSpec := { name := "checkerPaths", fn := fun _ => fun
  | [d1, d2, d3] => { results := [.lit (.bool false)], args := [d1, d2, d3] }
  | _ => none }
def CheckerPathsWrongFalsely : Prop := checkerPathsRow.holds Try.pinned (OpenSpec.ofChange checkerPathsWrong)

/-- 'wittinglaw17.CheckerAxioms': WHATEVER THE INPUT: true; the input reads as it did. -/
def checkerAxiomsSpec : ChangeSpec := { name := "checkerAxioms", fn := fun _ => fun
  | [d1, d2, d3] => { results := [.lit (.bool true)], args := [d1, d2, d3] }
  | _ => none }
def checkerAxiomsRow : OpenClaim := { program := "ytdnpgadkklgjeaa", sum := "87504c7f310198532f17bd0f9b4b635c85bd6784de0f036baafcf38cca058170", func := "witting/wittinglaw17.CheckerAxioms", spec := "checkerAxioms", unfollowed := true, recurses := true, plainKeys := false, apart := false }
def CheckerAxiomsSaid : Prop := checkerAxiomsRow.holds Try.pinned (OpenSpec.ofChange checkerAxiomsSpec)

/-- ITS FALSE NEIGHBOUR: 'it returns false'. Refute it at one input. -/
def checkerAxiomsWrong : ChangeSpec := { name := "checkerAxioms", fn := fun _ => fun
  | [d1, d2, d3] => { results := [.lit (.bool false)], args := [d1, d2, d3] }
  | _ => none }
def CheckerAxiomsWrongFalsely : Prop := checkerAxiomsRow.holds Try.pinned (OpenSpec.ofChange checkerAxiomsWrong)

/-- 'wittinglaw17.CheckerTables': WHATEVER THE INPUT: true; the input reads as it did. -/
def checkerTablesSpec : ChangeSpec := { name := "checkerTables", fn := fun _ => fun
  | [d1, d2, d3] => { results := [.lit (.bool true)], args := [d1, d2, d3] }
  | _ => none }
def checkerTablesRow : OpenClaim := { program := "ytdnpgadkklgjeaa", sum := "87504c7f310198532f17bd0f9b4b635c85bd6784de0f036baafcf38cca058170", func := "witting/wittinglaw17.CheckerTables", spec := "checkerTables", unfollowed := true, recurses := true, plainKeys := false, apart := false }
def CheckerTablesSaid : Prop := checkerTablesRow.holds Try.pinned (OpenSpec.ofChange checkerTablesSpec)

/-- ITS FALSE NEIGHBOUR: 'it returns false'. Refute it at one input. -/
def checkerTablesWrong : ChangeSpec := { name := "checkerTables", fn := fun _ => fun
  | [d1, d2, d3] => { results := [.lit (.bool false)], args := [d1, d2, d3] }
  | _ => none }
def CheckerTablesWrongFalsely : Prop := checkerTablesRow.holds Try.pinned (OpenSpec.ofChange checkerTablesWrong)

/- THE SECOND FORM. 'bulk': how many values and letters a reading holds, each counted each time it is reached (what is shared counts as often as it is met; a slice's spare places count too). A statement '..UptoSaid' is the law's where the arguments, and the package variables that the reading takes, are together of bulk at most 1048576: NARROWER than '..Said'. Prove '..Said' where nothing that the law and all that it calls make is longer than what came in: it says more and counts as full. Else prove '..UptoSaid'. A law counts once. -/
mutual
def uptoBulk {H : Type} : DataW H → Nat
  | .lit (.string bytes) => bytes.length + 1
  | .lit _ => 1
  | .nil => 1
  | .ptr d => uptoBulk d + 1
  | .slice elems spare => uptoBulkAll elems + uptoBulkAll spare + 1
  | .agg parts => uptoBulkAll parts + 1
  | .iface _ d => uptoBulk d + 1
  | .map entries => uptoBulkEntries entries + 1
  | .held _ => 1
def uptoBulkAll {H : Type} : List (DataW H) → Nat
  | [] => 0
  | d :: r => uptoBulk d + uptoBulkAll r
def uptoBulkEntries {H : Type} : List (Lit × DataW H) → Nat
  | [] => 0
  | x :: r => uptoBulkEntry x + uptoBulkEntries r
def uptoBulkEntry {H : Type} : Lit × DataW H → Nat
  | (.string bytes, d) => bytes.length + uptoBulk d + 1
  | (_, d) => uptoBulk d + 1
 end
def uptoSmall : (H : Type) → List (DataW H) → Bool := fun _ ds => decide (uptoBulkAll ds ≤ 1048576)
def OpenSpec.upto (s : _root_.Go.ChangeSpec) : _root_.Go.OpenSpec := { _root_.Go.OpenSpec.ofChange s with cond := some uptoSmall }

/-- 'wittinglaw17.CheckerHolds', WHERE WHAT IT READS IS OF BULK AT MOST 1048576: true; the input reads as it did. -/
def checkerHoldsUptoRow : OpenClaim := { program := "ytdnpgadkklgjeaa", sum := "87504c7f310198532f17bd0f9b4b635c85bd6784de0f036baafcf38cca058170", func := "witting/wittinglaw17.CheckerHolds", spec := "checkerHolds", unfollowed := true, recurses := true, plainKeys := false, apart := false, narrowed := true }
def CheckerHoldsUptoSaid : Prop := checkerHoldsUptoRow.holds Try.pinned (OpenSpec.upto checkerHoldsSpec)

/-- 'wittinglaw17.CheckerSets', WHERE WHAT IT READS IS OF BULK AT MOST 1048576: true; the input reads as it did. -/
def checkerSetsUptoRow : OpenClaim := { program := "ytdnpgadkklgjeaa", sum := "87504c7f310198532f17bd0f9b4b635c85bd6784de0f036baafcf38cca058170", func := "witting/wittinglaw17.CheckerSets", spec := "checkerSets", unfollowed := true, recurses := true, plainKeys := false, apart := false, narrowed := true }
def CheckerSetsUptoSaid : Prop := checkerSetsUptoRow.holds Try.pinned (OpenSpec.upto checkerSetsSpec)

/-- 'wittinglaw17.CheckerDuals', WHERE WHAT IT READS IS OF BULK AT MOST 1048576: true; the input reads as it did. -/
def checkerDualsUptoRow : OpenClaim := { program := "ytdnpgadkklgjeaa", sum := "87504c7f310198532f17bd0f9b4b635c85bd6784de0f036baafcf38cca058170", func := "witting/wittinglaw17.CheckerDuals", spec := "checkerDuals", unfollowed := true, recurses := true, plainKeys := false, apart := false, narrowed := true }
def CheckerDualsUptoSaid : Prop := checkerDualsUptoRow.holds Try.pinned (OpenSpec.upto checkerDualsSpec)

/-- 'wittinglaw17.CheckerFixpoint', WHERE WHAT IT READS IS OF BULK AT MOST 1048576: true; the input reads as it did. -/
def checkerFixpointUptoRow : OpenClaim := { program := "ytdnpgadkklgjeaa", sum := "87504c7f310198532f17bd0f9b4b635c85bd6784de0f036baafcf38cca058170", func := "witting/wittinglaw17.CheckerFixpoint", spec := "checkerFixpoint", unfollowed := true, recurses := true, plainKeys := false, apart := false, narrowed := true }
def CheckerFixpointUptoSaid : Prop := checkerFixpointUptoRow.holds Try.pinned (OpenSpec.upto checkerFixpointSpec)

/-- 'wittinglaw17.CheckerPaths', WHERE WHAT IT READS IS OF BULK AT MOST 1048576: true; the input reads as it did. -/
def checkerPathsUptoRow : OpenClaim := { program := "ytdnpgadkklgjeaa", sum := "87504c7f310198532f17bd0f9b4b635c85bd6784de0f036baafcf38cca058170", func := "witting/wittinglaw17.CheckerPaths", spec := "checkerPaths", unfollowed := true, recurses := true, plainKeys := false, apart := false, narrowed := true }
def CheckerPathsUptoSaid : Prop := checkerPathsUptoRow.holds Try.pinned (OpenSpec.upto checkerPathsSpec)

/-- 'wittinglaw17.CheckerAxioms', WHERE WHAT IT READS IS OF BULK AT MOST 1048576: true; the input reads as it did. -/
def checkerAxiomsUptoRow : OpenClaim := { program := "ytdnpgadkklgjeaa", sum := "87504c7f310198532f17bd0f9b4b635c85bd6784de0f036baafcf38cca058170", func := "witting/wittinglaw17.CheckerAxioms", spec := "checkerAxioms", unfollowed := true, recurses := true, plainKeys := false, apart := false, narrowed := true }
def CheckerAxiomsUptoSaid : Prop := checkerAxiomsUptoRow.holds Try.pinned (OpenSpec.upto checkerAxiomsSpec)

/-- 'wittinglaw17.CheckerTables', WHERE WHAT IT READS IS OF BULK AT MOST 1048576: true; the input reads as it did. -/
def checkerTablesUptoRow : OpenClaim := { program := "ytdnpgadkklgjeaa", sum := "87504c7f310198532f17bd0f9b4b635c85bd6784de0f036baafcf38cca058170", func := "witting/wittinglaw17.CheckerTables", spec := "checkerTables", unfollowed := true, recurses := true, plainKeys := false, apart := false, narrowed := true }
def CheckerTablesUptoSaid : Prop := checkerTablesUptoRow.holds Try.pinned (OpenSpec.upto checkerTablesSpec)

end Rows
end Go.Proofs.Ytdnpgadkklgjeaa
