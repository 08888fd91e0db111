/-
  No cell of these rows narrows 'for every input' (looked for: loops, veiled, ifaces, maps, wideKeys, modest, calm, conditions, laid).
  DERIVED. THE GIVEN ROWS OF THIS SEAT. 7 by the template 'for every input the law returns true; each argument reads behind the call as it read before'; 0 by the template 'total and deterministic' (their statements: YtaghfmcaikjobaaTotals.lean).
  GIVEN WITH THE SEED: the statements are not yours to turn. If you find one false, say at which input.
  Laid BY PROGRAM, IN A SANDBOX (cutbox-rows.mjs): the forced cells as the released guide's own fill.sh prints them over the translation 960100aee36313ff… (all of the seat's roots in one cut). By AI agents, Wed Nov 11 2026. No macro, syntax, notation, axiom, sorry.
-/
import Derived.Test.YtaghfmcaikjobaaChecked
import GoSem.Claim
import GoSem.ClaimJoined
import GoSem.ClaimMapViews
import Derived.JoinedTies
import Derived.KernelRfl
namespace Go.Proofs.Ytaghfmcaikjobaa
/- THE CELL 'sum', in the pinned program and in every row, IS THE sha256 OF THE DUMP (.gsa) THAT YtaghfmcaikjobaaProg.lean LOADS. Nothing in Lean hashes anything: it is a label: what it is worth is what the hold of that sum in a sandbox is worth. -/
noncomputable def Try.pinned : Pinned := { name := "ytaghfmcaikjobaa", sum := "960100aee36313ffb6c977d700df958cb3a060ffa18b124311b86ed37f263b0a", checked := Try.checked }
namespace Rows
def none {H : Type} : Left H := { results := [], args := [] }

/-- 'wittinglaw22.ObserveBuilds': WHATEVER THE INPUT: true; the input reads as it did. -/
def observeBuildsSpec : ChangeSpec := { name := "observeBuilds", fn := fun _ => fun
  | [d1, d2, d3] => { results := [.lit (.bool true)], args := [d1, d2, d3] }
  | _ => none }
def observeBuildsRow : OpenClaim := { program := "ytaghfmcaikjobaa", sum := "960100aee36313ffb6c977d700df958cb3a060ffa18b124311b86ed37f263b0a", func := "witting/wittinglaw22.ObserveBuilds", spec := "observeBuilds", unfollowed := true, recurses := true, plainKeys := false, apart := false }
def ObserveBuildsSaid : Prop := observeBuildsRow.holds Try.pinned (OpenSpec.ofChange observeBuildsSpec)

/-- ITS FALSE NEIGHBOUR: 'it returns false'. Refute it at one input. -/
def observeBuildsWrong : ChangeSpec := { name := "observeBuilds", fn := fun _ => fun
  | [d1, d2, d3] => { results := [.lit (.bool false)], args := [d1, d2, d3] }
  | _ => none }
def ObserveBuildsWrongFalsely : Prop := observeBuildsRow.holds Try.pinned (OpenSpec.ofChange observeBuildsWrong)

/-- 'wittinglaw22.ObservePools': WHATEVER THE INPUT: true; the input reads as it did. -/
def observePoolsSpec : ChangeSpec := { name := "observePools", fn := fun _ => fun
  | [d1, d2] => { results := [.lit (.bool true)], args := [d1, d2] }
  | _ => none }
def observePoolsRow : OpenClaim := { program := "ytaghfmcaikjobaa", sum := "960100aee36313ffb6c977d700df958cb3a060ffa18b124311b86ed37f263b0a", func := "witting/wittinglaw22.ObservePools", spec := "observePools", unfollowed := true, recurses := true, plainKeys := false, apart := false }
def ObservePoolsSaid : Prop := observePoolsRow.holds Try.pinned (OpenSpec.ofChange observePoolsSpec)

/-- ITS FALSE NEIGHBOUR: 'it returns false'. Refute it at one input. -/
def observePoolsWrong : ChangeSpec := { name := "observePools", fn := fun _ => fun
  | [d1, d2] => { results := [.lit (.bool false)], args := [d1, d2] }
  | _ => none }
def ObservePoolsWrongFalsely : Prop := observePoolsRow.holds Try.pinned (OpenSpec.ofChange observePoolsWrong)

/-- 'wittinglaw22.ObserveProducts': WHATEVER THE INPUT: true; the input reads as it did. -/
def observeProductsSpec : ChangeSpec := { name := "observeProducts", fn := fun _ => fun
  | [d1, d2] => { results := [.lit (.bool true)], args := [d1, d2] }
  | _ => none }
def observeProductsRow : OpenClaim := { program := "ytaghfmcaikjobaa", sum := "960100aee36313ffb6c977d700df958cb3a060ffa18b124311b86ed37f263b0a", func := "witting/wittinglaw22.ObserveProducts", spec := "observeProducts", unfollowed := true, recurses := true, plainKeys := false, apart := false }
def ObserveProductsSaid : Prop := observeProductsRow.holds Try.pinned (OpenSpec.ofChange observeProductsSpec)

/-- ITS FALSE NEIGHBOUR: 'it returns false'. Refute it at one input. -/
def observeProductsWrong : ChangeSpec := { name := "observeProducts", fn := fun _ => fun
  | [d1, d2] => { results := [.lit (.bool false)], args := [d1, d2] }
  | _ => none }
def ObserveProductsWrongFalsely : Prop := observeProductsRow.holds Try.pinned (OpenSpec.ofChange observeProductsWrong)

/-- 'wittinglaw22.ObserveSides': WHATEVER THE INPUT: true; the input reads as it did. -/
def observeSidesSpec : ChangeSpec := { name := "observeSides", fn := fun _ => fun
  | [d1, d2, d3] => { results := [.lit (.bool true)], args := [d1, d2, d3] }
  | _ => none }
def observeSidesRow : OpenClaim := { program := "ytaghfmcaikjobaa", sum := "960100aee36313ffb6c977d700df958cb3a060ffa18b124311b86ed37f263b0a", func := "witting/wittinglaw22.ObserveSides", spec := "observeSides", unfollowed := true, recurses := true, plainKeys := false, apart := false }
def ObserveSidesSaid : Prop := observeSidesRow.holds Try.pinned (OpenSpec.ofChange observeSidesSpec)

/-- ITS FALSE NEIGHBOUR: 'it returns false'. Refute it at one input. -/
def observeSidesWrong : ChangeSpec := { name := "observeSides", fn := fun _ => fun
  | [d1, d2, d3] => { results := [.lit (.bool false)], args := [d1, d2, d3] }
  | _ => none }
def ObserveSidesWrongFalsely : Prop := observeSidesRow.holds Try.pinned (OpenSpec.ofChange observeSidesWrong)

/-- 'wittinglaw22.ObserveTogether': WHATEVER THE INPUT: true; the input reads as it did. -/
def observeTogetherSpec : ChangeSpec := { name := "observeTogether", fn := fun _ => fun
  | [d1, d2, d3] => { results := [.lit (.bool true)], args := [d1, d2, d3] }
  | _ => none }
def observeTogetherRow : OpenClaim := { program := "ytaghfmcaikjobaa", sum := "960100aee36313ffb6c977d700df958cb3a060ffa18b124311b86ed37f263b0a", func := "witting/wittinglaw22.ObserveTogether", spec := "observeTogether", unfollowed := true, recurses := true, plainKeys := false, apart := false }
def ObserveTogetherSaid : Prop := observeTogetherRow.holds Try.pinned (OpenSpec.ofChange observeTogetherSpec)

/-- ITS FALSE NEIGHBOUR: 'it returns false'. Refute it at one input. -/
def observeTogetherWrong : ChangeSpec := { name := "observeTogether", fn := fun _ => fun
  | [d1, d2, d3] => { results := [.lit (.bool false)], args := [d1, d2, d3] }
  | _ => none }
def ObserveTogetherWrongFalsely : Prop := observeTogetherRow.holds Try.pinned (OpenSpec.ofChange observeTogetherWrong)

/-- 'wittinglaw22.ObserveKnows': WHATEVER THE INPUT: true; the input reads as it did. -/
def observeKnowsSpec : ChangeSpec := { name := "observeKnows", fn := fun _ => fun
  | [d1, d2, d3] => { results := [.lit (.bool true)], args := [d1, d2, d3] }
  | _ => none }
def observeKnowsRow : OpenClaim := { program := "ytaghfmcaikjobaa", sum := "960100aee36313ffb6c977d700df958cb3a060ffa18b124311b86ed37f263b0a", func := "witting/wittinglaw22.ObserveKnows", spec := "observeKnows", unfollowed := true, recurses := true, plainKeys := false, apart := false }
def ObserveKnowsSaid : Prop := observeKnowsRow.holds Try.pinned (OpenSpec.ofChange observeKnowsSpec)

/-- ITS FALSE NEIGHBOUR: 'it returns false'. Refute it at one input. -/
def observeKnowsWrong : ChangeSpec := { name := "observeKnows", fn := fun _ => fun
  | [d1, d2, d3] => { results := [.lit (.bool false)], args := [d1, d2, d3] }
  | _ => none }
def ObserveKnowsWrongFalsely : Prop := observeKnowsRow.holds Try.pinned (OpenSpec.ofChange observeKnowsWrong)

/-- 'wittinglaw22.ObserveLearns': WHATEVER THE INPUT: true; the input reads as it did. -/
def observeLearnsSpec : ChangeSpec := { name := "observeLearns", fn := fun _ => fun
  | [d1, d2, d3] => { results := [.lit (.bool true)], args := [d1, d2, d3] }
  | _ => none }
def observeLearnsRow : OpenClaim := { program := "ytaghfmcaikjobaa", sum := "960100aee36313ffb6c977d700df958cb3a060ffa18b124311b86ed37f263b0a", func := "witting/wittinglaw22.ObserveLearns", spec := "observeLearns", unfollowed := true, recurses := true, plainKeys := false, apart := false }
def ObserveLearnsSaid : Prop := observeLearnsRow.holds Try.pinned (OpenSpec.ofChange observeLearnsSpec)

/-- ITS FALSE NEIGHBOUR: 'it returns false'. Refute it at one input. -/
def observeLearnsWrong : ChangeSpec := { name := "observeLearns", fn := fun _ => fun
  | [d1, d2, d3] => { results := [.lit (.bool false)], args := [d1, d2, d3] }
  | _ => none }
def ObserveLearnsWrongFalsely : Prop := observeLearnsRow.holds Try.pinned (OpenSpec.ofChange observeLearnsWrong)

/- THE SECOND FORM. 'bulk': how many values and letters a reading holds, each counted each time it is reached (what is shared counts as often as it is met; a slice's spare places count too). A statement '..UptoSaid' is the law's where the arguments, and the package variables that the reading takes, are together of bulk at most 1048576: NARROWER than '..Said'. Prove '..Said' where nothing that the law and all that it calls make is longer than what came in: it says more and counts as full. Else prove '..UptoSaid'. A law counts once. -/
mutual
def uptoBulk {H : Type} : DataW H → Nat
  | .lit (.string bytes) => bytes.length + 1
  | .lit _ => 1
  | .nil => 1
  | .ptr d => uptoBulk d + 1
  | .slice elems spare => uptoBulkAll elems + uptoBulkAll spare + 1
  | .agg parts => uptoBulkAll parts + 1
  | .iface _ d => uptoBulk d + 1
  | .map entries => uptoBulkEntries entries + 1
  | .held _ => 1
def uptoBulkAll {H : Type} : List (DataW H) → Nat
  | [] => 0
  | d :: r => uptoBulk d + uptoBulkAll r
def uptoBulkEntries {H : Type} : List (Lit × DataW H) → Nat
  | [] => 0
  | x :: r => uptoBulkEntry x + uptoBulkEntries r
def uptoBulkEntry {H : Type} : Lit × DataW H → Nat
  | (.string bytes, d) => bytes.length + uptoBulk d + 1
  | (_, d) => uptoBulk d + 1
 end
def uptoSmall : (H : Type) → List (DataW H) → Bool := fun _ ds => decide (uptoBulkAll ds ≤ 1048576)
def OpenSpec.upto (s : _root_.Go.ChangeSpec) : _root_.Go.OpenSpec := { _root_.Go.OpenSpec.ofChange s with cond := some uptoSmall }

/-- 'wittinglaw22.ObserveBuilds', WHERE WHAT IT READS IS OF BULK AT MOST 1048576: true; the input reads as it did. -/
def observeBuildsUptoRow : OpenClaim := { program := "ytaghfmcaikjobaa", sum := "960100aee36313ffb6c977d700df958cb3a060ffa18b124311b86ed37f263b0a", func := "witting/wittinglaw22.ObserveBuilds", spec := "observeBuilds", unfollowed := true, recurses := true, plainKeys := false, apart := false, narrowed := true }
def ObserveBuildsUptoSaid : Prop := observeBuildsUptoRow.holds Try.pinned (OpenSpec.upto observeBuildsSpec)

/-- 'wittinglaw22.ObservePools', WHERE WHAT IT READS IS OF BULK AT MOST 1048576: true; the input reads as it did. -/
def observePoolsUptoRow : OpenClaim := { program := "ytaghfmcaikjobaa", sum := "960100aee36313ffb6c977d700df958cb3a060ffa18b124311b86ed37f263b0a", func := "witting/wittinglaw22.ObservePools", spec := "observePools", unfollowed := true, recurses := true, plainKeys := false, apart := false, narrowed := true }
def ObservePoolsUptoSaid : Prop := observePoolsUptoRow.holds Try.pinned (OpenSpec.upto observePoolsSpec)

/-- 'wittinglaw22.ObserveProducts', WHERE WHAT IT READS IS OF BULK AT MOST 1048576: true; the input reads as it did. -/
def observeProductsUptoRow : OpenClaim := { program := "ytaghfmcaikjobaa", sum := "960100aee36313ffb6c977d700df958cb3a060ffa18b124311b86ed37f263b0a", func := "witting/wittinglaw22.ObserveProducts", spec := "observeProducts", unfollowed := true, recurses := true, plainKeys := false, apart := false, narrowed := true }
def ObserveProductsUptoSaid : Prop := observeProductsUptoRow.holds Try.pinned (OpenSpec.upto observeProductsSpec)

/-- 'wittinglaw22.ObserveSides', WHERE WHAT IT READS IS OF BULK AT MOST 1048576: true; the input reads as it did. -/
def observeSidesUptoRow : OpenClaim := { program := "ytaghfmcaikjobaa", sum := "960100aee36313ffb6c977d700df958cb3a060ffa18b124311b86ed37f263b0a", func := "witting/wittinglaw22.ObserveSides", spec := "observeSides", unfollowed := true, recurses := true, plainKeys := false, apart := false, narrowed := true }
def ObserveSidesUptoSaid : Prop := observeSidesUptoRow.holds Try.pinned (OpenSpec.upto observeSidesSpec)

/-- 'wittinglaw22.ObserveTogether', WHERE WHAT IT READS IS OF BULK AT MOST 1048576: true; the input reads as it did. -/
def observeTogetherUptoRow : OpenClaim := { program := "ytaghfmcaikjobaa", sum := "960100aee36313ffb6c977d700df958cb3a060ffa18b124311b86ed37f263b0a", func := "witting/wittinglaw22.ObserveTogether", spec := "observeTogether", unfollowed := true, recurses := true, plainKeys := false, apart := false, narrowed := true }
def ObserveTogetherUptoSaid : Prop := observeTogetherUptoRow.holds Try.pinned (OpenSpec.upto observeTogetherSpec)

/-- 'wittinglaw22.ObserveKnows', WHERE WHAT IT READS IS OF BULK AT MOST 1048576: true; the input reads as it did. -/
def observeKnowsUptoRow : OpenClaim := { program := "ytaghfmcaikjobaa", sum := "960100aee36313ffb6c977d700df958cb3a060ffa18b124311b86ed37f263b0a", func := "witting/wittinglaw22.ObserveKnows", spec := "observeKnows", unfollowed := true, recurses := true, plainKeys := false, apart := false, narrowed := true }
def ObserveKnowsUptoSaid : Prop := observeKnowsUptoRow.holds Try.pinned (OpenSpec.upto observeKnowsSpec)

/-- 'wittinglaw22.ObserveLearns', WHERE WHAT IT READS IS OF BULK AT MOST 1048576: true; the input reads as it did. -/
def observeLearnsUptoRow : OpenClaim := { program := "ytaghfmcaikjobaa", sum := "960100aee36313ffb6c977d700df958cb3a060ffa18b124311b86ed37f263b0a", func := "witting/wittinglaw22.ObserveLearns", spec := "observeLearns", unfollowed := true, recurses := true, plainKeys := false, apart := false, narrowed := true }
def ObserveLearnsUptoSaid : Prop := observeLearnsUptoRow.holds Try.pinned (OpenSpec.upto observeLearnsSpec)

end Rows
end Go.Proofs.Ytaghfmcaikjobaa
