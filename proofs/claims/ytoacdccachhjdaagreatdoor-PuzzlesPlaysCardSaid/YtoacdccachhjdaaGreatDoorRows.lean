/-
  NARROWER THAN 'FOR EVERY INPUT', by the rows' own cells (each row's printed sentence says how): PuzzlesModels: laid · PuzzlesPlays: laid · PuzzlesMuddy: laid · PuzzlesConsecutive: laid · PuzzlesSums: laid · PuzzlesFormulas: laid · PuzzlesSome: laid · PuzzlesFair: laid.
  DERIVED. THE GIVEN ROWS OF THIS SEAT. 8 by the template 'for every input the law returns true; each argument reads behind the call as it read before'; 0 by the template 'total and deterministic' (their statements: YtoacdccachhjdaaGreatDoorTotals.lean).
  GIVEN WITH THE SEED: the statements are not yours to turn. If you find one false, say at which input.
  Laid BY PROGRAM, IN A SANDBOX (cutbox-rows.mjs): the forced cells as the released guide's own fill.sh prints them over the translation 8f4ffdabfa9d1615… (all of the seat's roots in one cut). By AI agents, Wed Nov 11 2026. No macro, syntax, notation, axiom, sorry.
-/
import Derived.Test.YtoacdccachhjdaaGreatDoorChecked
import GoSem.Claim
import GoSem.ClaimJoined
import GoSem.ClaimMapViews
import Derived.JoinedTies
import Derived.KernelRfl
namespace Go.Proofs.YtoacdccachhjdaaGreatDoor
/- THE CELL 'sum', in the pinned program and in every row, IS THE sha256 OF THE DUMP (.gsa) THAT YtoacdccachhjdaaGreatDoorProg.lean LOADS. Nothing in Lean hashes anything: it is a label: what it is worth is what the hold of that sum in a sandbox is worth. -/
noncomputable def Tryz.pinned : Pinned := { name := "ytoacdccachhjdaagreatdoor", sum := "8f4ffdabfa9d1615bf72ed789527e1cdcbfdde366a7f13aa724b73a07870ec2f", checked := Tryz.checked }
namespace Rows
def none {H : Type} : Left H := { results := [], args := [] }

/- WHAT THE LISTED PACKAGE-LEVEL VARIABLES READ AS WHEN THE CALL BEGINS. Each datum BY PROGRAM (the guide's laid-datum.mjs) off the statement by which the dump's own 'gosem.cut.vars' lays the variable. In a bare row this is a premise. The card (YtoacdccachhjdaaGreatDoorCards.lean) ties it to the program's text. -/
def laid_math_bits_deBruijn64tab {H : Type} : DataW H := .agg [.lit (.int .u8 0), .lit (.int .u8 1), .lit (.int .u8 56), .lit (.int .u8 2), .lit (.int .u8 57), .lit (.int .u8 49), .lit (.int .u8 28), .lit (.int .u8 3), .lit (.int .u8 61), .lit (.int .u8 58), .lit (.int .u8 42), .lit (.int .u8 50), .lit (.int .u8 38), .lit (.int .u8 29), .lit (.int .u8 17), .lit (.int .u8 4), .lit (.int .u8 62), .lit (.int .u8 47), .lit (.int .u8 59), .lit (.int .u8 36), .lit (.int .u8 45), .lit (.int .u8 43), .lit (.int .u8 51), .lit (.int .u8 22), .lit (.int .u8 53), .lit (.int .u8 39), .lit (.int .u8 33), .lit (.int .u8 30), .lit (.int .u8 24), .lit (.int .u8 18), .lit (.int .u8 12), .lit (.int .u8 5), .lit (.int .u8 63), .lit (.int .u8 55), .lit (.int .u8 48), .lit (.int .u8 27), .lit (.int .u8 60), .lit (.int .u8 41), .lit (.int .u8 37), .lit (.int .u8 16), .lit (.int .u8 46), .lit (.int .u8 35), .lit (.int .u8 44), .lit (.int .u8 21), .lit (.int .u8 52), .lit (.int .u8 32), .lit (.int .u8 23), .lit (.int .u8 11), .lit (.int .u8 54), .lit (.int .u8 26), .lit (.int .u8 40), .lit (.int .u8 15), .lit (.int .u8 34), .lit (.int .u8 20), .lit (.int .u8 31), .lit (.int .u8 10), .lit (.int .u8 25), .lit (.int .u8 14), .lit (.int .u8 19), .lit (.int .u8 9), .lit (.int .u8 13), .lit (.int .u8 8), .lit (.int .u8 7), .lit (.int .u8 6)]

/-- 'wittinglaw32.PuzzlesModels': WHATEVER THE INPUT: true; the input reads as it did. -/
def puzzlesModelsSpec : ChangeSpec := { name := "puzzlesModels", fn := fun _ => fun
  | [d1, d2, d3] => { results := [.lit (.bool true)], args := [d1, d2, d3] }
  | _ => none }
def puzzlesModelsRow : OpenClaim := { program := "ytoacdccachhjdaagreatdoor", sum := "8f4ffdabfa9d1615bf72ed789527e1cdcbfdde366a7f13aa724b73a07870ec2f", func := "witting/wittinglaw32.PuzzlesModels", spec := "puzzlesModels", unfollowed := true, recurses := true, named := ["math/bits.deBruijn64tab"], plainKeys := false, apart := false, laid := [("math/bits.deBruijn64tab", laid_math_bits_deBruijn64tab)] }
def PuzzlesModelsSaid : Prop := puzzlesModelsRow.holds Tryz.pinned (OpenSpec.ofChange puzzlesModelsSpec)

/-- ITS FALSE NEIGHBOUR: 'it returns false'. Refute it at one input. -/
def puzzlesModelsWrong : ChangeSpec := { name := "puzzlesModels", fn := fun _ => fun
  | [d1, d2, d3] => { results := [.lit (.bool false)], args := [d1, d2, d3] }
  | _ => none }
def PuzzlesModelsWrongFalsely : Prop := puzzlesModelsRow.holds Tryz.pinned (OpenSpec.ofChange puzzlesModelsWrong)

/-- 'wittinglaw32.PuzzlesPlays': WHATEVER THE INPUT: true; the input reads as it did. -/
def puzzlesPlaysSpec : ChangeSpec := { name := "puzzlesPlays", fn := fun _ => fun
  | [d1, d2, d3] => { results := [.lit (.bool true)], args := [d1, d2, d3] }
  | _ => none }
def puzzlesPlaysRow : OpenClaim := { program := "ytoacdccachhjdaagreatdoor", sum := "8f4ffdabfa9d1615bf72ed789527e1cdcbfdde366a7f13aa724b73a07870ec2f", func := "witting/wittinglaw32.PuzzlesPlays", spec := "puzzlesPlays", unfollowed := true, recurses := true, named := ["math/bits.deBruijn64tab"], plainKeys := false, apart := false, laid := [("math/bits.deBruijn64tab", laid_math_bits_deBruijn64tab)] }
def PuzzlesPlaysSaid : Prop := puzzlesPlaysRow.holds Tryz.pinned (OpenSpec.ofChange puzzlesPlaysSpec)

/-- ITS FALSE NEIGHBOUR: 'it returns false'. Refute it at one input. -/
def puzzlesPlaysWrong : ChangeSpec := { name := "puzzlesPlays", fn := fun _ => fun
  | [d1, d2, d3] => { results := [.lit (.bool false)], args := [d1, d2, d3] }
  | _ => none }
def PuzzlesPlaysWrongFalsely : Prop := puzzlesPlaysRow.holds Tryz.pinned (OpenSpec.ofChange puzzlesPlaysWrong)

/-- 'wittinglaw32.PuzzlesMuddy': WHATEVER THE INPUT: true; the input reads as it did. -/
def puzzlesMuddySpec : ChangeSpec := { name := "puzzlesMuddy", fn := fun _ => fun
  | [d1, d2] => { results := [.lit (.bool true)], args := [d1, d2] }
  | _ => none }
def puzzlesMuddyRow : OpenClaim := { program := "ytoacdccachhjdaagreatdoor", sum := "8f4ffdabfa9d1615bf72ed789527e1cdcbfdde366a7f13aa724b73a07870ec2f", func := "witting/wittinglaw32.PuzzlesMuddy", spec := "puzzlesMuddy", unfollowed := true, recurses := true, named := ["math/bits.deBruijn64tab"], plainKeys := false, apart := false, laid := [("math/bits.deBruijn64tab", laid_math_bits_deBruijn64tab)] }
def PuzzlesMuddySaid : Prop := puzzlesMuddyRow.holds Tryz.pinned (OpenSpec.ofChange puzzlesMuddySpec)

/-- ITS FALSE NEIGHBOUR: 'it returns false'. Refute it at one input. -/
def puzzlesMuddyWrong : ChangeSpec := { name := "puzzlesMuddy", fn := fun _ => fun
  | [d1, d2] => { results := [.lit (.bool false)], args := [d1, d2] }
  | _ => none }
def PuzzlesMuddyWrongFalsely : Prop := puzzlesMuddyRow.holds Tryz.pinned (OpenSpec.ofChange puzzlesMuddyWrong)

/-- 'wittinglaw32.PuzzlesConsecutive': WHATEVER THE INPUT: true; the input reads as it did. -/
def puzzlesConsecutiveSpec : ChangeSpec := { name := "puzzlesConsecutive", fn := fun _ => fun
  | [d1, d2] => { results := [.lit (.bool true)], args := [d1, d2] }
  | _ => none }
def puzzlesConsecutiveRow : OpenClaim := { program := "ytoacdccachhjdaagreatdoor", sum := "8f4ffdabfa9d1615bf72ed789527e1cdcbfdde366a7f13aa724b73a07870ec2f", func := "witting/wittinglaw32.PuzzlesConsecutive", spec := "puzzlesConsecutive", unfollowed := true, recurses := true, named := ["math/bits.deBruijn64tab"], plainKeys := false, apart := false, laid := [("math/bits.deBruijn64tab", laid_math_bits_deBruijn64tab)] }
def PuzzlesConsecutiveSaid : Prop := puzzlesConsecutiveRow.holds Tryz.pinned (OpenSpec.ofChange puzzlesConsecutiveSpec)

/-- ITS FALSE NEIGHBOUR: 'it returns false'. Refute it at one input. -/
def puzzlesConsecutiveWrong : ChangeSpec := { name := "puzzlesConsecutive", fn := fun _ => fun
  | [d1, d2] => { results := [.lit (.bool false)], args := [d1, d2] }
  | _ => none }
def PuzzlesConsecutiveWrongFalsely : Prop := puzzlesConsecutiveRow.holds Tryz.pinned (OpenSpec.ofChange puzzlesConsecutiveWrong)

/-- 'wittinglaw32.PuzzlesSums': WHATEVER THE INPUT: true; the input reads as it did. -/
def puzzlesSumsSpec : ChangeSpec := { name := "puzzlesSums", fn := fun _ => fun
  | [d1, d2, d3] => { results := [.lit (.bool true)], args := [d1, d2, d3] }
  | _ => none }
def puzzlesSumsRow : OpenClaim := { program := "ytoacdccachhjdaagreatdoor", sum := "8f4ffdabfa9d1615bf72ed789527e1cdcbfdde366a7f13aa724b73a07870ec2f", func := "witting/wittinglaw32.PuzzlesSums", spec := "puzzlesSums", unfollowed := true, recurses := true, named := ["math/bits.deBruijn64tab"], plainKeys := false, apart := false, laid := [("math/bits.deBruijn64tab", laid_math_bits_deBruijn64tab)] }
def PuzzlesSumsSaid : Prop := puzzlesSumsRow.holds Tryz.pinned (OpenSpec.ofChange puzzlesSumsSpec)

/-- ITS FALSE NEIGHBOUR: 'it returns false'. Refute it at one input. -/
def puzzlesSumsWrong : ChangeSpec := { name := "puzzlesSums", fn := fun _ => fun
  | [d1, d2, d3] => { results := [.lit (.bool false)], args := [d1, d2, d3] }
  | _ => none }
def PuzzlesSumsWrongFalsely : Prop := puzzlesSumsRow.holds Tryz.pinned (OpenSpec.ofChange puzzlesSumsWrong)

/-- 'wittinglaw32.PuzzlesFormulas': WHATEVER THE INPUT: true; the input reads as it did. -/
def puzzlesFormulasSpec : ChangeSpec := { name := "puzzlesFormulas", fn := fun _ => fun
  | [d1, d2, d3] => { results := [.lit (.bool true)], args := [d1, d2, d3] }
  | _ => none }
def puzzlesFormulasRow : OpenClaim := { program := "ytoacdccachhjdaagreatdoor", sum := "8f4ffdabfa9d1615bf72ed789527e1cdcbfdde366a7f13aa724b73a07870ec2f", func := "witting/wittinglaw32.PuzzlesFormulas", spec := "puzzlesFormulas", unfollowed := true, recurses := true, named := ["math/bits.deBruijn64tab"], plainKeys := false, apart := false, laid := [("math/bits.deBruijn64tab", laid_math_bits_deBruijn64tab)] }
def PuzzlesFormulasSaid : Prop := puzzlesFormulasRow.holds Tryz.pinned (OpenSpec.ofChange puzzlesFormulasSpec)

/-- ITS FALSE NEIGHBOUR: 'it returns false'. Refute it at one input. -/
def puzzlesFormulasWrong : ChangeSpec := { name := "puzzlesFormulas", fn := fun _ => fun
  | [d1, d2, d3] => { results := [.lit (.bool false)], args := [d1, d2, d3] }
  | _ => none }
def PuzzlesFormulasWrongFalsely : Prop := puzzlesFormulasRow.holds Tryz.pinned (OpenSpec.ofChange puzzlesFormulasWrong)

/-- 'wittinglaw32.PuzzlesSome': WHATEVER THE INPUT: true; the input reads as it did. -/
def puzzlesSomeSpec : ChangeSpec := { name := "puzzlesSome", fn := fun _ => fun
  | [d1, d2] => { results := [.lit (.bool true)], args := [d1, d2] }
  | _ => none }
def puzzlesSomeRow : OpenClaim := { program := "ytoacdccachhjdaagreatdoor", sum := "8f4ffdabfa9d1615bf72ed789527e1cdcbfdde366a7f13aa724b73a07870ec2f", func := "witting/wittinglaw32.PuzzlesSome", spec := "puzzlesSome", unfollowed := true, recurses := true, named := ["math/bits.deBruijn64tab"], plainKeys := false, apart := false, laid := [("math/bits.deBruijn64tab", laid_math_bits_deBruijn64tab)] }
def PuzzlesSomeSaid : Prop := puzzlesSomeRow.holds Tryz.pinned (OpenSpec.ofChange puzzlesSomeSpec)

/-- ITS FALSE NEIGHBOUR: 'it returns false'. Refute it at one input. -/
def puzzlesSomeWrong : ChangeSpec := { name := "puzzlesSome", fn := fun _ => fun
  | [d1, d2] => { results := [.lit (.bool false)], args := [d1, d2] }
  | _ => none }
def PuzzlesSomeWrongFalsely : Prop := puzzlesSomeRow.holds Tryz.pinned (OpenSpec.ofChange puzzlesSomeWrong)

/-- 'wittinglaw32.PuzzlesFair': WHATEVER THE INPUT: true; the input reads as it did. -/
def puzzlesFairSpec : ChangeSpec := { name := "puzzlesFair", fn := fun _ => fun
  | [d1, d2] => { results := [.lit (.bool true)], args := [d1, d2] }
  | _ => none }
def puzzlesFairRow : OpenClaim := { program := "ytoacdccachhjdaagreatdoor", sum := "8f4ffdabfa9d1615bf72ed789527e1cdcbfdde366a7f13aa724b73a07870ec2f", func := "witting/wittinglaw32.PuzzlesFair", spec := "puzzlesFair", unfollowed := true, recurses := true, named := ["math/bits.deBruijn64tab"], plainKeys := false, apart := false, laid := [("math/bits.deBruijn64tab", laid_math_bits_deBruijn64tab)] }
def PuzzlesFairSaid : Prop := puzzlesFairRow.holds Tryz.pinned (OpenSpec.ofChange puzzlesFairSpec)

/-- ITS FALSE NEIGHBOUR: 'it returns false'. Refute it at one input. -/
def puzzlesFairWrong : ChangeSpec := { name := "puzzlesFair", fn := fun _ => fun
  | [d1, d2] => { results := [.lit (.bool false)], args := [d1, d2] }
  | _ => none }
def PuzzlesFairWrongFalsely : Prop := puzzlesFairRow.holds Tryz.pinned (OpenSpec.ofChange puzzlesFairWrong)

/- THE SECOND FORM. 'bulk': how many values and letters a reading holds, each counted each time it is reached (what is shared counts as often as it is met; a slice's spare places count too). A statement '..UptoSaid' is the law's where the arguments, and the package variables that the reading takes, are together of bulk at most 1048576: NARROWER than '..Said'. Prove '..Said' where nothing that the law and all that it calls make is longer than what came in: it says more and counts as full. Else prove '..UptoSaid'. A law counts once. -/
mutual
def uptoBulk {H : Type} : DataW H → Nat
  | .lit (.string bytes) => bytes.length + 1
  | .lit _ => 1
  | .nil => 1
  | .ptr d => uptoBulk d + 1
  | .slice elems spare => uptoBulkAll elems + uptoBulkAll spare + 1
  | .agg parts => uptoBulkAll parts + 1
  | .iface _ d => uptoBulk d + 1
  | .map entries => uptoBulkEntries entries + 1
  | .held _ => 1
def uptoBulkAll {H : Type} : List (DataW H) → Nat
  | [] => 0
  | d :: r => uptoBulk d + uptoBulkAll r
def uptoBulkEntries {H : Type} : List (Lit × DataW H) → Nat
  | [] => 0
  | x :: r => uptoBulkEntry x + uptoBulkEntries r
def uptoBulkEntry {H : Type} : Lit × DataW H → Nat
  | (.string bytes, d) => bytes.length + uptoBulk d + 1
  | (_, d) => uptoBulk d + 1
 end
def uptoSmall : (H : Type) → List (DataW H) → Bool := fun _ ds => decide (uptoBulkAll ds ≤ 1048576)
def OpenSpec.upto (s : _root_.Go.ChangeSpec) : _root_.Go.OpenSpec := { _root_.Go.OpenSpec.ofChange s with cond := some uptoSmall }

/-- 'wittinglaw32.PuzzlesModels', WHERE WHAT IT READS IS OF BULK AT MOST 1048576: true; the input reads as it did. -/
def puzzlesModelsUptoRow : OpenClaim := { program := "ytoacdccachhjdaagreatdoor", sum := "8f4ffdabfa9d1615bf72ed789527e1cdcbfdde366a7f13aa724b73a07870ec2f", func := "witting/wittinglaw32.PuzzlesModels", spec := "puzzlesModels", unfollowed := true, recurses := true, named := ["math/bits.deBruijn64tab"], plainKeys := false, apart := false, laid := [("math/bits.deBruijn64tab", laid_math_bits_deBruijn64tab)], narrowed := true }
def PuzzlesModelsUptoSaid : Prop := puzzlesModelsUptoRow.holds Tryz.pinned (OpenSpec.upto puzzlesModelsSpec)

/-- 'wittinglaw32.PuzzlesPlays', WHERE WHAT IT READS IS OF BULK AT MOST 1048576: true; the input reads as it did. -/
def puzzlesPlaysUptoRow : OpenClaim := { program := "ytoacdccachhjdaagreatdoor", sum := "8f4ffdabfa9d1615bf72ed789527e1cdcbfdde366a7f13aa724b73a07870ec2f", func := "witting/wittinglaw32.PuzzlesPlays", spec := "puzzlesPlays", unfollowed := true, recurses := true, named := ["math/bits.deBruijn64tab"], plainKeys := false, apart := false, laid := [("math/bits.deBruijn64tab", laid_math_bits_deBruijn64tab)], narrowed := true }
def PuzzlesPlaysUptoSaid : Prop := puzzlesPlaysUptoRow.holds Tryz.pinned (OpenSpec.upto puzzlesPlaysSpec)

/-- 'wittinglaw32.PuzzlesMuddy', WHERE WHAT IT READS IS OF BULK AT MOST 1048576: true; the input reads as it did. -/
def puzzlesMuddyUptoRow : OpenClaim := { program := "ytoacdccachhjdaagreatdoor", sum := "8f4ffdabfa9d1615bf72ed789527e1cdcbfdde366a7f13aa724b73a07870ec2f", func := "witting/wittinglaw32.PuzzlesMuddy", spec := "puzzlesMuddy", unfollowed := true, recurses := true, named := ["math/bits.deBruijn64tab"], plainKeys := false, apart := false, laid := [("math/bits.deBruijn64tab", laid_math_bits_deBruijn64tab)], narrowed := true }
def PuzzlesMuddyUptoSaid : Prop := puzzlesMuddyUptoRow.holds Tryz.pinned (OpenSpec.upto puzzlesMuddySpec)

/-- 'wittinglaw32.PuzzlesConsecutive', WHERE WHAT IT READS IS OF BULK AT MOST 1048576: true; the input reads as it did. -/
def puzzlesConsecutiveUptoRow : OpenClaim := { program := "ytoacdccachhjdaagreatdoor", sum := "8f4ffdabfa9d1615bf72ed789527e1cdcbfdde366a7f13aa724b73a07870ec2f", func := "witting/wittinglaw32.PuzzlesConsecutive", spec := "puzzlesConsecutive", unfollowed := true, recurses := true, named := ["math/bits.deBruijn64tab"], plainKeys := false, apart := false, laid := [("math/bits.deBruijn64tab", laid_math_bits_deBruijn64tab)], narrowed := true }
def PuzzlesConsecutiveUptoSaid : Prop := puzzlesConsecutiveUptoRow.holds Tryz.pinned (OpenSpec.upto puzzlesConsecutiveSpec)

/-- 'wittinglaw32.PuzzlesSums', WHERE WHAT IT READS IS OF BULK AT MOST 1048576: true; the input reads as it did. -/
def puzzlesSumsUptoRow : OpenClaim := { program := "ytoacdccachhjdaagreatdoor", sum := "8f4ffdabfa9d1615bf72ed789527e1cdcbfdde366a7f13aa724b73a07870ec2f", func := "witting/wittinglaw32.PuzzlesSums", spec := "puzzlesSums", unfollowed := true, recurses := true, named := ["math/bits.deBruijn64tab"], plainKeys := false, apart := false, laid := [("math/bits.deBruijn64tab", laid_math_bits_deBruijn64tab)], narrowed := true }
def PuzzlesSumsUptoSaid : Prop := puzzlesSumsUptoRow.holds Tryz.pinned (OpenSpec.upto puzzlesSumsSpec)

/-- 'wittinglaw32.PuzzlesFormulas', WHERE WHAT IT READS IS OF BULK AT MOST 1048576: true; the input reads as it did. -/
def puzzlesFormulasUptoRow : OpenClaim := { program := "ytoacdccachhjdaagreatdoor", sum := "8f4ffdabfa9d1615bf72ed789527e1cdcbfdde366a7f13aa724b73a07870ec2f", func := "witting/wittinglaw32.PuzzlesFormulas", spec := "puzzlesFormulas", unfollowed := true, recurses := true, named := ["math/bits.deBruijn64tab"], plainKeys := false, apart := false, laid := [("math/bits.deBruijn64tab", laid_math_bits_deBruijn64tab)], narrowed := true }
def PuzzlesFormulasUptoSaid : Prop := puzzlesFormulasUptoRow.holds Tryz.pinned (OpenSpec.upto puzzlesFormulasSpec)

/-- 'wittinglaw32.PuzzlesSome', WHERE WHAT IT READS IS OF BULK AT MOST 1048576: true; the input reads as it did. -/
def puzzlesSomeUptoRow : OpenClaim := { program := "ytoacdccachhjdaagreatdoor", sum := "8f4ffdabfa9d1615bf72ed789527e1cdcbfdde366a7f13aa724b73a07870ec2f", func := "witting/wittinglaw32.PuzzlesSome", spec := "puzzlesSome", unfollowed := true, recurses := true, named := ["math/bits.deBruijn64tab"], plainKeys := false, apart := false, laid := [("math/bits.deBruijn64tab", laid_math_bits_deBruijn64tab)], narrowed := true }
def PuzzlesSomeUptoSaid : Prop := puzzlesSomeUptoRow.holds Tryz.pinned (OpenSpec.upto puzzlesSomeSpec)

/-- 'wittinglaw32.PuzzlesFair', WHERE WHAT IT READS IS OF BULK AT MOST 1048576: true; the input reads as it did. -/
def puzzlesFairUptoRow : OpenClaim := { program := "ytoacdccachhjdaagreatdoor", sum := "8f4ffdabfa9d1615bf72ed789527e1cdcbfdde366a7f13aa724b73a07870ec2f", func := "witting/wittinglaw32.PuzzlesFair", spec := "puzzlesFair", unfollowed := true, recurses := true, named := ["math/bits.deBruijn64tab"], plainKeys := false, apart := false, laid := [("math/bits.deBruijn64tab", laid_math_bits_deBruijn64tab)], narrowed := true }
def PuzzlesFairUptoSaid : Prop := puzzlesFairUptoRow.holds Tryz.pinned (OpenSpec.upto puzzlesFairSpec)

end Rows
end Go.Proofs.YtoacdccachhjdaaGreatDoor
