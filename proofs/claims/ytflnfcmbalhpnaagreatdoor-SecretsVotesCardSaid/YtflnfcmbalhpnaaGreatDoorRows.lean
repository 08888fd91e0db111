/-
  NARROWER THAN 'FOR EVERY INPUT', by the rows' own cells (each row's printed sentence says how): SecretsDining: laid · SecretsSpoken: laid · SecretsDecides: laid · SecretsAnonymous: laid · SecretsCounted: laid · SecretsTally: laid · SecretsParity: laid · SecretsVotes: laid · TopCoalitionsGrow: laid.
  DERIVED. THE GIVEN ROWS OF THIS SEAT. 9 by the template 'for every input the law returns true; each argument reads behind the call as it read before'; 0 by the template 'total and deterministic' (their statements: YtflnfcmbalhpnaaGreatDoorTotals.lean).
  GIVEN WITH THE SEED: the statements are not yours to turn. If you find one false, say at which input.
  Laid BY PROGRAM, IN A SANDBOX (cutbox-rows.mjs): the forced cells as the released guide's own fill.sh prints them over the translation cc7c46b205a12ac1… (all of the seat's roots in one cut). By AI agents, Wed Nov 11 2026. No macro, syntax, notation, axiom, sorry.
-/
import Derived.Test.YtflnfcmbalhpnaaGreatDoorChecked
import GoSem.Claim
import GoSem.ClaimJoined
import GoSem.ClaimMapViews
import Derived.JoinedTies
import Derived.KernelRfl
namespace Go.Proofs.YtflnfcmbalhpnaaGreatDoor
/- THE CELL 'sum', in the pinned program and in every row, IS THE sha256 OF THE DUMP (.gsa) THAT YtflnfcmbalhpnaaGreatDoorProg.lean LOADS. Nothing in Lean hashes anything: it is a label: what it is worth is what the hold of that sum in a sandbox is worth. -/
noncomputable def Tryz.pinned : Pinned := { name := "ytflnfcmbalhpnaagreatdoor", sum := "cc7c46b205a12ac1ac75e8bd5a59110a98ac5d31c44bac2538523105314ec304", checked := Tryz.checked }
namespace Rows
def none {H : Type} : Left H := { results := [], args := [] }

/- WHAT THE LISTED PACKAGE-LEVEL VARIABLES READ AS WHEN THE CALL BEGINS. Each datum BY PROGRAM (the guide's laid-datum.mjs) off the statement by which the dump's own 'gosem.cut.vars' lays the variable. In a bare row this is a premise. The card (YtflnfcmbalhpnaaGreatDoorCards.lean) ties it to the program's text. -/
def laid_math_bits_deBruijn64tab {H : Type} : DataW H := .agg [.lit (.int .u8 0), .lit (.int .u8 1), .lit (.int .u8 56), .lit (.int .u8 2), .lit (.int .u8 57), .lit (.int .u8 49), .lit (.int .u8 28), .lit (.int .u8 3), .lit (.int .u8 61), .lit (.int .u8 58), .lit (.int .u8 42), .lit (.int .u8 50), .lit (.int .u8 38), .lit (.int .u8 29), .lit (.int .u8 17), .lit (.int .u8 4), .lit (.int .u8 62), .lit (.int .u8 47), .lit (.int .u8 59), .lit (.int .u8 36), .lit (.int .u8 45), .lit (.int .u8 43), .lit (.int .u8 51), .lit (.int .u8 22), .lit (.int .u8 53), .lit (.int .u8 39), .lit (.int .u8 33), .lit (.int .u8 30), .lit (.int .u8 24), .lit (.int .u8 18), .lit (.int .u8 12), .lit (.int .u8 5), .lit (.int .u8 63), .lit (.int .u8 55), .lit (.int .u8 48), .lit (.int .u8 27), .lit (.int .u8 60), .lit (.int .u8 41), .lit (.int .u8 37), .lit (.int .u8 16), .lit (.int .u8 46), .lit (.int .u8 35), .lit (.int .u8 44), .lit (.int .u8 21), .lit (.int .u8 52), .lit (.int .u8 32), .lit (.int .u8 23), .lit (.int .u8 11), .lit (.int .u8 54), .lit (.int .u8 26), .lit (.int .u8 40), .lit (.int .u8 15), .lit (.int .u8 34), .lit (.int .u8 20), .lit (.int .u8 31), .lit (.int .u8 10), .lit (.int .u8 25), .lit (.int .u8 14), .lit (.int .u8 19), .lit (.int .u8 9), .lit (.int .u8 13), .lit (.int .u8 8), .lit (.int .u8 7), .lit (.int .u8 6)]

/-- 'wittinglaw44.SecretsDining': WHATEVER THE INPUT: true; the input reads as it did. -/
def secretsDiningSpec : ChangeSpec := { name := "secretsDining", fn := fun _ => fun
  | [d1, d2] => { results := [.lit (.bool true)], args := [d1, d2] }
  | _ => none }
def secretsDiningRow : OpenClaim := { program := "ytflnfcmbalhpnaagreatdoor", sum := "cc7c46b205a12ac1ac75e8bd5a59110a98ac5d31c44bac2538523105314ec304", func := "witting/wittinglaw44.SecretsDining", spec := "secretsDining", unfollowed := true, recurses := true, named := ["math/bits.deBruijn64tab"], plainKeys := false, apart := false, laid := [("math/bits.deBruijn64tab", laid_math_bits_deBruijn64tab)] }
def SecretsDiningSaid : Prop := secretsDiningRow.holds Tryz.pinned (OpenSpec.ofChange secretsDiningSpec)

/-- ITS FALSE NEIGHBOUR: 'it returns false'. Refute it at one input. -/
def secretsDiningWrong : ChangeSpec := { name := "secretsDining", fn := fun _ => fun
  | [d1, d2] => { results := [.lit (.bool false)], args := [d1, d2] }
  | _ => none }
def SecretsDiningWrongFalsely : Prop := secretsDiningRow.holds Tryz.pinned (OpenSpec.ofChange secretsDiningWrong)

/-- 'wittinglaw44.SecretsSpoken': WHATEVER THE INPUT: true; the input reads as it did. -/
def secretsSpokenSpec : ChangeSpec := { name := "secretsSpoken", fn := fun _ => fun
  | [d1, d2, d3] => { results := [.lit (.bool true)], args := [d1, d2, d3] }
  | _ => none }
def secretsSpokenRow : OpenClaim := { program := "ytflnfcmbalhpnaagreatdoor", sum := "cc7c46b205a12ac1ac75e8bd5a59110a98ac5d31c44bac2538523105314ec304", func := "witting/wittinglaw44.SecretsSpoken", spec := "secretsSpoken", unfollowed := true, recurses := true, named := ["math/bits.deBruijn64tab"], plainKeys := false, apart := false, laid := [("math/bits.deBruijn64tab", laid_math_bits_deBruijn64tab)] }
def SecretsSpokenSaid : Prop := secretsSpokenRow.holds Tryz.pinned (OpenSpec.ofChange secretsSpokenSpec)

/-- ITS FALSE NEIGHBOUR: 'it returns false'. Refute it at one input. -/
def secretsSpokenWrong : ChangeSpec := { name := "secretsSpoken", fn := fun _ => fun
  | [d1, d2, d3] => { results := [.lit (.bool false)], args := [d1, d2, d3] }
  | _ => none }
def SecretsSpokenWrongFalsely : Prop := secretsSpokenRow.holds Tryz.pinned (OpenSpec.ofChange secretsSpokenWrong)

/-- 'wittinglaw44.SecretsDecides': WHATEVER THE INPUT: true; the input reads as it did. -/
def secretsDecidesSpec : ChangeSpec := { name := "secretsDecides", fn := fun _ => fun
  | [d1, d2, d3] => { results := [.lit (.bool true)], args := [d1, d2, d3] }
  | _ => none }
def secretsDecidesRow : OpenClaim := { program := "ytflnfcmbalhpnaagreatdoor", sum := "cc7c46b205a12ac1ac75e8bd5a59110a98ac5d31c44bac2538523105314ec304", func := "witting/wittinglaw44.SecretsDecides", spec := "secretsDecides", unfollowed := true, recurses := true, named := ["math/bits.deBruijn64tab"], plainKeys := false, apart := false, laid := [("math/bits.deBruijn64tab", laid_math_bits_deBruijn64tab)] }
def SecretsDecidesSaid : Prop := secretsDecidesRow.holds Tryz.pinned (OpenSpec.ofChange secretsDecidesSpec)

/-- ITS FALSE NEIGHBOUR: 'it returns false'. Refute it at one input. -/
def secretsDecidesWrong : ChangeSpec := { name := "secretsDecides", fn := fun _ => fun
  | [d1, d2, d3] => { results := [.lit (.bool false)], args := [d1, d2, d3] }
  | _ => none }
def SecretsDecidesWrongFalsely : Prop := secretsDecidesRow.holds Tryz.pinned (OpenSpec.ofChange secretsDecidesWrong)

/-- 'wittinglaw44.SecretsAnonymous': WHATEVER THE INPUT: true; the input reads as it did. -/
def secretsAnonymousSpec : ChangeSpec := { name := "secretsAnonymous", fn := fun _ => fun
  | [d1, d2, d3] => { results := [.lit (.bool true)], args := [d1, d2, d3] }
  | _ => none }
def secretsAnonymousRow : OpenClaim := { program := "ytflnfcmbalhpnaagreatdoor", sum := "cc7c46b205a12ac1ac75e8bd5a59110a98ac5d31c44bac2538523105314ec304", func := "witting/wittinglaw44.SecretsAnonymous", spec := "secretsAnonymous", unfollowed := true, recurses := true, named := ["math/bits.deBruijn64tab"], plainKeys := false, apart := false, laid := [("math/bits.deBruijn64tab", laid_math_bits_deBruijn64tab)] }
def SecretsAnonymousSaid : Prop := secretsAnonymousRow.holds Tryz.pinned (OpenSpec.ofChange secretsAnonymousSpec)

/-- ITS FALSE NEIGHBOUR: 'it returns false'. Refute it at one input. -/
def secretsAnonymousWrong : ChangeSpec := { name := "secretsAnonymous", fn := fun _ => fun
  | [d1, d2, d3] => { results := [.lit (.bool false)], args := [d1, d2, d3] }
  | _ => none }
def SecretsAnonymousWrongFalsely : Prop := secretsAnonymousRow.holds Tryz.pinned (OpenSpec.ofChange secretsAnonymousWrong)

/-- 'wittinglaw44.SecretsCounted': WHATEVER THE INPUT: true; the input reads as it did. -/
def secretsCountedSpec : ChangeSpec := { name := "secretsCounted", fn := fun _ => fun
  | [d1, d2, d3] => { results := [.lit (.bool true)], args := [d1, d2, d3] }
  | _ => none }
def secretsCountedRow : OpenClaim := { program := "ytflnfcmbalhpnaagreatdoor", sum := "cc7c46b205a12ac1ac75e8bd5a59110a98ac5d31c44bac2538523105314ec304", func := "witting/wittinglaw44.SecretsCounted", spec := "secretsCounted", unfollowed := true, recurses := true, named := ["math/bits.deBruijn64tab"], plainKeys := false, apart := false, laid := [("math/bits.deBruijn64tab", laid_math_bits_deBruijn64tab)] }
def SecretsCountedSaid : Prop := secretsCountedRow.holds Tryz.pinned (OpenSpec.ofChange secretsCountedSpec)

/-- ITS FALSE NEIGHBOUR: 'it returns false'. Refute it at one input. -/
def secretsCountedWrong : ChangeSpec := { name := "secretsCounted", fn := fun _ => fun
  | [d1, d2, d3] => { results := [.lit (.bool false)], args := [d1, d2, d3] }
  | _ => none }
def SecretsCountedWrongFalsely : Prop := secretsCountedRow.holds Tryz.pinned (OpenSpec.ofChange secretsCountedWrong)

/-- 'wittinglaw44.SecretsTally': WHATEVER THE INPUT: true; the input reads as it did. -/
def secretsTallySpec : ChangeSpec := { name := "secretsTally", fn := fun _ => fun
  | [d1, d2, d3] => { results := [.lit (.bool true)], args := [d1, d2, d3] }
  | _ => none }
def secretsTallyRow : OpenClaim := { program := "ytflnfcmbalhpnaagreatdoor", sum := "cc7c46b205a12ac1ac75e8bd5a59110a98ac5d31c44bac2538523105314ec304", func := "witting/wittinglaw44.SecretsTally", spec := "secretsTally", unfollowed := true, recurses := true, named := ["math/bits.deBruijn64tab"], plainKeys := false, apart := false, laid := [("math/bits.deBruijn64tab", laid_math_bits_deBruijn64tab)] }
def SecretsTallySaid : Prop := secretsTallyRow.holds Tryz.pinned (OpenSpec.ofChange secretsTallySpec)

/-- ITS FALSE NEIGHBOUR: 'it returns false'. Refute it at one input. -/
def secretsTallyWrong : ChangeSpec := { name := "secretsTally", fn := fun _ => fun
  | [d1, d2, d3] => { results := [.lit (.bool false)], args := [d1, d2, d3] }
  | _ => none }
def SecretsTallyWrongFalsely : Prop := secretsTallyRow.holds Tryz.pinned (OpenSpec.ofChange secretsTallyWrong)

/-- 'wittinglaw44.SecretsParity': WHATEVER THE INPUT: true; the input reads as it did. -/
def secretsParitySpec : ChangeSpec := { name := "secretsParity", fn := fun _ => fun
  | [d1, d2, d3] => { results := [.lit (.bool true)], args := [d1, d2, d3] }
  | _ => none }
def secretsParityRow : OpenClaim := { program := "ytflnfcmbalhpnaagreatdoor", sum := "cc7c46b205a12ac1ac75e8bd5a59110a98ac5d31c44bac2538523105314ec304", func := "witting/wittinglaw44.SecretsParity", spec := "secretsParity", unfollowed := true, recurses := true, named := ["math/bits.deBruijn64tab"], plainKeys := false, apart := false, laid := [("math/bits.deBruijn64tab", laid_math_bits_deBruijn64tab)] }
def SecretsParitySaid : Prop := secretsParityRow.holds Tryz.pinned (OpenSpec.ofChange secretsParitySpec)

/-- ITS FALSE NEIGHBOUR: 'it returns false'. Refute it at one input. -/
def secretsParityWrong : ChangeSpec := { name := "secretsParity", fn := fun _ => fun
  | [d1, d2, d3] => { results := [.lit (.bool false)], args := [d1, d2, d3] }
  | _ => none }
def SecretsParityWrongFalsely : Prop := secretsParityRow.holds Tryz.pinned (OpenSpec.ofChange secretsParityWrong)

/-- 'wittinglaw44.SecretsVotes': WHATEVER THE INPUT: true; the input reads as it did. -/
def secretsVotesSpec : ChangeSpec := { name := "secretsVotes", fn := fun _ => fun
  | [d1, d2] => { results := [.lit (.bool true)], args := [d1, d2] }
  | _ => none }
def secretsVotesRow : OpenClaim := { program := "ytflnfcmbalhpnaagreatdoor", sum := "cc7c46b205a12ac1ac75e8bd5a59110a98ac5d31c44bac2538523105314ec304", func := "witting/wittinglaw44.SecretsVotes", spec := "secretsVotes", unfollowed := true, recurses := true, named := ["math/bits.deBruijn64tab"], plainKeys := false, apart := false, laid := [("math/bits.deBruijn64tab", laid_math_bits_deBruijn64tab)] }
def SecretsVotesSaid : Prop := secretsVotesRow.holds Tryz.pinned (OpenSpec.ofChange secretsVotesSpec)

/-- ITS FALSE NEIGHBOUR: 'it returns false'. Refute it at one input. -/
def secretsVotesWrong : ChangeSpec := { name := "secretsVotes", fn := fun _ => fun
  | [d1, d2] => { results := [.lit (.bool false)], args := [d1, d2] }
  | _ => none }
def SecretsVotesWrongFalsely : Prop := secretsVotesRow.holds Tryz.pinned (OpenSpec.ofChange secretsVotesWrong)

/-- 'wittingtop.TopCoalitionsGrow': WHATEVER THE INPUT: true; the input reads as it did. -/
def topCoalitionsGrowSpec : ChangeSpec := { name := "topCoalitionsGrow", fn := fun _ => fun
  | [d1, d2, d3] => { results := [.lit (.bool true)], args := [d1, d2, d3] }
  | _ => none }
def topCoalitionsGrowRow : OpenClaim := { program := "ytflnfcmbalhpnaagreatdoor", sum := "cc7c46b205a12ac1ac75e8bd5a59110a98ac5d31c44bac2538523105314ec304", func := "witting/wittingtop.TopCoalitionsGrow", spec := "topCoalitionsGrow", unfollowed := true, recurses := true, named := ["math/bits.deBruijn64tab"], plainKeys := false, apart := false, laid := [("math/bits.deBruijn64tab", laid_math_bits_deBruijn64tab)] }
def TopCoalitionsGrowSaid : Prop := topCoalitionsGrowRow.holds Tryz.pinned (OpenSpec.ofChange topCoalitionsGrowSpec)

/-- ITS FALSE NEIGHBOUR: 'it returns false'. Refute it at one input. -/
def topCoalitionsGrowWrong : ChangeSpec := { name := "topCoalitionsGrow", fn := fun _ => fun
  | [d1, d2, d3] => { results := [.lit (.bool false)], args := [d1, d2, d3] }
  | _ => none }
def TopCoalitionsGrowWrongFalsely : Prop := topCoalitionsGrowRow.holds Tryz.pinned (OpenSpec.ofChange topCoalitionsGrowWrong)

/- THE SECOND FORM. 'bulk': how many values and letters a reading holds, each counted each time it is reached (what is shared counts as often as it is met; a slice's spare places count too). A statement '..UptoSaid' is the law's where the arguments, and the package variables that the reading takes, are together of bulk at most 1048576: NARROWER than '..Said'. Prove '..Said' where nothing that the law and all that it calls make is longer than what came in: it says more and counts as full. Else prove '..UptoSaid'. A law counts once. -/
mutual
def uptoBulk {H : Type} : DataW H → Nat
  | .lit (.string bytes) => bytes.length + 1
  | .lit _ => 1
  | .nil => 1
  | .ptr d => uptoBulk d + 1
  | .slice elems spare => uptoBulkAll elems + uptoBulkAll spare + 1
  | .agg parts => uptoBulkAll parts + 1
  | .iface _ d => uptoBulk d + 1
  | .map entries => uptoBulkEntries entries + 1
  | .held _ => 1
def uptoBulkAll {H : Type} : List (DataW H) → Nat
  | [] => 0
  | d :: r => uptoBulk d + uptoBulkAll r
def uptoBulkEntries {H : Type} : List (Lit × DataW H) → Nat
  | [] => 0
  | x :: r => uptoBulkEntry x + uptoBulkEntries r
def uptoBulkEntry {H : Type} : Lit × DataW H → Nat
  | (.string bytes, d) => bytes.length + uptoBulk d + 1
  | (_, d) => uptoBulk d + 1
 end
def uptoSmall : (H : Type) → List (DataW H) → Bool := fun _ ds => decide (uptoBulkAll ds ≤ 1048576)
def OpenSpec.upto (s : _root_.Go.ChangeSpec) : _root_.Go.OpenSpec := { _root_.Go.OpenSpec.ofChange s with cond := some uptoSmall }

/-- 'wittinglaw44.SecretsDining', WHERE WHAT IT READS IS OF BULK AT MOST 1048576: true; the input reads as it did. -/
def secretsDiningUptoRow : OpenClaim := { program := "ytflnfcmbalhpnaagreatdoor", sum := "cc7c46b205a12ac1ac75e8bd5a59110a98ac5d31c44bac2538523105314ec304", func := "witting/wittinglaw44.SecretsDining", spec := "secretsDining", unfollowed := true, recurses := true, named := ["math/bits.deBruijn64tab"], plainKeys := false, apart := false, laid := [("math/bits.deBruijn64tab", laid_math_bits_deBruijn64tab)], narrowed := true }
def SecretsDiningUptoSaid : Prop := secretsDiningUptoRow.holds Tryz.pinned (OpenSpec.upto secretsDiningSpec)

/-- 'wittinglaw44.SecretsSpoken', WHERE WHAT IT READS IS OF BULK AT MOST 1048576: true; the input reads as it did. -/
def secretsSpokenUptoRow : OpenClaim := { program := "ytflnfcmbalhpnaagreatdoor", sum := "cc7c46b205a12ac1ac75e8bd5a59110a98ac5d31c44bac2538523105314ec304", func := "witting/wittinglaw44.SecretsSpoken", spec := "secretsSpoken", unfollowed := true, recurses := true, named := ["math/bits.deBruijn64tab"], plainKeys := false, apart := false, laid := [("math/bits.deBruijn64tab", laid_math_bits_deBruijn64tab)], narrowed := true }
def SecretsSpokenUptoSaid : Prop := secretsSpokenUptoRow.holds Tryz.pinned (OpenSpec.upto secretsSpokenSpec)

/-- 'wittinglaw44.SecretsDecides', WHERE WHAT IT READS IS OF BULK AT MOST 1048576: true; the input reads as it did. -/
def secretsDecidesUptoRow : OpenClaim := { program := "ytflnfcmbalhpnaagreatdoor", sum := "cc7c46b205a12ac1ac75e8bd5a59110a98ac5d31c44bac2538523105314ec304", func := "witting/wittinglaw44.SecretsDecides", spec := "secretsDecides", unfollowed := true, recurses := true, named := ["math/bits.deBruijn64tab"], plainKeys := false, apart := false, laid := [("math/bits.deBruijn64tab", laid_math_bits_deBruijn64tab)], narrowed := true }
def SecretsDecidesUptoSaid : Prop := secretsDecidesUptoRow.holds Tryz.pinned (OpenSpec.upto secretsDecidesSpec)

/-- 'wittinglaw44.SecretsAnonymous', WHERE WHAT IT READS IS OF BULK AT MOST 1048576: true; the input reads as it did. -/
def secretsAnonymousUptoRow : OpenClaim := { program := "ytflnfcmbalhpnaagreatdoor", sum := "cc7c46b205a12ac1ac75e8bd5a59110a98ac5d31c44bac2538523105314ec304", func := "witting/wittinglaw44.SecretsAnonymous", spec := "secretsAnonymous", unfollowed := true, recurses := true, named := ["math/bits.deBruijn64tab"], plainKeys := false, apart := false, laid := [("math/bits.deBruijn64tab", laid_math_bits_deBruijn64tab)], narrowed := true }
def SecretsAnonymousUptoSaid : Prop := secretsAnonymousUptoRow.holds Tryz.pinned (OpenSpec.upto secretsAnonymousSpec)

/-- 'wittinglaw44.SecretsCounted', WHERE WHAT IT READS IS OF BULK AT MOST 1048576: true; the input reads as it did. -/
def secretsCountedUptoRow : OpenClaim := { program := "ytflnfcmbalhpnaagreatdoor", sum := "cc7c46b205a12ac1ac75e8bd5a59110a98ac5d31c44bac2538523105314ec304", func := "witting/wittinglaw44.SecretsCounted", spec := "secretsCounted", unfollowed := true, recurses := true, named := ["math/bits.deBruijn64tab"], plainKeys := false, apart := false, laid := [("math/bits.deBruijn64tab", laid_math_bits_deBruijn64tab)], narrowed := true }
def SecretsCountedUptoSaid : Prop := secretsCountedUptoRow.holds Tryz.pinned (OpenSpec.upto secretsCountedSpec)

/-- 'wittinglaw44.SecretsTally', WHERE WHAT IT READS IS OF BULK AT MOST 1048576: true; the input reads as it did. -/
def secretsTallyUptoRow : OpenClaim := { program := "ytflnfcmbalhpnaagreatdoor", sum := "cc7c46b205a12ac1ac75e8bd5a59110a98ac5d31c44bac2538523105314ec304", func := "witting/wittinglaw44.SecretsTally", spec := "secretsTally", unfollowed := true, recurses := true, named := ["math/bits.deBruijn64tab"], plainKeys := false, apart := false, laid := [("math/bits.deBruijn64tab", laid_math_bits_deBruijn64tab)], narrowed := true }
def SecretsTallyUptoSaid : Prop := secretsTallyUptoRow.holds Tryz.pinned (OpenSpec.upto secretsTallySpec)

/-- 'wittinglaw44.SecretsParity', WHERE WHAT IT READS IS OF BULK AT MOST 1048576: true; the input reads as it did. -/
def secretsParityUptoRow : OpenClaim := { program := "ytflnfcmbalhpnaagreatdoor", sum := "cc7c46b205a12ac1ac75e8bd5a59110a98ac5d31c44bac2538523105314ec304", func := "witting/wittinglaw44.SecretsParity", spec := "secretsParity", unfollowed := true, recurses := true, named := ["math/bits.deBruijn64tab"], plainKeys := false, apart := false, laid := [("math/bits.deBruijn64tab", laid_math_bits_deBruijn64tab)], narrowed := true }
def SecretsParityUptoSaid : Prop := secretsParityUptoRow.holds Tryz.pinned (OpenSpec.upto secretsParitySpec)

/-- 'wittinglaw44.SecretsVotes', WHERE WHAT IT READS IS OF BULK AT MOST 1048576: true; the input reads as it did. -/
def secretsVotesUptoRow : OpenClaim := { program := "ytflnfcmbalhpnaagreatdoor", sum := "cc7c46b205a12ac1ac75e8bd5a59110a98ac5d31c44bac2538523105314ec304", func := "witting/wittinglaw44.SecretsVotes", spec := "secretsVotes", unfollowed := true, recurses := true, named := ["math/bits.deBruijn64tab"], plainKeys := false, apart := false, laid := [("math/bits.deBruijn64tab", laid_math_bits_deBruijn64tab)], narrowed := true }
def SecretsVotesUptoSaid : Prop := secretsVotesUptoRow.holds Tryz.pinned (OpenSpec.upto secretsVotesSpec)

/-- 'wittingtop.TopCoalitionsGrow', WHERE WHAT IT READS IS OF BULK AT MOST 1048576: true; the input reads as it did. -/
def topCoalitionsGrowUptoRow : OpenClaim := { program := "ytflnfcmbalhpnaagreatdoor", sum := "cc7c46b205a12ac1ac75e8bd5a59110a98ac5d31c44bac2538523105314ec304", func := "witting/wittingtop.TopCoalitionsGrow", spec := "topCoalitionsGrow", unfollowed := true, recurses := true, named := ["math/bits.deBruijn64tab"], plainKeys := false, apart := false, laid := [("math/bits.deBruijn64tab", laid_math_bits_deBruijn64tab)], narrowed := true }
def TopCoalitionsGrowUptoSaid : Prop := topCoalitionsGrowUptoRow.holds Tryz.pinned (OpenSpec.upto topCoalitionsGrowSpec)

end Rows
end Go.Proofs.YtflnfcmbalhpnaaGreatDoor
