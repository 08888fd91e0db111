/-
  DERIVED. GIVEN WITH THE SEED: THE CARDS: each row of YtflnfcmbalhpnaaGreatDoorRows.lean that lists a variable, with what it lists TIED to the program's text (the seventh form; the later family's looks); each row that meets fmt, with fmt's text TOLD by the authors' own Lean function (tested against real Go, not proved from fmt's source: count such statements apart). THE CARD IS WHAT COUNTS. Prove the row's statement (the work); the ties are given (YtflnfcmbalhpnaaGreatDoorTie.lean); close each card by the builder's one call (the guide's Derived/Test/ToyasCard.lean, 'card_holds'). Laid BY PROGRAM, IN A SANDBOX (cutbox-door.mjs). By AI agents, Wed Nov 11 2026. No macro, syntax, notation, axiom, sorry.
-/
import Derived.Test.YtflnfcmbalhpnaaGreatDoorRows
import GoSem.ClaimSeven
namespace Go.Proofs.YtflnfcmbalhpnaaGreatDoor
namespace Rows

/-- THE TIED CARD OF 'wittinglaw44.SecretsDining'. -/
def secretsDiningCard : Claim7 := { stood := { row := secretsDiningRow, standIns := [], harness := (true, "503998378e7fc62641d27833c60474eccaffa2e04e932a1d7b7689e98ddba092"), looks := false }, kinds := [], alts := [], laidByText := true, laidKinds := [.data], laidTests := true, laidLooks := .later }
def SecretsDiningCardSaid : Prop := Claim7.holds Tryz.pinned (.plain (OpenSpec.ofChange secretsDiningSpec)) secretsDiningCard

/-- THE TIED CARD OF 'wittinglaw44.SecretsSpoken'. -/
def secretsSpokenCard : Claim7 := { stood := { row := secretsSpokenRow, standIns := [], harness := (true, "503998378e7fc62641d27833c60474eccaffa2e04e932a1d7b7689e98ddba092"), looks := false }, kinds := [], alts := [], laidByText := true, laidKinds := [.data], laidTests := true, laidLooks := .later }
def SecretsSpokenCardSaid : Prop := Claim7.holds Tryz.pinned (.plain (OpenSpec.ofChange secretsSpokenSpec)) secretsSpokenCard

/-- THE TIED CARD OF 'wittinglaw44.SecretsDecides'. -/
def secretsDecidesCard : Claim7 := { stood := { row := secretsDecidesRow, standIns := [], harness := (true, "503998378e7fc62641d27833c60474eccaffa2e04e932a1d7b7689e98ddba092"), looks := false }, kinds := [], alts := [], laidByText := true, laidKinds := [.data], laidTests := true, laidLooks := .later }
def SecretsDecidesCardSaid : Prop := Claim7.holds Tryz.pinned (.plain (OpenSpec.ofChange secretsDecidesSpec)) secretsDecidesCard

/-- THE TIED CARD OF 'wittinglaw44.SecretsAnonymous'. -/
def secretsAnonymousCard : Claim7 := { stood := { row := secretsAnonymousRow, standIns := [], harness := (true, "503998378e7fc62641d27833c60474eccaffa2e04e932a1d7b7689e98ddba092"), looks := false }, kinds := [], alts := [], laidByText := true, laidKinds := [.data], laidTests := true, laidLooks := .later }
def SecretsAnonymousCardSaid : Prop := Claim7.holds Tryz.pinned (.plain (OpenSpec.ofChange secretsAnonymousSpec)) secretsAnonymousCard

/-- THE TIED CARD OF 'wittinglaw44.SecretsCounted'. -/
def secretsCountedCard : Claim7 := { stood := { row := secretsCountedRow, standIns := [], harness := (true, "503998378e7fc62641d27833c60474eccaffa2e04e932a1d7b7689e98ddba092"), looks := false }, kinds := [], alts := [], laidByText := true, laidKinds := [.data], laidTests := true, laidLooks := .later }
def SecretsCountedCardSaid : Prop := Claim7.holds Tryz.pinned (.plain (OpenSpec.ofChange secretsCountedSpec)) secretsCountedCard

/-- THE TIED CARD OF 'wittinglaw44.SecretsTally'. -/
def secretsTallyCard : Claim7 := { stood := { row := secretsTallyRow, standIns := [], harness := (true, "503998378e7fc62641d27833c60474eccaffa2e04e932a1d7b7689e98ddba092"), looks := false }, kinds := [], alts := [], laidByText := true, laidKinds := [.data], laidTests := true, laidLooks := .later }
def SecretsTallyCardSaid : Prop := Claim7.holds Tryz.pinned (.plain (OpenSpec.ofChange secretsTallySpec)) secretsTallyCard

/-- THE TIED CARD OF 'wittinglaw44.SecretsParity'. -/
def secretsParityCard : Claim7 := { stood := { row := secretsParityRow, standIns := [], harness := (true, "503998378e7fc62641d27833c60474eccaffa2e04e932a1d7b7689e98ddba092"), looks := false }, kinds := [], alts := [], laidByText := true, laidKinds := [.data], laidTests := true, laidLooks := .later }
def SecretsParityCardSaid : Prop := Claim7.holds Tryz.pinned (.plain (OpenSpec.ofChange secretsParitySpec)) secretsParityCard

/-- THE TIED CARD OF 'wittinglaw44.SecretsVotes'. -/
def secretsVotesCard : Claim7 := { stood := { row := secretsVotesRow, standIns := [], harness := (true, "503998378e7fc62641d27833c60474eccaffa2e04e932a1d7b7689e98ddba092"), looks := false }, kinds := [], alts := [], laidByText := true, laidKinds := [.data], laidTests := true, laidLooks := .later }
def SecretsVotesCardSaid : Prop := Claim7.holds Tryz.pinned (.plain (OpenSpec.ofChange secretsVotesSpec)) secretsVotesCard

/-- THE TIED CARD OF 'wittingtop.TopCoalitionsGrow'. -/
def topCoalitionsGrowCard : Claim7 := { stood := { row := topCoalitionsGrowRow, standIns := [], harness := (true, "503998378e7fc62641d27833c60474eccaffa2e04e932a1d7b7689e98ddba092"), looks := false }, kinds := [], alts := [], laidByText := true, laidKinds := [.data], laidTests := true, laidLooks := .later }
def TopCoalitionsGrowCardSaid : Prop := Claim7.holds Tryz.pinned (.plain (OpenSpec.ofChange topCoalitionsGrowSpec)) topCoalitionsGrowCard

/-- THE SECOND FORM's CARD OF 'wittinglaw44.SecretsDining'. -/
def secretsDiningUptoCard : Claim7 := { stood := { row := secretsDiningUptoRow, standIns := [], harness := (true, "503998378e7fc62641d27833c60474eccaffa2e04e932a1d7b7689e98ddba092"), looks := false }, kinds := [], alts := [], laidByText := true, laidKinds := [.data], laidTests := true, laidLooks := .later }
def SecretsDiningUptoCardSaid : Prop := Claim7.holds Tryz.pinned (.plain (OpenSpec.upto secretsDiningSpec)) secretsDiningUptoCard

/-- THE SECOND FORM's CARD OF 'wittinglaw44.SecretsSpoken'. -/
def secretsSpokenUptoCard : Claim7 := { stood := { row := secretsSpokenUptoRow, standIns := [], harness := (true, "503998378e7fc62641d27833c60474eccaffa2e04e932a1d7b7689e98ddba092"), looks := false }, kinds := [], alts := [], laidByText := true, laidKinds := [.data], laidTests := true, laidLooks := .later }
def SecretsSpokenUptoCardSaid : Prop := Claim7.holds Tryz.pinned (.plain (OpenSpec.upto secretsSpokenSpec)) secretsSpokenUptoCard

/-- THE SECOND FORM's CARD OF 'wittinglaw44.SecretsDecides'. -/
def secretsDecidesUptoCard : Claim7 := { stood := { row := secretsDecidesUptoRow, standIns := [], harness := (true, "503998378e7fc62641d27833c60474eccaffa2e04e932a1d7b7689e98ddba092"), looks := false }, kinds := [], alts := [], laidByText := true, laidKinds := [.data], laidTests := true, laidLooks := .later }
def SecretsDecidesUptoCardSaid : Prop := Claim7.holds Tryz.pinned (.plain (OpenSpec.upto secretsDecidesSpec)) secretsDecidesUptoCard

/-- THE SECOND FORM's CARD OF 'wittinglaw44.SecretsAnonymous'. -/
def secretsAnonymousUptoCard : Claim7 := { stood := { row := secretsAnonymousUptoRow, standIns := [], harness := (true, "503998378e7fc62641d27833c60474eccaffa2e04e932a1d7b7689e98ddba092"), looks := false }, kinds := [], alts := [], laidByText := true, laidKinds := [.data], laidTests := true, laidLooks := .later }
def SecretsAnonymousUptoCardSaid : Prop := Claim7.holds Tryz.pinned (.plain (OpenSpec.upto secretsAnonymousSpec)) secretsAnonymousUptoCard

/-- THE SECOND FORM's CARD OF 'wittinglaw44.SecretsCounted'. -/
def secretsCountedUptoCard : Claim7 := { stood := { row := secretsCountedUptoRow, standIns := [], harness := (true, "503998378e7fc62641d27833c60474eccaffa2e04e932a1d7b7689e98ddba092"), looks := false }, kinds := [], alts := [], laidByText := true, laidKinds := [.data], laidTests := true, laidLooks := .later }
def SecretsCountedUptoCardSaid : Prop := Claim7.holds Tryz.pinned (.plain (OpenSpec.upto secretsCountedSpec)) secretsCountedUptoCard

/-- THE SECOND FORM's CARD OF 'wittinglaw44.SecretsTally'. -/
def secretsTallyUptoCard : Claim7 := { stood := { row := secretsTallyUptoRow, standIns := [], harness := (true, "503998378e7fc62641d27833c60474eccaffa2e04e932a1d7b7689e98ddba092"), looks := false }, kinds := [], alts := [], laidByText := true, laidKinds := [.data], laidTests := true, laidLooks := .later }
def SecretsTallyUptoCardSaid : Prop := Claim7.holds Tryz.pinned (.plain (OpenSpec.upto secretsTallySpec)) secretsTallyUptoCard

/-- THE SECOND FORM's CARD OF 'wittinglaw44.SecretsParity'. -/
def secretsParityUptoCard : Claim7 := { stood := { row := secretsParityUptoRow, standIns := [], harness := (true, "503998378e7fc62641d27833c60474eccaffa2e04e932a1d7b7689e98ddba092"), looks := false }, kinds := [], alts := [], laidByText := true, laidKinds := [.data], laidTests := true, laidLooks := .later }
def SecretsParityUptoCardSaid : Prop := Claim7.holds Tryz.pinned (.plain (OpenSpec.upto secretsParitySpec)) secretsParityUptoCard

/-- THE SECOND FORM's CARD OF 'wittinglaw44.SecretsVotes'. -/
def secretsVotesUptoCard : Claim7 := { stood := { row := secretsVotesUptoRow, standIns := [], harness := (true, "503998378e7fc62641d27833c60474eccaffa2e04e932a1d7b7689e98ddba092"), looks := false }, kinds := [], alts := [], laidByText := true, laidKinds := [.data], laidTests := true, laidLooks := .later }
def SecretsVotesUptoCardSaid : Prop := Claim7.holds Tryz.pinned (.plain (OpenSpec.upto secretsVotesSpec)) secretsVotesUptoCard

/-- THE SECOND FORM's CARD OF 'wittingtop.TopCoalitionsGrow'. -/
def topCoalitionsGrowUptoCard : Claim7 := { stood := { row := topCoalitionsGrowUptoRow, standIns := [], harness := (true, "503998378e7fc62641d27833c60474eccaffa2e04e932a1d7b7689e98ddba092"), looks := false }, kinds := [], alts := [], laidByText := true, laidKinds := [.data], laidTests := true, laidLooks := .later }
def TopCoalitionsGrowUptoCardSaid : Prop := Claim7.holds Tryz.pinned (.plain (OpenSpec.upto topCoalitionsGrowSpec)) topCoalitionsGrowUptoCard
end Rows
end Go.Proofs.YtflnfcmbalhpnaaGreatDoor
