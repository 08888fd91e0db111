/-
  DERIVED. GIVEN WITH THE SEED: THE CARDS: each row of YtoacdccachhjdaaGreatDoorRows.lean that lists a variable, with what it lists TIED to the program's text (the seventh form; the later family's looks); each row that meets fmt, with fmt's text TOLD by the authors' own Lean function (tested against real Go, not proved from fmt's source: count such statements apart). THE CARD IS WHAT COUNTS. Prove the row's statement (the work); the ties are given (YtoacdccachhjdaaGreatDoorTie.lean); close each card by the builder's one call (the guide's Derived/Test/ToyasCard.lean, 'card_holds'). Laid BY PROGRAM, IN A SANDBOX (cutbox-door.mjs). By AI agents, Wed Nov 11 2026. No macro, syntax, notation, axiom, sorry.
-/
import Derived.Test.YtoacdccachhjdaaGreatDoorRows
import GoSem.ClaimSeven
namespace Go.Proofs.YtoacdccachhjdaaGreatDoor
namespace Rows

/-- THE TIED CARD OF 'wittinglaw32.PuzzlesModels'. -/
def puzzlesModelsCard : Claim7 := { stood := { row := puzzlesModelsRow, standIns := [], harness := (true, "b7f19f9b61b881be2f12f5cc552e45d1d2e636659b96795571c13598b704603e"), looks := false }, kinds := [], alts := [], laidByText := true, laidKinds := [.data], laidTests := true, laidLooks := .later }
def PuzzlesModelsCardSaid : Prop := Claim7.holds Tryz.pinned (.plain (OpenSpec.ofChange puzzlesModelsSpec)) puzzlesModelsCard

/-- THE TIED CARD OF 'wittinglaw32.PuzzlesPlays'. -/
def puzzlesPlaysCard : Claim7 := { stood := { row := puzzlesPlaysRow, standIns := [], harness := (true, "b7f19f9b61b881be2f12f5cc552e45d1d2e636659b96795571c13598b704603e"), looks := false }, kinds := [], alts := [], laidByText := true, laidKinds := [.data], laidTests := true, laidLooks := .later }
def PuzzlesPlaysCardSaid : Prop := Claim7.holds Tryz.pinned (.plain (OpenSpec.ofChange puzzlesPlaysSpec)) puzzlesPlaysCard

/-- THE TIED CARD OF 'wittinglaw32.PuzzlesMuddy'. -/
def puzzlesMuddyCard : Claim7 := { stood := { row := puzzlesMuddyRow, standIns := [], harness := (true, "b7f19f9b61b881be2f12f5cc552e45d1d2e636659b96795571c13598b704603e"), looks := false }, kinds := [], alts := [], laidByText := true, laidKinds := [.data], laidTests := true, laidLooks := .later }
def PuzzlesMuddyCardSaid : Prop := Claim7.holds Tryz.pinned (.plain (OpenSpec.ofChange puzzlesMuddySpec)) puzzlesMuddyCard

/-- THE TIED CARD OF 'wittinglaw32.PuzzlesConsecutive'. -/
def puzzlesConsecutiveCard : Claim7 := { stood := { row := puzzlesConsecutiveRow, standIns := [], harness := (true, "b7f19f9b61b881be2f12f5cc552e45d1d2e636659b96795571c13598b704603e"), looks := false }, kinds := [], alts := [], laidByText := true, laidKinds := [.data], laidTests := true, laidLooks := .later }
def PuzzlesConsecutiveCardSaid : Prop := Claim7.holds Tryz.pinned (.plain (OpenSpec.ofChange puzzlesConsecutiveSpec)) puzzlesConsecutiveCard

/-- THE TIED CARD OF 'wittinglaw32.PuzzlesSums'. -/
def puzzlesSumsCard : Claim7 := { stood := { row := puzzlesSumsRow, standIns := [], harness := (true, "b7f19f9b61b881be2f12f5cc552e45d1d2e636659b96795571c13598b704603e"), looks := false }, kinds := [], alts := [], laidByText := true, laidKinds := [.data], laidTests := true, laidLooks := .later }
def PuzzlesSumsCardSaid : Prop := Claim7.holds Tryz.pinned (.plain (OpenSpec.ofChange puzzlesSumsSpec)) puzzlesSumsCard

/-- THE TIED CARD OF 'wittinglaw32.PuzzlesFormulas'. -/
def puzzlesFormulasCard : Claim7 := { stood := { row := puzzlesFormulasRow, standIns := [], harness := (true, "b7f19f9b61b881be2f12f5cc552e45d1d2e636659b96795571c13598b704603e"), looks := false }, kinds := [], alts := [], laidByText := true, laidKinds := [.data], laidTests := true, laidLooks := .later }
def PuzzlesFormulasCardSaid : Prop := Claim7.holds Tryz.pinned (.plain (OpenSpec.ofChange puzzlesFormulasSpec)) puzzlesFormulasCard

/-- THE TIED CARD OF 'wittinglaw32.PuzzlesSome'. -/
def puzzlesSomeCard : Claim7 := { stood := { row := puzzlesSomeRow, standIns := [], harness := (true, "b7f19f9b61b881be2f12f5cc552e45d1d2e636659b96795571c13598b704603e"), looks := false }, kinds := [], alts := [], laidByText := true, laidKinds := [.data], laidTests := true, laidLooks := .later }
def PuzzlesSomeCardSaid : Prop := Claim7.holds Tryz.pinned (.plain (OpenSpec.ofChange puzzlesSomeSpec)) puzzlesSomeCard

/-- THE TIED CARD OF 'wittinglaw32.PuzzlesFair'. -/
def puzzlesFairCard : Claim7 := { stood := { row := puzzlesFairRow, standIns := [], harness := (true, "b7f19f9b61b881be2f12f5cc552e45d1d2e636659b96795571c13598b704603e"), looks := false }, kinds := [], alts := [], laidByText := true, laidKinds := [.data], laidTests := true, laidLooks := .later }
def PuzzlesFairCardSaid : Prop := Claim7.holds Tryz.pinned (.plain (OpenSpec.ofChange puzzlesFairSpec)) puzzlesFairCard

/-- THE SECOND FORM's CARD OF 'wittinglaw32.PuzzlesModels'. -/
def puzzlesModelsUptoCard : Claim7 := { stood := { row := puzzlesModelsUptoRow, standIns := [], harness := (true, "b7f19f9b61b881be2f12f5cc552e45d1d2e636659b96795571c13598b704603e"), looks := false }, kinds := [], alts := [], laidByText := true, laidKinds := [.data], laidTests := true, laidLooks := .later }
def PuzzlesModelsUptoCardSaid : Prop := Claim7.holds Tryz.pinned (.plain (OpenSpec.upto puzzlesModelsSpec)) puzzlesModelsUptoCard

/-- THE SECOND FORM's CARD OF 'wittinglaw32.PuzzlesPlays'. -/
def puzzlesPlaysUptoCard : Claim7 := { stood := { row := puzzlesPlaysUptoRow, standIns := [], harness := (true, "b7f19f9b61b881be2f12f5cc552e45d1d2e636659b96795571c13598b704603e"), looks := false }, kinds := [], alts := [], laidByText := true, laidKinds := [.data], laidTests := true, laidLooks := .later }
def PuzzlesPlaysUptoCardSaid : Prop := Claim7.holds Tryz.pinned (.plain (OpenSpec.upto puzzlesPlaysSpec)) puzzlesPlaysUptoCard

/-- THE SECOND FORM's CARD OF 'wittinglaw32.PuzzlesMuddy'. -/
def puzzlesMuddyUptoCard : Claim7 := { stood := { row := puzzlesMuddyUptoRow, standIns := [], harness := (true, "b7f19f9b61b881be2f12f5cc552e45d1d2e636659b96795571c13598b704603e"), looks := false }, kinds := [], alts := [], laidByText := true, laidKinds := [.data], laidTests := true, laidLooks := .later }
def PuzzlesMuddyUptoCardSaid : Prop := Claim7.holds Tryz.pinned (.plain (OpenSpec.upto puzzlesMuddySpec)) puzzlesMuddyUptoCard

/-- THE SECOND FORM's CARD OF 'wittinglaw32.PuzzlesConsecutive'. -/
def puzzlesConsecutiveUptoCard : Claim7 := { stood := { row := puzzlesConsecutiveUptoRow, standIns := [], harness := (true, "b7f19f9b61b881be2f12f5cc552e45d1d2e636659b96795571c13598b704603e"), looks := false }, kinds := [], alts := [], laidByText := true, laidKinds := [.data], laidTests := true, laidLooks := .later }
def PuzzlesConsecutiveUptoCardSaid : Prop := Claim7.holds Tryz.pinned (.plain (OpenSpec.upto puzzlesConsecutiveSpec)) puzzlesConsecutiveUptoCard

/-- THE SECOND FORM's CARD OF 'wittinglaw32.PuzzlesSums'. -/
def puzzlesSumsUptoCard : Claim7 := { stood := { row := puzzlesSumsUptoRow, standIns := [], harness := (true, "b7f19f9b61b881be2f12f5cc552e45d1d2e636659b96795571c13598b704603e"), looks := false }, kinds := [], alts := [], laidByText := true, laidKinds := [.data], laidTests := true, laidLooks := .later }
def PuzzlesSumsUptoCardSaid : Prop := Claim7.holds Tryz.pinned (.plain (OpenSpec.upto puzzlesSumsSpec)) puzzlesSumsUptoCard

/-- THE SECOND FORM's CARD OF 'wittinglaw32.PuzzlesFormulas'. -/
def puzzlesFormulasUptoCard : Claim7 := { stood := { row := puzzlesFormulasUptoRow, standIns := [], harness := (true, "b7f19f9b61b881be2f12f5cc552e45d1d2e636659b96795571c13598b704603e"), looks := false }, kinds := [], alts := [], laidByText := true, laidKinds := [.data], laidTests := true, laidLooks := .later }
def PuzzlesFormulasUptoCardSaid : Prop := Claim7.holds Tryz.pinned (.plain (OpenSpec.upto puzzlesFormulasSpec)) puzzlesFormulasUptoCard

/-- THE SECOND FORM's CARD OF 'wittinglaw32.PuzzlesSome'. -/
def puzzlesSomeUptoCard : Claim7 := { stood := { row := puzzlesSomeUptoRow, standIns := [], harness := (true, "b7f19f9b61b881be2f12f5cc552e45d1d2e636659b96795571c13598b704603e"), looks := false }, kinds := [], alts := [], laidByText := true, laidKinds := [.data], laidTests := true, laidLooks := .later }
def PuzzlesSomeUptoCardSaid : Prop := Claim7.holds Tryz.pinned (.plain (OpenSpec.upto puzzlesSomeSpec)) puzzlesSomeUptoCard

/-- THE SECOND FORM's CARD OF 'wittinglaw32.PuzzlesFair'. -/
def puzzlesFairUptoCard : Claim7 := { stood := { row := puzzlesFairUptoRow, standIns := [], harness := (true, "b7f19f9b61b881be2f12f5cc552e45d1d2e636659b96795571c13598b704603e"), looks := false }, kinds := [], alts := [], laidByText := true, laidKinds := [.data], laidTests := true, laidLooks := .later }
def PuzzlesFairUptoCardSaid : Prop := Claim7.holds Tryz.pinned (.plain (OpenSpec.upto puzzlesFairSpec)) puzzlesFairUptoCard
end Rows
end Go.Proofs.YtoacdccachhjdaaGreatDoor
