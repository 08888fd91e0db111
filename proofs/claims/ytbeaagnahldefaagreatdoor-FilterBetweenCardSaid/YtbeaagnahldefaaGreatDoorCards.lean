/-
  DERIVED. GIVEN WITH THE SEED: THE CARDS: each row of YtbeaagnahldefaaGreatDoorRows.lean that lists a variable, with what it lists TIED to the program's text (the seventh form; the later family's looks); each row that meets fmt, with fmt's text TOLD by the authors' own Lean function (tested against real Go, not proved from fmt's source: count such statements apart). THE CARD IS WHAT COUNTS. Prove the row's statement (the work); the ties are given (YtbeaagnahldefaaGreatDoorTie.lean); close each card by the builder's one call (the guide's Derived/Test/ToyasCard.lean, 'card_holds'). Laid BY PROGRAM, IN A SANDBOX (cutbox-door.mjs). By AI agents, Wed Nov 11 2026. No macro, syntax, notation, axiom, sorry.
-/
import Derived.Test.YtbeaagnahldefaaGreatDoorRows
import GoSem.ClaimSeven
namespace Go.Proofs.YtbeaagnahldefaaGreatDoor
namespace Rows

/-- THE TIED CARD OF 'wittinglaw23.FilterClasses'. -/
def filterClassesCard : Claim7 := { stood := { row := filterClassesRow, standIns := [], harness := (true, "8fb8f090d5b5c9c990d38917942a68089754d303192b82751406deaeec056566"), looks := false }, kinds := [], alts := [], laidByText := true, laidKinds := [.data], laidTests := true, laidLooks := .later }
def FilterClassesCardSaid : Prop := Claim7.holds Tryz.pinned (.plain (OpenSpec.ofChange filterClassesSpec)) filterClassesCard

/-- THE TIED CARD OF 'wittinglaw23.FilterSmallest'. -/
def filterSmallestCard : Claim7 := { stood := { row := filterSmallestRow, standIns := [], harness := (true, "8fb8f090d5b5c9c990d38917942a68089754d303192b82751406deaeec056566"), looks := false }, kinds := [], alts := [], laidByText := true, laidKinds := [.data], laidTests := true, laidLooks := .later }
def FilterSmallestCardSaid : Prop := Claim7.holds Tryz.pinned (.plain (OpenSpec.ofChange filterSmallestSpec)) filterSmallestCard

/-- THE TIED CARD OF 'wittinglaw23.FilterLargest'. -/
def filterLargestCard : Claim7 := { stood := { row := filterLargestRow, standIns := [], harness := (true, "8fb8f090d5b5c9c990d38917942a68089754d303192b82751406deaeec056566"), looks := false }, kinds := [], alts := [], laidByText := true, laidKinds := [.data], laidTests := true, laidLooks := .later }
def FilterLargestCardSaid : Prop := Claim7.holds Tryz.pinned (.plain (OpenSpec.ofChange filterLargestSpec)) filterLargestCard

/-- THE TIED CARD OF 'wittinglaw23.FilterBetween'. -/
def filterBetweenCard : Claim7 := { stood := { row := filterBetweenRow, standIns := [], harness := (true, "8fb8f090d5b5c9c990d38917942a68089754d303192b82751406deaeec056566"), looks := false }, kinds := [], alts := [], laidByText := true, laidKinds := [.data], laidTests := true, laidLooks := .later }
def FilterBetweenCardSaid : Prop := Claim7.holds Tryz.pinned (.plain (OpenSpec.ofChange filterBetweenSpec)) filterBetweenCard

/-- THE SECOND FORM's CARD OF 'wittinglaw23.FilterClasses'. -/
def filterClassesUptoCard : Claim7 := { stood := { row := filterClassesUptoRow, standIns := [], harness := (true, "8fb8f090d5b5c9c990d38917942a68089754d303192b82751406deaeec056566"), looks := false }, kinds := [], alts := [], laidByText := true, laidKinds := [.data], laidTests := true, laidLooks := .later }
def FilterClassesUptoCardSaid : Prop := Claim7.holds Tryz.pinned (.plain (OpenSpec.upto filterClassesSpec)) filterClassesUptoCard

/-- THE SECOND FORM's CARD OF 'wittinglaw23.FilterSmallest'. -/
def filterSmallestUptoCard : Claim7 := { stood := { row := filterSmallestUptoRow, standIns := [], harness := (true, "8fb8f090d5b5c9c990d38917942a68089754d303192b82751406deaeec056566"), looks := false }, kinds := [], alts := [], laidByText := true, laidKinds := [.data], laidTests := true, laidLooks := .later }
def FilterSmallestUptoCardSaid : Prop := Claim7.holds Tryz.pinned (.plain (OpenSpec.upto filterSmallestSpec)) filterSmallestUptoCard

/-- THE SECOND FORM's CARD OF 'wittinglaw23.FilterLargest'. -/
def filterLargestUptoCard : Claim7 := { stood := { row := filterLargestUptoRow, standIns := [], harness := (true, "8fb8f090d5b5c9c990d38917942a68089754d303192b82751406deaeec056566"), looks := false }, kinds := [], alts := [], laidByText := true, laidKinds := [.data], laidTests := true, laidLooks := .later }
def FilterLargestUptoCardSaid : Prop := Claim7.holds Tryz.pinned (.plain (OpenSpec.upto filterLargestSpec)) filterLargestUptoCard

/-- THE SECOND FORM's CARD OF 'wittinglaw23.FilterBetween'. -/
def filterBetweenUptoCard : Claim7 := { stood := { row := filterBetweenUptoRow, standIns := [], harness := (true, "8fb8f090d5b5c9c990d38917942a68089754d303192b82751406deaeec056566"), looks := false }, kinds := [], alts := [], laidByText := true, laidKinds := [.data], laidTests := true, laidLooks := .later }
def FilterBetweenUptoCardSaid : Prop := Claim7.holds Tryz.pinned (.plain (OpenSpec.upto filterBetweenSpec)) filterBetweenUptoCard
end Rows
end Go.Proofs.YtbeaagnahldefaaGreatDoor
