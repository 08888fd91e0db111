/-
  DERIVED. GIVEN WITH THE SEED: THE CARDS: each row of YtbeaagnahldefaaDoorRows.lean that lists a variable, with what it lists TIED to the program's text (the seventh form; the later family's looks); each row that meets fmt, with fmt's text TOLD by the authors' own Lean function (tested against real Go, not proved from fmt's source: count such statements apart). THE CARD IS WHAT COUNTS. Prove the row's statement (the work); the ties are given (YtbeaagnahldefaaDoorTie.lean); close each card by the builder's one call (the guide's Derived/Test/ToyasCard.lean, 'card_holds'). Laid BY PROGRAM, IN A SANDBOX (cutbox-door.mjs). By AI agents, Wed Nov 11 2026. No macro, syntax, notation, axiom, sorry.
-/
import Derived.Test.YtbeaagnahldefaaDoorRows
import GoSem.ClaimSeven
namespace Go.Proofs.YtbeaagnahldefaaDoor
namespace Rows

/-- THE TIED CARD OF 'wittinglaw23.FilterLemma'. -/
def filterLemmaCard : Claim7 := { stood := { row := filterLemmaRow, standIns := [], harness := (true, "4e34b9e698c2fc5426eed3c2ebc783a8939c02ec50d6a746c958e931d562f9ee"), looks := false }, kinds := [], alts := [], laidByText := true, laidKinds := [.data], laidTests := true, laidLooks := .later }
def FilterLemmaCardSaid : Prop := Claim7.holds Tryd.pinned (.plain (OpenSpec.ofChange filterLemmaSpec)) filterLemmaCard

/-- THE TIED CARD OF 'wittinglaw23.FilterFrames'. -/
def filterFramesCard : Claim7 := { stood := { row := filterFramesRow, standIns := [], harness := (true, "4e34b9e698c2fc5426eed3c2ebc783a8939c02ec50d6a746c958e931d562f9ee"), looks := false }, kinds := [], alts := [], laidByText := true, laidKinds := [.data], laidTests := true, laidLooks := .later }
def FilterFramesCardSaid : Prop := Claim7.holds Tryd.pinned (.plain (OpenSpec.ofChange filterFramesSpec)) filterFramesCard

/-- THE TIED CARD OF 'wittinglaw23.FilterSizes'. -/
def filterSizesCard : Claim7 := { stood := { row := filterSizesRow, standIns := [], harness := (true, "4e34b9e698c2fc5426eed3c2ebc783a8939c02ec50d6a746c958e931d562f9ee"), looks := false }, kinds := [], alts := [], laidByText := true, laidKinds := [.data], laidTests := true, laidLooks := .later }
def FilterSizesCardSaid : Prop := Claim7.holds Tryd.pinned (.plain (OpenSpec.ofChange filterSizesSpec)) filterSizesCard

/-- THE TIED CARD OF 'wittingtop.TopRestrictLogics'. -/
def topRestrictLogicsCard : Claim7 := { stood := { row := topRestrictLogicsRow, standIns := [], harness := (true, "4e34b9e698c2fc5426eed3c2ebc783a8939c02ec50d6a746c958e931d562f9ee"), looks := false }, kinds := [], alts := [], laidByText := true, laidKinds := [.data], laidTests := true, laidLooks := .later }
def TopRestrictLogicsCardSaid : Prop := Claim7.holds Tryd.pinned (.plain (OpenSpec.ofChange topRestrictLogicsSpec)) topRestrictLogicsCard

/-- THE TIED CARD OF 'wittingtop.TopProductLogics'. -/
def topProductLogicsCard : Claim7 := { stood := { row := topProductLogicsRow, standIns := [], harness := (true, "4e34b9e698c2fc5426eed3c2ebc783a8939c02ec50d6a746c958e931d562f9ee"), looks := false }, kinds := [], alts := [], laidByText := true, laidKinds := [.data], laidTests := true, laidLooks := .later }
def TopProductLogicsCardSaid : Prop := Claim7.holds Tryd.pinned (.plain (OpenSpec.ofChange topProductLogicsSpec)) topProductLogicsCard

/-- THE SECOND FORM's CARD OF 'wittinglaw23.FilterLemma'. -/
def filterLemmaUptoCard : Claim7 := { stood := { row := filterLemmaUptoRow, standIns := [], harness := (true, "4e34b9e698c2fc5426eed3c2ebc783a8939c02ec50d6a746c958e931d562f9ee"), looks := false }, kinds := [], alts := [], laidByText := true, laidKinds := [.data], laidTests := true, laidLooks := .later }
def FilterLemmaUptoCardSaid : Prop := Claim7.holds Tryd.pinned (.plain (OpenSpec.upto filterLemmaSpec)) filterLemmaUptoCard

/-- THE SECOND FORM's CARD OF 'wittinglaw23.FilterFrames'. -/
def filterFramesUptoCard : Claim7 := { stood := { row := filterFramesUptoRow, standIns := [], harness := (true, "4e34b9e698c2fc5426eed3c2ebc783a8939c02ec50d6a746c958e931d562f9ee"), looks := false }, kinds := [], alts := [], laidByText := true, laidKinds := [.data], laidTests := true, laidLooks := .later }
def FilterFramesUptoCardSaid : Prop := Claim7.holds Tryd.pinned (.plain (OpenSpec.upto filterFramesSpec)) filterFramesUptoCard

/-- THE SECOND FORM's CARD OF 'wittinglaw23.FilterSizes'. -/
def filterSizesUptoCard : Claim7 := { stood := { row := filterSizesUptoRow, standIns := [], harness := (true, "4e34b9e698c2fc5426eed3c2ebc783a8939c02ec50d6a746c958e931d562f9ee"), looks := false }, kinds := [], alts := [], laidByText := true, laidKinds := [.data], laidTests := true, laidLooks := .later }
def FilterSizesUptoCardSaid : Prop := Claim7.holds Tryd.pinned (.plain (OpenSpec.upto filterSizesSpec)) filterSizesUptoCard

/-- THE SECOND FORM's CARD OF 'wittingtop.TopRestrictLogics'. -/
def topRestrictLogicsUptoCard : Claim7 := { stood := { row := topRestrictLogicsUptoRow, standIns := [], harness := (true, "4e34b9e698c2fc5426eed3c2ebc783a8939c02ec50d6a746c958e931d562f9ee"), looks := false }, kinds := [], alts := [], laidByText := true, laidKinds := [.data], laidTests := true, laidLooks := .later }
def TopRestrictLogicsUptoCardSaid : Prop := Claim7.holds Tryd.pinned (.plain (OpenSpec.upto topRestrictLogicsSpec)) topRestrictLogicsUptoCard

/-- THE SECOND FORM's CARD OF 'wittingtop.TopProductLogics'. -/
def topProductLogicsUptoCard : Claim7 := { stood := { row := topProductLogicsUptoRow, standIns := [], harness := (true, "4e34b9e698c2fc5426eed3c2ebc783a8939c02ec50d6a746c958e931d562f9ee"), looks := false }, kinds := [], alts := [], laidByText := true, laidKinds := [.data], laidTests := true, laidLooks := .later }
def TopProductLogicsUptoCardSaid : Prop := Claim7.holds Tryd.pinned (.plain (OpenSpec.upto topProductLogicsSpec)) topProductLogicsUptoCard
end Rows
end Go.Proofs.YtbeaagnahldefaaDoor
