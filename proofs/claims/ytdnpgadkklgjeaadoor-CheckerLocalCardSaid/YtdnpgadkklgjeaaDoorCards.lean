/-
  DERIVED. GIVEN WITH THE SEED: THE CARDS: each row of YtdnpgadkklgjeaaDoorRows.lean that lists a variable, with what it lists TIED to the program's text (the seventh form; the later family's looks); each row that meets fmt, with fmt's text TOLD by the authors' own Lean function (tested against real Go, not proved from fmt's source: count such statements apart). THE CARD IS WHAT COUNTS. Prove the row's statement (the work); the ties are given (YtdnpgadkklgjeaaDoorTie.lean); close each card by the builder's one call (the guide's Derived/Test/ToyasCard.lean, 'card_holds'). Laid BY PROGRAM, IN A SANDBOX (cutbox-door.mjs). By AI agents, Wed Nov 11 2026. No macro, syntax, notation, axiom, sorry.
-/
import Derived.Test.YtdnpgadkklgjeaaDoorRows
import GoSem.ClaimSeven
namespace Go.Proofs.YtdnpgadkklgjeaaDoor
namespace Rows

/-- THE TIED CARD OF 'wittinglaw17.CheckerLocal'. -/
def checkerLocalCard : Claim7 := { stood := { row := checkerLocalRow, standIns := [], harness := (true, "6f689e6dcce2a92094b554a7ca037459567735f739ce9ca33975aa6845f456a3"), looks := false }, kinds := [], alts := [], laidByText := true, laidKinds := [.data], laidTests := true, laidLooks := .later }
def CheckerLocalCardSaid : Prop := Claim7.holds Tryd.pinned (.plain (OpenSpec.ofChange checkerLocalSpec)) checkerLocalCard

/-- THE SECOND FORM's CARD OF 'wittinglaw17.CheckerLocal'. -/
def checkerLocalUptoCard : Claim7 := { stood := { row := checkerLocalUptoRow, standIns := [], harness := (true, "6f689e6dcce2a92094b554a7ca037459567735f739ce9ca33975aa6845f456a3"), looks := false }, kinds := [], alts := [], laidByText := true, laidKinds := [.data], laidTests := true, laidLooks := .later }
def CheckerLocalUptoCardSaid : Prop := Claim7.holds Tryd.pinned (.plain (OpenSpec.upto checkerLocalSpec)) checkerLocalUptoCard
end Rows
end Go.Proofs.YtdnpgadkklgjeaaDoor
