/-
  DERIVED. GIVEN WITH THE SEED: THE CARDS: each row of YtflnfcmbalhpnaaDoorRows.lean that lists a variable, with what it lists TIED to the program's text (the seventh form; the later family's looks); each row that meets fmt, with fmt's text TOLD by the authors' own Lean function (tested against real Go, not proved from fmt's source: count such statements apart). THE CARD IS WHAT COUNTS. Prove the row's statement (the work); the ties are given (YtflnfcmbalhpnaaDoorTie.lean); close each card by the builder's one call (the guide's Derived/Test/ToyasCard.lean, 'card_holds'). Laid BY PROGRAM, IN A SANDBOX (cutbox-door.mjs). By AI agents, Wed Nov 11 2026. No macro, syntax, notation, axiom, sorry.
-/
import Derived.Test.YtflnfcmbalhpnaaDoorRows
import GoSem.ClaimSeven
namespace Go.Proofs.YtflnfcmbalhpnaaDoor
namespace Rows

/-- THE TIED CARD OF 'wittingtop.TopCountIsAnnounced'. -/
def topCountIsAnnouncedCard : Claim7 := { stood := { row := topCountIsAnnouncedRow, standIns := [], harness := (true, "24176a533124cf074f9891eae618656a9b93971a454663258e3e967c7dd5ee9a"), looks := false }, kinds := [], alts := [], laidByText := true, laidKinds := [.data], laidTests := true, laidLooks := .later }
def TopCountIsAnnouncedCardSaid : Prop := Claim7.holds Tryd.pinned (.plain (OpenSpec.ofChange topCountIsAnnouncedSpec)) topCountIsAnnouncedCard

/-- THE SECOND FORM's CARD OF 'wittingtop.TopCountIsAnnounced'. -/
def topCountIsAnnouncedUptoCard : Claim7 := { stood := { row := topCountIsAnnouncedUptoRow, standIns := [], harness := (true, "24176a533124cf074f9891eae618656a9b93971a454663258e3e967c7dd5ee9a"), looks := false }, kinds := [], alts := [], laidByText := true, laidKinds := [.data], laidTests := true, laidLooks := .later }
def TopCountIsAnnouncedUptoCardSaid : Prop := Claim7.holds Tryd.pinned (.plain (OpenSpec.upto topCountIsAnnouncedSpec)) topCountIsAnnouncedUptoCard
end Rows
end Go.Proofs.YtflnfcmbalhpnaaDoor
