/-
  DERIVED. GIVEN WITH THE SEED: THE CARDS: each row of YticoljmflljghaaGreatDoorRows.lean that lists a variable, with what it lists TIED to the program's text (the seventh form; the later family's looks); each row that meets fmt, with fmt's text TOLD by the authors' own Lean function (tested against real Go, not proved from fmt's source: count such statements apart). THE CARD IS WHAT COUNTS. Prove the row's statement (the work); the ties are given (YticoljmflljghaaGreatDoorTie.lean); close each card by the builder's one call (the guide's Derived/Test/ToyasCard.lean, 'card_holds'). Laid BY PROGRAM, IN A SANDBOX (cutbox-door.mjs). By AI agents, Wed Nov 11 2026. No macro, syntax, notation, axiom, sorry.
-/
import Derived.Test.YticoljmflljghaaGreatDoorRows
import GoSem.ClaimSeven
namespace Go.Proofs.YticoljmflljghaaGreatDoor
namespace Rows

/-- THE TIED CARD OF 'wittinglaw25.AnnounceUpdates'. -/
def announceUpdatesCard : Claim7 := { stood := { row := announceUpdatesRow, standIns := [], harness := (true, "1c4e3cbb28375c243f6a9416d12932460cef2151406b3da433218e692a49cb41"), looks := false }, kinds := [], alts := [], laidByText := true, laidKinds := [.data], laidTests := true, laidLooks := .later }
def AnnounceUpdatesCardSaid : Prop := Claim7.holds Tryz.pinned (.plain (OpenSpec.ofChange announceUpdatesSpec)) announceUpdatesCard

/-- THE TIED CARD OF 'wittinglaw25.AnnounceRuns'. -/
def announceRunsCard : Claim7 := { stood := { row := announceRunsRow, standIns := [], harness := (true, "1c4e3cbb28375c243f6a9416d12932460cef2151406b3da433218e692a49cb41"), looks := false }, kinds := [], alts := [], laidByText := true, laidKinds := [.data], laidTests := true, laidLooks := .later }
def AnnounceRunsCardSaid : Prop := Claim7.holds Tryz.pinned (.plain (OpenSpec.ofChange announceRunsSpec)) announceRunsCard

/-- THE TIED CARD OF 'wittinglaw25.AnnounceChanges'. -/
def announceChangesCard : Claim7 := { stood := { row := announceChangesRow, standIns := [], harness := (true, "1c4e3cbb28375c243f6a9416d12932460cef2151406b3da433218e692a49cb41"), looks := false }, kinds := [], alts := [], laidByText := true, laidKinds := [.data], laidTests := true, laidLooks := .later }
def AnnounceChangesCardSaid : Prop := Claim7.holds Tryz.pinned (.plain (OpenSpec.ofChange announceChangesSpec)) announceChangesCard

/-- THE SECOND FORM's CARD OF 'wittinglaw25.AnnounceUpdates'. -/
def announceUpdatesUptoCard : Claim7 := { stood := { row := announceUpdatesUptoRow, standIns := [], harness := (true, "1c4e3cbb28375c243f6a9416d12932460cef2151406b3da433218e692a49cb41"), looks := false }, kinds := [], alts := [], laidByText := true, laidKinds := [.data], laidTests := true, laidLooks := .later }
def AnnounceUpdatesUptoCardSaid : Prop := Claim7.holds Tryz.pinned (.plain (OpenSpec.upto announceUpdatesSpec)) announceUpdatesUptoCard

/-- THE SECOND FORM's CARD OF 'wittinglaw25.AnnounceRuns'. -/
def announceRunsUptoCard : Claim7 := { stood := { row := announceRunsUptoRow, standIns := [], harness := (true, "1c4e3cbb28375c243f6a9416d12932460cef2151406b3da433218e692a49cb41"), looks := false }, kinds := [], alts := [], laidByText := true, laidKinds := [.data], laidTests := true, laidLooks := .later }
def AnnounceRunsUptoCardSaid : Prop := Claim7.holds Tryz.pinned (.plain (OpenSpec.upto announceRunsSpec)) announceRunsUptoCard

/-- THE SECOND FORM's CARD OF 'wittinglaw25.AnnounceChanges'. -/
def announceChangesUptoCard : Claim7 := { stood := { row := announceChangesUptoRow, standIns := [], harness := (true, "1c4e3cbb28375c243f6a9416d12932460cef2151406b3da433218e692a49cb41"), looks := false }, kinds := [], alts := [], laidByText := true, laidKinds := [.data], laidTests := true, laidLooks := .later }
def AnnounceChangesUptoCardSaid : Prop := Claim7.holds Tryz.pinned (.plain (OpenSpec.upto announceChangesSpec)) announceChangesUptoCard
end Rows
end Go.Proofs.YticoljmflljghaaGreatDoor
