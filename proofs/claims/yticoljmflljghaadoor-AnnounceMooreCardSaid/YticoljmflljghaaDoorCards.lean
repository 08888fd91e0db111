/-
  DERIVED. GIVEN WITH THE SEED: THE CARDS: each row of YticoljmflljghaaDoorRows.lean that lists a variable, with what it lists TIED to the program's text (the seventh form; the later family's looks); each row that meets fmt, with fmt's text TOLD by the authors' own Lean function (tested against real Go, not proved from fmt's source: count such statements apart). THE CARD IS WHAT COUNTS. Prove the row's statement (the work); the ties are given (YticoljmflljghaaDoorTie.lean); close each card by the builder's one call (the guide's Derived/Test/ToyasCard.lean, 'card_holds'). Laid BY PROGRAM, IN A SANDBOX (cutbox-door.mjs). By AI agents, Wed Nov 11 2026. No macro, syntax, notation, axiom, sorry.
-/
import Derived.Test.YticoljmflljghaaDoorRows
import GoSem.ClaimSeven
namespace Go.Proofs.YticoljmflljghaaDoor
namespace Rows

/-- THE TIED CARD OF 'wittinglaw25.AnnounceMoore'. -/
def announceMooreCard : Claim7 := { stood := { row := announceMooreRow, standIns := [], harness := (true, "bfc9cf39f4916f8cdba97181050ae874bab3cc17f0a05f25e3554b4a33c5c255"), looks := false }, kinds := [], alts := [], laidByText := true, laidKinds := [.data], laidTests := true, laidLooks := .later }
def AnnounceMooreCardSaid : Prop := Claim7.holds Tryd.pinned (.plain (OpenSpec.ofChange announceMooreSpec)) announceMooreCard

/-- THE TIED CARD OF 'wittinglaw25.AnnounceMerges'. -/
def announceMergesCard : Claim7 := { stood := { row := announceMergesRow, standIns := [], harness := (true, "bfc9cf39f4916f8cdba97181050ae874bab3cc17f0a05f25e3554b4a33c5c255"), looks := false }, kinds := [], alts := [], laidByText := true, laidKinds := [.data], laidTests := true, laidLooks := .later }
def AnnounceMergesCardSaid : Prop := Claim7.holds Tryd.pinned (.plain (OpenSpec.ofChange announceMergesSpec)) announceMergesCard

/-- THE TIED CARD OF 'wittinglaw25.AnnounceRests'. -/
def announceRestsCard : Claim7 := { stood := { row := announceRestsRow, standIns := [], harness := (true, "bfc9cf39f4916f8cdba97181050ae874bab3cc17f0a05f25e3554b4a33c5c255"), looks := false }, kinds := [], alts := [], laidByText := true, laidKinds := [.data], laidTests := true, laidLooks := .later }
def AnnounceRestsCardSaid : Prop := Claim7.holds Tryd.pinned (.plain (OpenSpec.ofChange announceRestsSpec)) announceRestsCard

/-- THE TIED CARD OF 'wittinglaw25.AnnounceSplits'. -/
def announceSplitsCard : Claim7 := { stood := { row := announceSplitsRow, standIns := [], harness := (true, "bfc9cf39f4916f8cdba97181050ae874bab3cc17f0a05f25e3554b4a33c5c255"), looks := false }, kinds := [], alts := [], laidByText := true, laidKinds := [.data], laidTests := true, laidLooks := .later }
def AnnounceSplitsCardSaid : Prop := Claim7.holds Tryd.pinned (.plain (OpenSpec.ofChange announceSplitsSpec)) announceSplitsCard

/-- THE TIED CARD OF 'wittinglaw25.AnnounceFacts'. -/
def announceFactsCard : Claim7 := { stood := { row := announceFactsRow, standIns := [], harness := (true, "bfc9cf39f4916f8cdba97181050ae874bab3cc17f0a05f25e3554b4a33c5c255"), looks := false }, kinds := [], alts := [], laidByText := true, laidKinds := [.data], laidTests := true, laidLooks := .later }
def AnnounceFactsCardSaid : Prop := Claim7.holds Tryd.pinned (.plain (OpenSpec.ofChange announceFactsSpec)) announceFactsCard

/-- THE SECOND FORM's CARD OF 'wittinglaw25.AnnounceMoore'. -/
def announceMooreUptoCard : Claim7 := { stood := { row := announceMooreUptoRow, standIns := [], harness := (true, "bfc9cf39f4916f8cdba97181050ae874bab3cc17f0a05f25e3554b4a33c5c255"), looks := false }, kinds := [], alts := [], laidByText := true, laidKinds := [.data], laidTests := true, laidLooks := .later }
def AnnounceMooreUptoCardSaid : Prop := Claim7.holds Tryd.pinned (.plain (OpenSpec.upto announceMooreSpec)) announceMooreUptoCard

/-- THE SECOND FORM's CARD OF 'wittinglaw25.AnnounceMerges'. -/
def announceMergesUptoCard : Claim7 := { stood := { row := announceMergesUptoRow, standIns := [], harness := (true, "bfc9cf39f4916f8cdba97181050ae874bab3cc17f0a05f25e3554b4a33c5c255"), looks := false }, kinds := [], alts := [], laidByText := true, laidKinds := [.data], laidTests := true, laidLooks := .later }
def AnnounceMergesUptoCardSaid : Prop := Claim7.holds Tryd.pinned (.plain (OpenSpec.upto announceMergesSpec)) announceMergesUptoCard

/-- THE SECOND FORM's CARD OF 'wittinglaw25.AnnounceRests'. -/
def announceRestsUptoCard : Claim7 := { stood := { row := announceRestsUptoRow, standIns := [], harness := (true, "bfc9cf39f4916f8cdba97181050ae874bab3cc17f0a05f25e3554b4a33c5c255"), looks := false }, kinds := [], alts := [], laidByText := true, laidKinds := [.data], laidTests := true, laidLooks := .later }
def AnnounceRestsUptoCardSaid : Prop := Claim7.holds Tryd.pinned (.plain (OpenSpec.upto announceRestsSpec)) announceRestsUptoCard

/-- THE SECOND FORM's CARD OF 'wittinglaw25.AnnounceSplits'. -/
def announceSplitsUptoCard : Claim7 := { stood := { row := announceSplitsUptoRow, standIns := [], harness := (true, "bfc9cf39f4916f8cdba97181050ae874bab3cc17f0a05f25e3554b4a33c5c255"), looks := false }, kinds := [], alts := [], laidByText := true, laidKinds := [.data], laidTests := true, laidLooks := .later }
def AnnounceSplitsUptoCardSaid : Prop := Claim7.holds Tryd.pinned (.plain (OpenSpec.upto announceSplitsSpec)) announceSplitsUptoCard

/-- THE SECOND FORM's CARD OF 'wittinglaw25.AnnounceFacts'. -/
def announceFactsUptoCard : Claim7 := { stood := { row := announceFactsUptoRow, standIns := [], harness := (true, "bfc9cf39f4916f8cdba97181050ae874bab3cc17f0a05f25e3554b4a33c5c255"), looks := false }, kinds := [], alts := [], laidByText := true, laidKinds := [.data], laidTests := true, laidLooks := .later }
def AnnounceFactsUptoCardSaid : Prop := Claim7.holds Tryd.pinned (.plain (OpenSpec.upto announceFactsSpec)) announceFactsUptoCard
end Rows
end Go.Proofs.YticoljmflljghaaDoor
