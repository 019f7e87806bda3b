/-
  DERIVED. GIVEN WITH THE SEED: THE CARDS: each row of YtfofapggmoibkaaGreatDoorRows.lean that lists a variable, with what it lists TIED to the program's text (the seventh form; the later family's looks); each row that meets fmt, with fmt's text TOLD by the authors' own Lean function (tested against real Go, not proved from fmt's source: count such statements apart). THE CARD IS WHAT COUNTS. Prove the row's statement (the work); the ties are given (YtfofapggmoibkaaGreatDoorTie.lean); close each card by the builder's one call (the guide's Derived/Test/ToyasCard.lean, 'card_holds'). Laid BY PROGRAM, IN A SANDBOX (cutbox-door.mjs). By AI agents, Wed Nov 11 2026. No macro, syntax, notation, axiom, sorry.
-/
import Derived.Test.YtfofapggmoibkaaGreatDoorRows
import GoSem.ClaimSeven
namespace Go.Proofs.YtfofapggmoibkaaGreatDoor
namespace Rows

/-- THE TIED CARD OF 'modcertlaw49.ObjectsBytes'. -/
def objectsBytesCard : Claim7 := { stood := { row := objectsBytesRow, standIns := [], harness := (true, "945a1b05433e4eb8e9c97187d6650688ce7c46a5b2f573401dab03a373804301"), looks := false }, kinds := [], alts := [], laidByText := true, laidKinds := [.data, .pinned], laidTests := true, laidLooks := .later }
def ObjectsBytesCardSaid : Prop := Claim7.holds Tryz.pinned (.plain (OpenSpec.ofChange objectsBytesSpec)) objectsBytesCard

/-- THE TIED CARD OF 'modcertlaw49.ObjectsArchives'. -/
def objectsArchivesCard : Claim7 := { stood := { row := objectsArchivesRow, standIns := [], harness := (true, "945a1b05433e4eb8e9c97187d6650688ce7c46a5b2f573401dab03a373804301"), looks := false }, kinds := [], alts := [], laidByText := true, laidKinds := [.data, .pinned], laidTests := true, laidLooks := .later }
def ObjectsArchivesCardSaid : Prop := Claim7.holds Tryz.pinned (.plain (OpenSpec.ofChange objectsArchivesSpec)) objectsArchivesCard

/-- THE TIED CARD OF 'modcertlaw49.ObjectsReturns'. -/
def objectsReturnsCard : Claim7 := { stood := { row := objectsReturnsRow, standIns := [], harness := (true, "945a1b05433e4eb8e9c97187d6650688ce7c46a5b2f573401dab03a373804301"), looks := false }, kinds := [], alts := [], laidByText := true, laidKinds := [.data, .pinned], laidTests := true, laidLooks := .later }
def ObjectsReturnsCardSaid : Prop := Claim7.holds Tryz.pinned (.plain (OpenSpec.ofChange objectsReturnsSpec)) objectsReturnsCard

/-- THE TIED CARD OF 'modcertlaw49.ObjectsDrops'. -/
def objectsDropsCard : Claim7 := { stood := { row := objectsDropsRow, standIns := [], harness := (true, "945a1b05433e4eb8e9c97187d6650688ce7c46a5b2f573401dab03a373804301"), looks := false }, kinds := [], alts := [], laidByText := true, laidKinds := [.data, .pinned], laidTests := true, laidLooks := .later }
def ObjectsDropsCardSaid : Prop := Claim7.holds Tryz.pinned (.plain (OpenSpec.ofChange objectsDropsSpec)) objectsDropsCard

/-- THE TIED CARD OF 'modcertlaw49.ObjectsOrder'. -/
def objectsOrderCard : Claim7 := { stood := { row := objectsOrderRow, standIns := [], harness := (true, "945a1b05433e4eb8e9c97187d6650688ce7c46a5b2f573401dab03a373804301"), looks := false }, kinds := [], alts := [], laidByText := true, laidKinds := [.data, .pinned], laidTests := true, laidLooks := .later }
def ObjectsOrderCardSaid : Prop := Claim7.holds Tryz.pinned (.plain (OpenSpec.ofChange objectsOrderSpec)) objectsOrderCard

/-- THE TIED CARD OF 'modcertlaw49.ObjectsClosed'. -/
def objectsClosedCard : Claim7 := { stood := { row := objectsClosedRow, standIns := [], harness := (true, "945a1b05433e4eb8e9c97187d6650688ce7c46a5b2f573401dab03a373804301"), looks := false }, kinds := [], alts := [], laidByText := true, laidKinds := [.data, .pinned], laidTests := true, laidLooks := .later }
def ObjectsClosedCardSaid : Prop := Claim7.holds Tryz.pinned (.plain (OpenSpec.ofChange objectsClosedSpec)) objectsClosedCard

/-- THE SECOND FORM's CARD OF 'modcertlaw49.ObjectsBytes'. -/
def objectsBytesUptoCard : Claim7 := { stood := { row := objectsBytesUptoRow, standIns := [], harness := (true, "945a1b05433e4eb8e9c97187d6650688ce7c46a5b2f573401dab03a373804301"), looks := false }, kinds := [], alts := [], laidByText := true, laidKinds := [.data, .pinned], laidTests := true, laidLooks := .later }
def ObjectsBytesUptoCardSaid : Prop := Claim7.holds Tryz.pinned (.plain (OpenSpec.upto objectsBytesSpec)) objectsBytesUptoCard

/-- THE SECOND FORM's CARD OF 'modcertlaw49.ObjectsArchives'. -/
def objectsArchivesUptoCard : Claim7 := { stood := { row := objectsArchivesUptoRow, standIns := [], harness := (true, "945a1b05433e4eb8e9c97187d6650688ce7c46a5b2f573401dab03a373804301"), looks := false }, kinds := [], alts := [], laidByText := true, laidKinds := [.data, .pinned], laidTests := true, laidLooks := .later }
def ObjectsArchivesUptoCardSaid : Prop := Claim7.holds Tryz.pinned (.plain (OpenSpec.upto objectsArchivesSpec)) objectsArchivesUptoCard

/-- THE SECOND FORM's CARD OF 'modcertlaw49.ObjectsReturns'. -/
def objectsReturnsUptoCard : Claim7 := { stood := { row := objectsReturnsUptoRow, standIns := [], harness := (true, "945a1b05433e4eb8e9c97187d6650688ce7c46a5b2f573401dab03a373804301"), looks := false }, kinds := [], alts := [], laidByText := true, laidKinds := [.data, .pinned], laidTests := true, laidLooks := .later }
def ObjectsReturnsUptoCardSaid : Prop := Claim7.holds Tryz.pinned (.plain (OpenSpec.upto objectsReturnsSpec)) objectsReturnsUptoCard

/-- THE SECOND FORM's CARD OF 'modcertlaw49.ObjectsDrops'. -/
def objectsDropsUptoCard : Claim7 := { stood := { row := objectsDropsUptoRow, standIns := [], harness := (true, "945a1b05433e4eb8e9c97187d6650688ce7c46a5b2f573401dab03a373804301"), looks := false }, kinds := [], alts := [], laidByText := true, laidKinds := [.data, .pinned], laidTests := true, laidLooks := .later }
def ObjectsDropsUptoCardSaid : Prop := Claim7.holds Tryz.pinned (.plain (OpenSpec.upto objectsDropsSpec)) objectsDropsUptoCard

/-- THE SECOND FORM's CARD OF 'modcertlaw49.ObjectsOrder'. -/
def objectsOrderUptoCard : Claim7 := { stood := { row := objectsOrderUptoRow, standIns := [], harness := (true, "945a1b05433e4eb8e9c97187d6650688ce7c46a5b2f573401dab03a373804301"), looks := false }, kinds := [], alts := [], laidByText := true, laidKinds := [.data, .pinned], laidTests := true, laidLooks := .later }
def ObjectsOrderUptoCardSaid : Prop := Claim7.holds Tryz.pinned (.plain (OpenSpec.upto objectsOrderSpec)) objectsOrderUptoCard

/-- THE SECOND FORM's CARD OF 'modcertlaw49.ObjectsClosed'. -/
def objectsClosedUptoCard : Claim7 := { stood := { row := objectsClosedUptoRow, standIns := [], harness := (true, "945a1b05433e4eb8e9c97187d6650688ce7c46a5b2f573401dab03a373804301"), looks := false }, kinds := [], alts := [], laidByText := true, laidKinds := [.data, .pinned], laidTests := true, laidLooks := .later }
def ObjectsClosedUptoCardSaid : Prop := Claim7.holds Tryz.pinned (.plain (OpenSpec.upto objectsClosedSpec)) objectsClosedUptoCard
end Rows
end Go.Proofs.YtfofapggmoibkaaGreatDoor
