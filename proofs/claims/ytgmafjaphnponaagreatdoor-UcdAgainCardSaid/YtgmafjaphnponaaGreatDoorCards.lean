/-
  DERIVED. GIVEN WITH THE SEED: THE CARDS: each row of YtgmafjaphnponaaGreatDoorRows.lean that lists a variable, with what it lists TIED to the program's text (the seventh form; the later family's looks); each row that meets fmt, with fmt's text TOLD by the authors' own Lean function (tested against real Go, not proved from fmt's source: count such statements apart). THE CARD IS WHAT COUNTS. Prove the row's statement (the work); the ties are given (YtgmafjaphnponaaGreatDoorTie.lean); close each card by the builder's one call (the guide's Derived/Test/ToyasCard.lean, 'card_holds'). Laid BY PROGRAM, IN A SANDBOX (cutbox-door.mjs). By AI agents, Wed Nov 11 2026. No macro, syntax, notation, axiom, sorry.
-/
import Derived.Test.YtgmafjaphnponaaGreatDoorRows
import GoSem.ClaimSeven
namespace Go.Proofs.YtgmafjaphnponaaGreatDoor
namespace Rows

/-- THE TIED CARD OF 'dovetaillaw04.UcdAgain'. -/
def ucdAgainCard : Claim7 := { stood := { row := ucdAgainRow, standIns := [], harness := (true, "4f1e8baf767aa00e3932c3fb241f69cfc18360b1e52ba1c5c3727c6a7abf3aac"), looks := true }, kinds := [], alts := [], laidByText := true, laidKinds := [.data, .data, .data, .data, .sentinel, .sentinel, .pinned, .pinned], laidTests := true, laidLooks := .later }
def UcdAgainCardSaid : Prop := Claim7.holds Tryz.pinned (.plain (OpenSpec.ofChange ucdAgainSpec)) ucdAgainCard

/-- THE TIED CARD OF 'dovetaillaw06.TableAgain'. -/
def tableAgainCard : Claim7 := { stood := { row := tableAgainRow, standIns := [], harness := (true, "4f1e8baf767aa00e3932c3fb241f69cfc18360b1e52ba1c5c3727c6a7abf3aac"), looks := true }, kinds := [], alts := [], laidByText := true, laidKinds := [.data, .data, .data, .data, .sentinel, .sentinel, .pinned, .pinned], laidTests := true, laidLooks := .later }
def TableAgainCardSaid : Prop := Claim7.holds Tryz.pinned (.plain (OpenSpec.ofChange tableAgainSpec)) tableAgainCard

/-- THE TIED CARD OF 'dovetaillaw07.MatchSingles'. -/
def matchSinglesCard : Claim7 := { stood := { row := matchSinglesRow, standIns := [], harness := (true, "4f1e8baf767aa00e3932c3fb241f69cfc18360b1e52ba1c5c3727c6a7abf3aac"), looks := true }, kinds := [], alts := [], laidByText := true, laidKinds := [.data, .data, .data, .data, .sentinel, .sentinel, .pinned, .pinned], laidTests := true, laidLooks := .later }
def MatchSinglesCardSaid : Prop := Claim7.holds Tryz.pinned (.plain (OpenSpec.ofChange matchSinglesSpec)) matchSinglesCard

/-- THE TIED CARD OF 'dovetaillaw07.MatchTails'. -/
def matchTailsCard : Claim7 := { stood := { row := matchTailsRow, standIns := [], harness := (true, "4f1e8baf767aa00e3932c3fb241f69cfc18360b1e52ba1c5c3727c6a7abf3aac"), looks := true }, kinds := [], alts := [], laidByText := true, laidKinds := [.data, .data, .data, .data, .sentinel, .sentinel, .pinned, .pinned], laidTests := true, laidLooks := .later }
def MatchTailsCardSaid : Prop := Claim7.holds Tryz.pinned (.plain (OpenSpec.ofChange matchTailsSpec)) matchTailsCard

/-- THE SECOND FORM's CARD OF 'dovetaillaw04.UcdAgain'. -/
def ucdAgainUptoCard : Claim7 := { stood := { row := ucdAgainUptoRow, standIns := [], harness := (true, "4f1e8baf767aa00e3932c3fb241f69cfc18360b1e52ba1c5c3727c6a7abf3aac"), looks := true }, kinds := [], alts := [], laidByText := true, laidKinds := [.data, .data, .data, .data, .sentinel, .sentinel, .pinned, .pinned], laidTests := true, laidLooks := .later }
def UcdAgainUptoCardSaid : Prop := Claim7.holds Tryz.pinned (.plain (OpenSpec.upto ucdAgainSpec)) ucdAgainUptoCard

/-- THE SECOND FORM's CARD OF 'dovetaillaw06.TableAgain'. -/
def tableAgainUptoCard : Claim7 := { stood := { row := tableAgainUptoRow, standIns := [], harness := (true, "4f1e8baf767aa00e3932c3fb241f69cfc18360b1e52ba1c5c3727c6a7abf3aac"), looks := true }, kinds := [], alts := [], laidByText := true, laidKinds := [.data, .data, .data, .data, .sentinel, .sentinel, .pinned, .pinned], laidTests := true, laidLooks := .later }
def TableAgainUptoCardSaid : Prop := Claim7.holds Tryz.pinned (.plain (OpenSpec.upto tableAgainSpec)) tableAgainUptoCard

/-- THE SECOND FORM's CARD OF 'dovetaillaw07.MatchSingles'. -/
def matchSinglesUptoCard : Claim7 := { stood := { row := matchSinglesUptoRow, standIns := [], harness := (true, "4f1e8baf767aa00e3932c3fb241f69cfc18360b1e52ba1c5c3727c6a7abf3aac"), looks := true }, kinds := [], alts := [], laidByText := true, laidKinds := [.data, .data, .data, .data, .sentinel, .sentinel, .pinned, .pinned], laidTests := true, laidLooks := .later }
def MatchSinglesUptoCardSaid : Prop := Claim7.holds Tryz.pinned (.plain (OpenSpec.upto matchSinglesSpec)) matchSinglesUptoCard

/-- THE SECOND FORM's CARD OF 'dovetaillaw07.MatchTails'. -/
def matchTailsUptoCard : Claim7 := { stood := { row := matchTailsUptoRow, standIns := [], harness := (true, "4f1e8baf767aa00e3932c3fb241f69cfc18360b1e52ba1c5c3727c6a7abf3aac"), looks := true }, kinds := [], alts := [], laidByText := true, laidKinds := [.data, .data, .data, .data, .sentinel, .sentinel, .pinned, .pinned], laidTests := true, laidLooks := .later }
def MatchTailsUptoCardSaid : Prop := Claim7.holds Tryz.pinned (.plain (OpenSpec.upto matchTailsSpec)) matchTailsUptoCard
end Rows
end Go.Proofs.YtgmafjaphnponaaGreatDoor
