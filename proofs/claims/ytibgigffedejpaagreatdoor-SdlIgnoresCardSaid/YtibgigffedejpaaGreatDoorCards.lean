/-
  DERIVED. GIVEN WITH THE SEED: THE CARDS: each row of YtibgigffedejpaaGreatDoorRows.lean that lists a variable, with what it lists TIED to the program's text (the seventh form; the later family's looks); each row that meets fmt, with fmt's text TOLD by the authors' own Lean function (tested against real Go, not proved from fmt's source: count such statements apart). THE CARD IS WHAT COUNTS. Prove the row's statement (the work); the ties are given (YtibgigffedejpaaGreatDoorTie.lean); close each card by the builder's one call (the guide's Derived/Test/ToyasCard.lean, 'card_holds'). Laid BY PROGRAM, IN A SANDBOX (cutbox-door.mjs). By AI agents, Wed Nov 11 2026. No macro, syntax, notation, axiom, sorry.
-/
import Derived.Test.YtibgigffedejpaaGreatDoorRows
import GoSem.ClaimSeven
namespace Go.Proofs.YtibgigffedejpaaGreatDoor
namespace Rows

/-- THE TIED CARD OF 'rhizomelaw08.SdlReads'. -/
def sdlReadsCard : Claim7 := { stood := { row := sdlReadsRow, standIns := [], harness := (true, "4e80e973c0801bbaec6d34823e4b4dc081c3591c6d2f6d681a191ef7e798279d"), looks := true }, kinds := [], alts := [], laidByText := true, laidKinds := [.data, .data, .data, .data, .sentinel, .sentinel, .pinned], laidTests := true, laidLooks := .later }
def SdlReadsCardSaid : Prop := Claim7.holds Tryz.pinned (.plain (OpenSpec.ofChange sdlReadsSpec)) sdlReadsCard

/-- THE TIED CARD OF 'rhizomelaw08.SdlTells'. -/
def sdlTellsCard : Claim7 := { stood := { row := sdlTellsRow, standIns := [], harness := (true, "4e80e973c0801bbaec6d34823e4b4dc081c3591c6d2f6d681a191ef7e798279d"), looks := true }, kinds := [], alts := [], laidByText := true, laidKinds := [.data, .data, .data, .data, .sentinel, .sentinel, .pinned], laidTests := true, laidLooks := .later }
def SdlTellsCardSaid : Prop := Claim7.holds Tryz.pinned (.plain (OpenSpec.ofChange sdlTellsSpec)) sdlTellsCard

/-- THE TIED CARD OF 'rhizomelaw08.SdlBack'. -/
def sdlBackCard : Claim7 := { stood := { row := sdlBackRow, standIns := [], harness := (true, "4e80e973c0801bbaec6d34823e4b4dc081c3591c6d2f6d681a191ef7e798279d"), looks := true }, kinds := [], alts := [], laidByText := true, laidKinds := [.data, .data, .data, .data, .sentinel, .sentinel, .pinned], laidTests := true, laidLooks := .later }
def SdlBackCardSaid : Prop := Claim7.holds Tryz.pinned (.plain (OpenSpec.ofChange sdlBackSpec)) sdlBackCard

/-- THE TIED CARD OF 'rhizomelaw08.SdlIgnores'. -/
def sdlIgnoresCard : Claim7 := { stood := { row := sdlIgnoresRow, standIns := [], harness := (true, "4e80e973c0801bbaec6d34823e4b4dc081c3591c6d2f6d681a191ef7e798279d"), looks := true }, kinds := [], alts := [], laidByText := true, laidKinds := [.data, .data, .data, .data, .sentinel, .sentinel, .pinned], laidTests := true, laidLooks := .later }
def SdlIgnoresCardSaid : Prop := Claim7.holds Tryz.pinned (.plain (OpenSpec.ofChange sdlIgnoresSpec)) sdlIgnoresCard

/-- THE TIED CARD OF 'rhizomelaw08.SdlJoins'. -/
def sdlJoinsCard : Claim7 := { stood := { row := sdlJoinsRow, standIns := [], harness := (true, "4e80e973c0801bbaec6d34823e4b4dc081c3591c6d2f6d681a191ef7e798279d"), looks := true }, kinds := [], alts := [], laidByText := true, laidKinds := [.data, .data, .data, .data, .sentinel, .sentinel, .pinned], laidTests := true, laidLooks := .later }
def SdlJoinsCardSaid : Prop := Claim7.holds Tryz.pinned (.plain (OpenSpec.ofChange sdlJoinsSpec)) sdlJoinsCard

/-- THE SECOND FORM's CARD OF 'rhizomelaw08.SdlReads'. -/
def sdlReadsUptoCard : Claim7 := { stood := { row := sdlReadsUptoRow, standIns := [], harness := (true, "4e80e973c0801bbaec6d34823e4b4dc081c3591c6d2f6d681a191ef7e798279d"), looks := true }, kinds := [], alts := [], laidByText := true, laidKinds := [.data, .data, .data, .data, .sentinel, .sentinel, .pinned], laidTests := true, laidLooks := .later }
def SdlReadsUptoCardSaid : Prop := Claim7.holds Tryz.pinned (.plain (OpenSpec.upto sdlReadsSpec)) sdlReadsUptoCard

/-- THE SECOND FORM's CARD OF 'rhizomelaw08.SdlTells'. -/
def sdlTellsUptoCard : Claim7 := { stood := { row := sdlTellsUptoRow, standIns := [], harness := (true, "4e80e973c0801bbaec6d34823e4b4dc081c3591c6d2f6d681a191ef7e798279d"), looks := true }, kinds := [], alts := [], laidByText := true, laidKinds := [.data, .data, .data, .data, .sentinel, .sentinel, .pinned], laidTests := true, laidLooks := .later }
def SdlTellsUptoCardSaid : Prop := Claim7.holds Tryz.pinned (.plain (OpenSpec.upto sdlTellsSpec)) sdlTellsUptoCard

/-- THE SECOND FORM's CARD OF 'rhizomelaw08.SdlBack'. -/
def sdlBackUptoCard : Claim7 := { stood := { row := sdlBackUptoRow, standIns := [], harness := (true, "4e80e973c0801bbaec6d34823e4b4dc081c3591c6d2f6d681a191ef7e798279d"), looks := true }, kinds := [], alts := [], laidByText := true, laidKinds := [.data, .data, .data, .data, .sentinel, .sentinel, .pinned], laidTests := true, laidLooks := .later }
def SdlBackUptoCardSaid : Prop := Claim7.holds Tryz.pinned (.plain (OpenSpec.upto sdlBackSpec)) sdlBackUptoCard

/-- THE SECOND FORM's CARD OF 'rhizomelaw08.SdlIgnores'. -/
def sdlIgnoresUptoCard : Claim7 := { stood := { row := sdlIgnoresUptoRow, standIns := [], harness := (true, "4e80e973c0801bbaec6d34823e4b4dc081c3591c6d2f6d681a191ef7e798279d"), looks := true }, kinds := [], alts := [], laidByText := true, laidKinds := [.data, .data, .data, .data, .sentinel, .sentinel, .pinned], laidTests := true, laidLooks := .later }
def SdlIgnoresUptoCardSaid : Prop := Claim7.holds Tryz.pinned (.plain (OpenSpec.upto sdlIgnoresSpec)) sdlIgnoresUptoCard

/-- THE SECOND FORM's CARD OF 'rhizomelaw08.SdlJoins'. -/
def sdlJoinsUptoCard : Claim7 := { stood := { row := sdlJoinsUptoRow, standIns := [], harness := (true, "4e80e973c0801bbaec6d34823e4b4dc081c3591c6d2f6d681a191ef7e798279d"), looks := true }, kinds := [], alts := [], laidByText := true, laidKinds := [.data, .data, .data, .data, .sentinel, .sentinel, .pinned], laidTests := true, laidLooks := .later }
def SdlJoinsUptoCardSaid : Prop := Claim7.holds Tryz.pinned (.plain (OpenSpec.upto sdlJoinsSpec)) sdlJoinsUptoCard
end Rows
end Go.Proofs.YtibgigffedejpaaGreatDoor
