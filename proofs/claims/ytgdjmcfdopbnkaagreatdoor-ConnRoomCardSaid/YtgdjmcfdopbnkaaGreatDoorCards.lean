/-
  DERIVED. GIVEN WITH THE SEED: THE CARDS: each row of YtgdjmcfdopbnkaaGreatDoorRows.lean that lists a variable, with what it lists TIED to the program's text (the seventh form; the later family's looks); each row that meets fmt, with fmt's text TOLD by the authors' own Lean function (tested against real Go, not proved from fmt's source: count such statements apart). THE CARD IS WHAT COUNTS. Prove the row's statement (the work); the ties are given (YtgdjmcfdopbnkaaGreatDoorTie.lean); close each card by the builder's one call (the guide's Derived/Test/ToyasCard.lean, 'card_holds'). Laid BY PROGRAM, IN A SANDBOX (cutbox-door.mjs). By AI agents, Wed Nov 11 2026. No macro, syntax, notation, axiom, sorry.
-/
import Derived.Test.YtgdjmcfdopbnkaaGreatDoorRows
import GoSem.ClaimSeven
namespace Go.Proofs.YtgdjmcfdopbnkaaGreatDoor
namespace Rows

/-- THE TIED CARD OF 'cellaretlaw21.ConnKnown'. -/
def connKnownCard : Claim7 := { stood := { row := connKnownRow, standIns := [], harness := (true, "fab9402da7074ba5ffe3d29ffd857a51c29f1d5a60e850653ee976300a31536c"), looks := true }, kinds := [], alts := [], laidByText := true, laidKinds := [.data, .data, .data, .data, .sentinel, .sentinel, .pinned], laidTests := true, laidLooks := .later }
def ConnKnownCardSaid : Prop := Claim7.holds Tryz.pinned (.plain (OpenSpec.ofChange connKnownSpec)) connKnownCard

/-- THE TIED CARD OF 'cellaretlaw21.ConnPlays'. -/
def connPlaysCard : Claim7 := { stood := { row := connPlaysRow, standIns := [], harness := (true, "fab9402da7074ba5ffe3d29ffd857a51c29f1d5a60e850653ee976300a31536c"), looks := true }, kinds := [], alts := [], laidByText := true, laidKinds := [.data, .data, .data, .data, .sentinel, .sentinel, .pinned], laidTests := true, laidLooks := .later }
def ConnPlaysCardSaid : Prop := Claim7.holds Tryz.pinned (.plain (OpenSpec.ofChange connPlaysSpec)) connPlaysCard

/-- THE TIED CARD OF 'cellaretlaw21.ConnPieces'. -/
def connPiecesCard : Claim7 := { stood := { row := connPiecesRow, standIns := [], harness := (true, "fab9402da7074ba5ffe3d29ffd857a51c29f1d5a60e850653ee976300a31536c"), looks := true }, kinds := [], alts := [], laidByText := true, laidKinds := [.data, .data, .data, .data, .sentinel, .sentinel, .pinned], laidTests := true, laidLooks := .later }
def ConnPiecesCardSaid : Prop := Claim7.holds Tryz.pinned (.plain (OpenSpec.ofChange connPiecesSpec)) connPiecesCard

/-- THE TIED CARD OF 'cellaretlaw21.ConnReplies'. -/
def connRepliesCard : Claim7 := { stood := { row := connRepliesRow, standIns := [], harness := (true, "fab9402da7074ba5ffe3d29ffd857a51c29f1d5a60e850653ee976300a31536c"), looks := true }, kinds := [], alts := [], laidByText := true, laidKinds := [.data, .data, .data, .data, .sentinel, .sentinel, .pinned], laidTests := true, laidLooks := .later }
def ConnRepliesCardSaid : Prop := Claim7.holds Tryz.pinned (.plain (OpenSpec.ofChange connRepliesSpec)) connRepliesCard

/-- THE TIED CARD OF 'cellaretlaw21.ConnRoom'. -/
def connRoomCard : Claim7 := { stood := { row := connRoomRow, standIns := [], harness := (true, "fab9402da7074ba5ffe3d29ffd857a51c29f1d5a60e850653ee976300a31536c"), looks := true }, kinds := [], alts := [], laidByText := true, laidKinds := [.data, .data, .data, .data, .sentinel, .sentinel, .pinned], laidTests := true, laidLooks := .later }
def ConnRoomCardSaid : Prop := Claim7.holds Tryz.pinned (.plain (OpenSpec.ofChange connRoomSpec)) connRoomCard

/-- THE TIED CARD OF 'cellaretlaw21.ConnOff'. -/
def connOffCard : Claim7 := { stood := { row := connOffRow, standIns := [], harness := (true, "fab9402da7074ba5ffe3d29ffd857a51c29f1d5a60e850653ee976300a31536c"), looks := true }, kinds := [], alts := [], laidByText := true, laidKinds := [.data, .data, .data, .data, .sentinel, .sentinel, .pinned], laidTests := true, laidLooks := .later }
def ConnOffCardSaid : Prop := Claim7.holds Tryz.pinned (.plain (OpenSpec.ofChange connOffSpec)) connOffCard

/-- THE TIED CARD OF 'cellaretlaw21.ConnQuit'. -/
def connQuitCard : Claim7 := { stood := { row := connQuitRow, standIns := [], harness := (true, "fab9402da7074ba5ffe3d29ffd857a51c29f1d5a60e850653ee976300a31536c"), looks := true }, kinds := [], alts := [], laidByText := true, laidKinds := [.data, .data, .data, .data, .sentinel, .sentinel, .pinned], laidTests := true, laidLooks := .later }
def ConnQuitCardSaid : Prop := Claim7.holds Tryz.pinned (.plain (OpenSpec.ofChange connQuitSpec)) connQuitCard

/-- THE SECOND FORM's CARD OF 'cellaretlaw21.ConnKnown'. -/
def connKnownUptoCard : Claim7 := { stood := { row := connKnownUptoRow, standIns := [], harness := (true, "fab9402da7074ba5ffe3d29ffd857a51c29f1d5a60e850653ee976300a31536c"), looks := true }, kinds := [], alts := [], laidByText := true, laidKinds := [.data, .data, .data, .data, .sentinel, .sentinel, .pinned], laidTests := true, laidLooks := .later }
def ConnKnownUptoCardSaid : Prop := Claim7.holds Tryz.pinned (.plain (OpenSpec.upto connKnownSpec)) connKnownUptoCard

/-- THE SECOND FORM's CARD OF 'cellaretlaw21.ConnPlays'. -/
def connPlaysUptoCard : Claim7 := { stood := { row := connPlaysUptoRow, standIns := [], harness := (true, "fab9402da7074ba5ffe3d29ffd857a51c29f1d5a60e850653ee976300a31536c"), looks := true }, kinds := [], alts := [], laidByText := true, laidKinds := [.data, .data, .data, .data, .sentinel, .sentinel, .pinned], laidTests := true, laidLooks := .later }
def ConnPlaysUptoCardSaid : Prop := Claim7.holds Tryz.pinned (.plain (OpenSpec.upto connPlaysSpec)) connPlaysUptoCard

/-- THE SECOND FORM's CARD OF 'cellaretlaw21.ConnPieces'. -/
def connPiecesUptoCard : Claim7 := { stood := { row := connPiecesUptoRow, standIns := [], harness := (true, "fab9402da7074ba5ffe3d29ffd857a51c29f1d5a60e850653ee976300a31536c"), looks := true }, kinds := [], alts := [], laidByText := true, laidKinds := [.data, .data, .data, .data, .sentinel, .sentinel, .pinned], laidTests := true, laidLooks := .later }
def ConnPiecesUptoCardSaid : Prop := Claim7.holds Tryz.pinned (.plain (OpenSpec.upto connPiecesSpec)) connPiecesUptoCard

/-- THE SECOND FORM's CARD OF 'cellaretlaw21.ConnReplies'. -/
def connRepliesUptoCard : Claim7 := { stood := { row := connRepliesUptoRow, standIns := [], harness := (true, "fab9402da7074ba5ffe3d29ffd857a51c29f1d5a60e850653ee976300a31536c"), looks := true }, kinds := [], alts := [], laidByText := true, laidKinds := [.data, .data, .data, .data, .sentinel, .sentinel, .pinned], laidTests := true, laidLooks := .later }
def ConnRepliesUptoCardSaid : Prop := Claim7.holds Tryz.pinned (.plain (OpenSpec.upto connRepliesSpec)) connRepliesUptoCard

/-- THE SECOND FORM's CARD OF 'cellaretlaw21.ConnRoom'. -/
def connRoomUptoCard : Claim7 := { stood := { row := connRoomUptoRow, standIns := [], harness := (true, "fab9402da7074ba5ffe3d29ffd857a51c29f1d5a60e850653ee976300a31536c"), looks := true }, kinds := [], alts := [], laidByText := true, laidKinds := [.data, .data, .data, .data, .sentinel, .sentinel, .pinned], laidTests := true, laidLooks := .later }
def ConnRoomUptoCardSaid : Prop := Claim7.holds Tryz.pinned (.plain (OpenSpec.upto connRoomSpec)) connRoomUptoCard

/-- THE SECOND FORM's CARD OF 'cellaretlaw21.ConnOff'. -/
def connOffUptoCard : Claim7 := { stood := { row := connOffUptoRow, standIns := [], harness := (true, "fab9402da7074ba5ffe3d29ffd857a51c29f1d5a60e850653ee976300a31536c"), looks := true }, kinds := [], alts := [], laidByText := true, laidKinds := [.data, .data, .data, .data, .sentinel, .sentinel, .pinned], laidTests := true, laidLooks := .later }
def ConnOffUptoCardSaid : Prop := Claim7.holds Tryz.pinned (.plain (OpenSpec.upto connOffSpec)) connOffUptoCard

/-- THE SECOND FORM's CARD OF 'cellaretlaw21.ConnQuit'. -/
def connQuitUptoCard : Claim7 := { stood := { row := connQuitUptoRow, standIns := [], harness := (true, "fab9402da7074ba5ffe3d29ffd857a51c29f1d5a60e850653ee976300a31536c"), looks := true }, kinds := [], alts := [], laidByText := true, laidKinds := [.data, .data, .data, .data, .sentinel, .sentinel, .pinned], laidTests := true, laidLooks := .later }
def ConnQuitUptoCardSaid : Prop := Claim7.holds Tryz.pinned (.plain (OpenSpec.upto connQuitSpec)) connQuitUptoCard
end Rows
end Go.Proofs.YtgdjmcfdopbnkaaGreatDoor
