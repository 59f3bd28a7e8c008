/-
  DERIVED. GIVEN WITH THE SEED: THE CARDS: each row of YtadcebncbpopdaaGreatDoorRows.lean that lists a variable, with what it lists TIED to the program's text (the seventh form; the later family's looks); each row that meets fmt, with fmt's text TOLD by the authors' own Lean function (tested against real Go, not proved from fmt's source: count such statements apart). THE CARD IS WHAT COUNTS. Prove the row's statement (the work); the ties are given (YtadcebncbpopdaaGreatDoorTie.lean); close each card by the builder's one call (the guide's Derived/Test/ToyasCard.lean, 'card_holds'). Laid BY PROGRAM, IN A SANDBOX (cutbox-door.mjs). By AI agents, Wed Nov 11 2026. No macro, syntax, notation, axiom, sorry.
-/
import Derived.Test.YtadcebncbpopdaaGreatDoorRows
import GoSem.ClaimSeven
namespace Go.Proofs.YtadcebncbpopdaaGreatDoor
namespace Rows

/-- THE TIED CARD OF 'cellaretlaw25.ScriptKnown'. -/
def scriptKnownCard : Claim7 := { stood := { row := scriptKnownRow, standIns := [], harness := (true, "b2964c321ce630e40e22edc0e7d198222e7a9be33bfbc1e4601620dce48847ed"), looks := true }, kinds := [], alts := [], laidByText := true, laidKinds := [.data, .data, .data, .data, .sentinel, .sentinel, .pinned], laidTests := true, laidLooks := .later }
def ScriptKnownCardSaid : Prop := Claim7.holds Tryz.pinned (.plain (OpenSpec.ofChange scriptKnownSpec)) scriptKnownCard

/-- THE TIED CARD OF 'cellaretlaw25.ScriptQuotes'. -/
def scriptQuotesCard : Claim7 := { stood := { row := scriptQuotesRow, standIns := [], harness := (true, "b2964c321ce630e40e22edc0e7d198222e7a9be33bfbc1e4601620dce48847ed"), looks := true }, kinds := [], alts := [], laidByText := true, laidKinds := [.data, .data, .data, .data, .sentinel, .sentinel, .pinned], laidTests := true, laidLooks := .later }
def ScriptQuotesCardSaid : Prop := Claim7.holds Tryz.pinned (.plain (OpenSpec.ofChange scriptQuotesSpec)) scriptQuotesCard

/-- THE TIED CARD OF 'cellaretlaw25.ScriptBack'. -/
def scriptBackCard : Claim7 := { stood := { row := scriptBackRow, standIns := [], harness := (true, "b2964c321ce630e40e22edc0e7d198222e7a9be33bfbc1e4601620dce48847ed"), looks := true }, kinds := [], alts := [], laidByText := true, laidKinds := [.data, .data, .data, .data, .sentinel, .sentinel, .pinned], laidTests := true, laidLooks := .later }
def ScriptBackCardSaid : Prop := Claim7.holds Tryz.pinned (.plain (OpenSpec.ofChange scriptBackSpec)) scriptBackCard

/-- THE SECOND FORM's CARD OF 'cellaretlaw25.ScriptKnown'. -/
def scriptKnownUptoCard : Claim7 := { stood := { row := scriptKnownUptoRow, standIns := [], harness := (true, "b2964c321ce630e40e22edc0e7d198222e7a9be33bfbc1e4601620dce48847ed"), looks := true }, kinds := [], alts := [], laidByText := true, laidKinds := [.data, .data, .data, .data, .sentinel, .sentinel, .pinned], laidTests := true, laidLooks := .later }
def ScriptKnownUptoCardSaid : Prop := Claim7.holds Tryz.pinned (.plain (OpenSpec.upto scriptKnownSpec)) scriptKnownUptoCard

/-- THE SECOND FORM's CARD OF 'cellaretlaw25.ScriptQuotes'. -/
def scriptQuotesUptoCard : Claim7 := { stood := { row := scriptQuotesUptoRow, standIns := [], harness := (true, "b2964c321ce630e40e22edc0e7d198222e7a9be33bfbc1e4601620dce48847ed"), looks := true }, kinds := [], alts := [], laidByText := true, laidKinds := [.data, .data, .data, .data, .sentinel, .sentinel, .pinned], laidTests := true, laidLooks := .later }
def ScriptQuotesUptoCardSaid : Prop := Claim7.holds Tryz.pinned (.plain (OpenSpec.upto scriptQuotesSpec)) scriptQuotesUptoCard

/-- THE SECOND FORM's CARD OF 'cellaretlaw25.ScriptBack'. -/
def scriptBackUptoCard : Claim7 := { stood := { row := scriptBackUptoRow, standIns := [], harness := (true, "b2964c321ce630e40e22edc0e7d198222e7a9be33bfbc1e4601620dce48847ed"), looks := true }, kinds := [], alts := [], laidByText := true, laidKinds := [.data, .data, .data, .data, .sentinel, .sentinel, .pinned], laidTests := true, laidLooks := .later }
def ScriptBackUptoCardSaid : Prop := Claim7.holds Tryz.pinned (.plain (OpenSpec.upto scriptBackSpec)) scriptBackUptoCard
end Rows
end Go.Proofs.YtadcebncbpopdaaGreatDoor
