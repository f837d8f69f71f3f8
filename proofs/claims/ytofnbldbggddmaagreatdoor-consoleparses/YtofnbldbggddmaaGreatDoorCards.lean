/-
  DERIVED. GIVEN WITH THE SEED: THE CARDS: each row of YtofnbldbggddmaaGreatDoorRows.lean that lists a variable, with what it lists TIED to the program's text (the seventh form; the later family's looks); each row that meets fmt, with fmt's text TOLD by the authors' own Lean function (tested against real Go, not proved from fmt's source: count such statements apart). THE CARD IS WHAT COUNTS. Prove the row's statement (the work); the ties are given (YtofnbldbggddmaaGreatDoorTie.lean); close each card by the builder's one call (the guide's Derived/Test/ToyasCard.lean, 'card_holds'). Laid BY PROGRAM, IN A SANDBOX (cutbox-door.mjs). By AI agents, Wed Nov 11 2026. No macro, syntax, notation, axiom, sorry.
-/
import Derived.Test.YtofnbldbggddmaaGreatDoorRows
import GoSem.ClaimSeven
namespace Go.Proofs.YtofnbldbggddmaaGreatDoor
namespace Rows

/-- THE TIED CARD OF 'copyistlaw30.ConsoleQuotes'. -/
def consoleQuotesCard : Claim7 := { stood := { row := consoleQuotesRow, standIns := [], harness := (true, "0a07746eeb00e24099ec153668f80564de8b967a17d05a333edac0517f1c27e6"), looks := true }, kinds := [], alts := [], laidByText := true, laidKinds := [.data, .data, .data, .data, .sentinel, .sentinel, .data, .data, .pinned], laidTests := true, laidLooks := .later }
def ConsoleQuotesCardSaid : Prop := Claim7.holds Tryz.pinned (.plain (OpenSpec.ofChange consoleQuotesSpec)) consoleQuotesCard

/-- THE TIED CARD OF 'copyistlaw30.ConsoleWords'. -/
def consoleWordsCard : Claim7 := { stood := { row := consoleWordsRow, standIns := [], harness := (true, "0a07746eeb00e24099ec153668f80564de8b967a17d05a333edac0517f1c27e6"), looks := true }, kinds := [], alts := [], laidByText := true, laidKinds := [.data, .data, .data, .data, .sentinel, .sentinel, .data, .data, .pinned], laidTests := true, laidLooks := .later }
def ConsoleWordsCardSaid : Prop := Claim7.holds Tryz.pinned (.plain (OpenSpec.ofChange consoleWordsSpec)) consoleWordsCard

/-- THE TIED CARD OF 'copyistlaw30.ConsoleParses'. -/
def consoleParsesCard : Claim7 := { stood := { row := consoleParsesRow, standIns := [], harness := (true, "0a07746eeb00e24099ec153668f80564de8b967a17d05a333edac0517f1c27e6"), looks := true }, kinds := [], alts := [], laidByText := true, laidKinds := [.data, .data, .data, .data, .sentinel, .sentinel, .data, .data, .pinned], laidTests := true, laidLooks := .later }
def ConsoleParsesCardSaid : Prop := Claim7.holds Tryz.pinned (.plain (OpenSpec.ofChange consoleParsesSpec)) consoleParsesCard

/-- THE SECOND FORM's CARD OF 'copyistlaw30.ConsoleQuotes'. -/
def consoleQuotesUptoCard : Claim7 := { stood := { row := consoleQuotesUptoRow, standIns := [], harness := (true, "0a07746eeb00e24099ec153668f80564de8b967a17d05a333edac0517f1c27e6"), looks := true }, kinds := [], alts := [], laidByText := true, laidKinds := [.data, .data, .data, .data, .sentinel, .sentinel, .data, .data, .pinned], laidTests := true, laidLooks := .later }
def ConsoleQuotesUptoCardSaid : Prop := Claim7.holds Tryz.pinned (.plain (OpenSpec.upto consoleQuotesSpec)) consoleQuotesUptoCard

/-- THE SECOND FORM's CARD OF 'copyistlaw30.ConsoleWords'. -/
def consoleWordsUptoCard : Claim7 := { stood := { row := consoleWordsUptoRow, standIns := [], harness := (true, "0a07746eeb00e24099ec153668f80564de8b967a17d05a333edac0517f1c27e6"), looks := true }, kinds := [], alts := [], laidByText := true, laidKinds := [.data, .data, .data, .data, .sentinel, .sentinel, .data, .data, .pinned], laidTests := true, laidLooks := .later }
def ConsoleWordsUptoCardSaid : Prop := Claim7.holds Tryz.pinned (.plain (OpenSpec.upto consoleWordsSpec)) consoleWordsUptoCard

/-- THE SECOND FORM's CARD OF 'copyistlaw30.ConsoleParses'. -/
def consoleParsesUptoCard : Claim7 := { stood := { row := consoleParsesUptoRow, standIns := [], harness := (true, "0a07746eeb00e24099ec153668f80564de8b967a17d05a333edac0517f1c27e6"), looks := true }, kinds := [], alts := [], laidByText := true, laidKinds := [.data, .data, .data, .data, .sentinel, .sentinel, .data, .data, .pinned], laidTests := true, laidLooks := .later }
def ConsoleParsesUptoCardSaid : Prop := Claim7.holds Tryz.pinned (.plain (OpenSpec.upto consoleParsesSpec)) consoleParsesUptoCard
end Rows
end Go.Proofs.YtofnbldbggddmaaGreatDoor
