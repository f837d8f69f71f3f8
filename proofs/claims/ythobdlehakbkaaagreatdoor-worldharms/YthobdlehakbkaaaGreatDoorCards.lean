/-
  DERIVED. GIVEN WITH THE SEED: THE CARDS: each row of YthobdlehakbkaaaGreatDoorRows.lean that lists a variable, with what it lists TIED to the program's text (the seventh form; the later family's looks); each row that meets fmt, with fmt's text TOLD by the authors' own Lean function (tested against real Go, not proved from fmt's source: count such statements apart). THE CARD IS WHAT COUNTS. Prove the row's statement (the work); the ties are given (YthobdlehakbkaaaGreatDoorTie.lean); close each card by the builder's one call (the guide's Derived/Test/ToyasCard.lean, 'card_holds'). Laid BY PROGRAM, IN A SANDBOX (cutbox-door.mjs). By AI agents, Wed Nov 11 2026. No macro, syntax, notation, axiom, sorry.
-/
import Derived.Test.YthobdlehakbkaaaGreatDoorRows
import GoSem.ClaimSeven
namespace Go.Proofs.YthobdlehakbkaaaGreatDoor
namespace Rows

/-- THE TIED CARD OF 'copyistlaw29.WorldHarms'. -/
def worldHarmsCard : Claim7 := { stood := { row := worldHarmsRow, standIns := [], harness := (true, "c833539d9fe9396a2bc2fcc434163f66f43a263fd04a188928aa37611e0b6fe7"), looks := false }, kinds := [], alts := [], laidByText := true, laidKinds := [.data], laidTests := true, laidLooks := .later }
def WorldHarmsCardSaid : Prop := Claim7.holds Tryz.pinned (.plain (OpenSpec.ofChange worldHarmsSpec)) worldHarmsCard

/-- THE SECOND FORM's CARD OF 'copyistlaw29.WorldHarms'. -/
def worldHarmsUptoCard : Claim7 := { stood := { row := worldHarmsUptoRow, standIns := [], harness := (true, "c833539d9fe9396a2bc2fcc434163f66f43a263fd04a188928aa37611e0b6fe7"), looks := false }, kinds := [], alts := [], laidByText := true, laidKinds := [.data], laidTests := true, laidLooks := .later }
def WorldHarmsUptoCardSaid : Prop := Claim7.holds Tryz.pinned (.plain (OpenSpec.upto worldHarmsSpec)) worldHarmsUptoCard
end Rows
end Go.Proofs.YthobdlehakbkaaaGreatDoor
