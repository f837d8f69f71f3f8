/-
  DERIVED. GIVEN WITH THE SEED: THE CARDS: each row of YtlhlbamcgopiiaaGreatDoorRows.lean that lists a variable, with what it lists TIED to the program's text (the seventh form; the later family's looks); each row that meets fmt, with fmt's text TOLD by the authors' own Lean function (tested against real Go, not proved from fmt's source: count such statements apart). THE CARD IS WHAT COUNTS. Prove the row's statement (the work); the ties are given (YtlhlbamcgopiiaaGreatDoorTie.lean); close each card by the builder's one call (the guide's Derived/Test/ToyasCard.lean, 'card_holds'). Laid BY PROGRAM, IN A SANDBOX (cutbox-door.mjs). By AI agents, Wed Nov 11 2026. No macro, syntax, notation, axiom, sorry.
-/
import Derived.Test.YtlhlbamcgopiiaaGreatDoorRows
import GoSem.ClaimSeven
namespace Go.Proofs.YtlhlbamcgopiiaaGreatDoor
namespace Rows

/-- THE TIED CARD OF 'copyistlaw22.PlanJoins'. -/
def planJoinsCard : Claim7 := { stood := { row := planJoinsRow, standIns := [], harness := (true, "95d4b7a464918b5109b3244ff1b0d7c4f8829dff8d8ef968063cfda980660a1e"), looks := false }, kinds := [], alts := [], laidByText := true, laidKinds := [.data], laidTests := true, laidLooks := .later }
def PlanJoinsCardSaid : Prop := Claim7.holds Tryz.pinned (.plain (OpenSpec.ofChange planJoinsSpec)) planJoinsCard

/-- THE TIED CARD OF 'copyistlaw20.CoreUndoes'. -/
def coreUndoesCard : Claim7 := { stood := { row := coreUndoesRow, standIns := [], harness := (true, "95d4b7a464918b5109b3244ff1b0d7c4f8829dff8d8ef968063cfda980660a1e"), looks := false }, kinds := [], alts := [], laidByText := true, laidKinds := [.data], laidTests := true, laidLooks := .later }
def CoreUndoesCardSaid : Prop := Claim7.holds Tryz.pinned (.plain (OpenSpec.ofChange coreUndoesSpec)) coreUndoesCard

/-- THE TIED CARD OF 'copyistlaw20.CoreTexts'. -/
def coreTextsCard : Claim7 := { stood := { row := coreTextsRow, standIns := [], harness := (true, "95d4b7a464918b5109b3244ff1b0d7c4f8829dff8d8ef968063cfda980660a1e"), looks := false }, kinds := [], alts := [], laidByText := true, laidKinds := [.data], laidTests := true, laidLooks := .later }
def CoreTextsCardSaid : Prop := Claim7.holds Tryz.pinned (.plain (OpenSpec.ofChange coreTextsSpec)) coreTextsCard

/-- THE TIED CARD OF 'copyistlaw20.CoreSets'. -/
def coreSetsCard : Claim7 := { stood := { row := coreSetsRow, standIns := [], harness := (true, "95d4b7a464918b5109b3244ff1b0d7c4f8829dff8d8ef968063cfda980660a1e"), looks := false }, kinds := [], alts := [], laidByText := true, laidKinds := [.data], laidTests := true, laidLooks := .later }
def CoreSetsCardSaid : Prop := Claim7.holds Tryz.pinned (.plain (OpenSpec.ofChange coreSetsSpec)) coreSetsCard

/-- THE TIED CARD OF 'copyistlaw20.CoreOnce'. -/
def coreOnceCard : Claim7 := { stood := { row := coreOnceRow, standIns := [], harness := (true, "95d4b7a464918b5109b3244ff1b0d7c4f8829dff8d8ef968063cfda980660a1e"), looks := false }, kinds := [], alts := [], laidByText := true, laidKinds := [.data], laidTests := true, laidLooks := .later }
def CoreOnceCardSaid : Prop := Claim7.holds Tryz.pinned (.plain (OpenSpec.ofChange coreOnceSpec)) coreOnceCard

/-- THE TIED CARD OF 'copyistlaw22.PlanOps'. -/
def planOpsCard : Claim7 := { stood := { row := planOpsRow, standIns := [], harness := (true, "95d4b7a464918b5109b3244ff1b0d7c4f8829dff8d8ef968063cfda980660a1e"), looks := false }, kinds := [], alts := [], laidByText := true, laidKinds := [.data], laidTests := true, laidLooks := .later }
def PlanOpsCardSaid : Prop := Claim7.holds Tryz.pinned (.plain (OpenSpec.ofChange planOpsSpec)) planOpsCard

/-- THE TIED CARD OF 'copyistlaw20.CoreElems'. -/
def coreElemsCard : Claim7 := { stood := { row := coreElemsRow, standIns := [], harness := (true, "95d4b7a464918b5109b3244ff1b0d7c4f8829dff8d8ef968063cfda980660a1e"), looks := false }, kinds := [], alts := [], laidByText := true, laidKinds := [.data], laidTests := true, laidLooks := .later }
def CoreElemsCardSaid : Prop := Claim7.holds Tryz.pinned (.plain (OpenSpec.ofChange coreElemsSpec)) coreElemsCard

/-- THE SECOND FORM's CARD OF 'copyistlaw22.PlanJoins'. -/
def planJoinsUptoCard : Claim7 := { stood := { row := planJoinsUptoRow, standIns := [], harness := (true, "95d4b7a464918b5109b3244ff1b0d7c4f8829dff8d8ef968063cfda980660a1e"), looks := false }, kinds := [], alts := [], laidByText := true, laidKinds := [.data], laidTests := true, laidLooks := .later }
def PlanJoinsUptoCardSaid : Prop := Claim7.holds Tryz.pinned (.plain (OpenSpec.upto planJoinsSpec)) planJoinsUptoCard

/-- THE SECOND FORM's CARD OF 'copyistlaw20.CoreUndoes'. -/
def coreUndoesUptoCard : Claim7 := { stood := { row := coreUndoesUptoRow, standIns := [], harness := (true, "95d4b7a464918b5109b3244ff1b0d7c4f8829dff8d8ef968063cfda980660a1e"), looks := false }, kinds := [], alts := [], laidByText := true, laidKinds := [.data], laidTests := true, laidLooks := .later }
def CoreUndoesUptoCardSaid : Prop := Claim7.holds Tryz.pinned (.plain (OpenSpec.upto coreUndoesSpec)) coreUndoesUptoCard

/-- THE SECOND FORM's CARD OF 'copyistlaw20.CoreTexts'. -/
def coreTextsUptoCard : Claim7 := { stood := { row := coreTextsUptoRow, standIns := [], harness := (true, "95d4b7a464918b5109b3244ff1b0d7c4f8829dff8d8ef968063cfda980660a1e"), looks := false }, kinds := [], alts := [], laidByText := true, laidKinds := [.data], laidTests := true, laidLooks := .later }
def CoreTextsUptoCardSaid : Prop := Claim7.holds Tryz.pinned (.plain (OpenSpec.upto coreTextsSpec)) coreTextsUptoCard

/-- THE SECOND FORM's CARD OF 'copyistlaw20.CoreSets'. -/
def coreSetsUptoCard : Claim7 := { stood := { row := coreSetsUptoRow, standIns := [], harness := (true, "95d4b7a464918b5109b3244ff1b0d7c4f8829dff8d8ef968063cfda980660a1e"), looks := false }, kinds := [], alts := [], laidByText := true, laidKinds := [.data], laidTests := true, laidLooks := .later }
def CoreSetsUptoCardSaid : Prop := Claim7.holds Tryz.pinned (.plain (OpenSpec.upto coreSetsSpec)) coreSetsUptoCard

/-- THE SECOND FORM's CARD OF 'copyistlaw20.CoreOnce'. -/
def coreOnceUptoCard : Claim7 := { stood := { row := coreOnceUptoRow, standIns := [], harness := (true, "95d4b7a464918b5109b3244ff1b0d7c4f8829dff8d8ef968063cfda980660a1e"), looks := false }, kinds := [], alts := [], laidByText := true, laidKinds := [.data], laidTests := true, laidLooks := .later }
def CoreOnceUptoCardSaid : Prop := Claim7.holds Tryz.pinned (.plain (OpenSpec.upto coreOnceSpec)) coreOnceUptoCard

/-- THE SECOND FORM's CARD OF 'copyistlaw22.PlanOps'. -/
def planOpsUptoCard : Claim7 := { stood := { row := planOpsUptoRow, standIns := [], harness := (true, "95d4b7a464918b5109b3244ff1b0d7c4f8829dff8d8ef968063cfda980660a1e"), looks := false }, kinds := [], alts := [], laidByText := true, laidKinds := [.data], laidTests := true, laidLooks := .later }
def PlanOpsUptoCardSaid : Prop := Claim7.holds Tryz.pinned (.plain (OpenSpec.upto planOpsSpec)) planOpsUptoCard

/-- THE SECOND FORM's CARD OF 'copyistlaw20.CoreElems'. -/
def coreElemsUptoCard : Claim7 := { stood := { row := coreElemsUptoRow, standIns := [], harness := (true, "95d4b7a464918b5109b3244ff1b0d7c4f8829dff8d8ef968063cfda980660a1e"), looks := false }, kinds := [], alts := [], laidByText := true, laidKinds := [.data], laidTests := true, laidLooks := .later }
def CoreElemsUptoCardSaid : Prop := Claim7.holds Tryz.pinned (.plain (OpenSpec.upto coreElemsSpec)) coreElemsUptoCard
end Rows
end Go.Proofs.YtlhlbamcgopiiaaGreatDoor
