/-
  DERIVED. GIVEN WITH THE SEED: THE CARDS: each row of YthblmlkkmebciaaDoorRows.lean that lists a variable, with what it lists TIED to the program's text (the seventh form; the later family's looks); each row that meets fmt, with fmt's text TOLD by the authors' own Lean function (tested against real Go, not proved from fmt's source: count such statements apart). THE CARD IS WHAT COUNTS. Prove the row's statement (the work); the ties are given (YthblmlkkmebciaaDoorTie.lean); close each card by the builder's one call (the guide's Derived/Test/ToyasCard.lean, 'card_holds'). Laid BY PROGRAM, IN A SANDBOX (cutbox-door.mjs). By AI agents, Wed Nov 11 2026. No macro, syntax, notation, axiom, sorry.
-/
import Derived.Test.YthblmlkkmebciaaDoorRows
import GoSem.ClaimSeven
namespace Go.Proofs.YthblmlkkmebciaaDoor
namespace Rows

/-- THE TIED CARD OF 'copyistlaw16.StoreRuns'. -/
def storeRunsCard : Claim7 := { stood := { row := storeRunsRow, standIns := [], harness := (true, "83f94d69712dfd6e68caaf37ce9d9b9959291105dd6f8a28de6672e500c755ab"), looks := false }, kinds := [], alts := [], laidByText := true, laidKinds := [.data], laidTests := true, laidLooks := .later }
def StoreRunsCardSaid : Prop := Claim7.holds Tryd.pinned (.plain (OpenSpec.ofChange storeRunsSpec)) storeRunsCard

/-- THE TIED CARD OF 'copyistlaw16.StorePlays'. -/
def storePlaysCard : Claim7 := { stood := { row := storePlaysRow, standIns := [], harness := (true, "83f94d69712dfd6e68caaf37ce9d9b9959291105dd6f8a28de6672e500c755ab"), looks := false }, kinds := [], alts := [], laidByText := true, laidKinds := [.data], laidTests := true, laidLooks := .later }
def StorePlaysCardSaid : Prop := Claim7.holds Tryd.pinned (.plain (OpenSpec.ofChange storePlaysSpec)) storePlaysCard

/-- THE TIED CARD OF 'copyistlaw17.GraftWhere'. -/
def graftWhereCard : Claim7 := { stood := { row := graftWhereRow, standIns := [], harness := (true, "83f94d69712dfd6e68caaf37ce9d9b9959291105dd6f8a28de6672e500c755ab"), looks := false }, kinds := [], alts := [], laidByText := true, laidKinds := [.data], laidTests := true, laidLooks := .later }
def GraftWhereCardSaid : Prop := Claim7.holds Tryd.pinned (.plain (OpenSpec.ofChange graftWhereSpec)) graftWhereCard

/-- THE TIED CARD OF 'copyistlaw17.GraftOrders'. -/
def graftOrdersCard : Claim7 := { stood := { row := graftOrdersRow, standIns := [], harness := (true, "83f94d69712dfd6e68caaf37ce9d9b9959291105dd6f8a28de6672e500c755ab"), looks := false }, kinds := [], alts := [], laidByText := true, laidKinds := [.data], laidTests := true, laidLooks := .later }
def GraftOrdersCardSaid : Prop := Claim7.holds Tryd.pinned (.plain (OpenSpec.ofChange graftOrdersSpec)) graftOrdersCard

/-- THE TIED CARD OF 'copyistlaw17.GraftTurns'. -/
def graftTurnsCard : Claim7 := { stood := { row := graftTurnsRow, standIns := [], harness := (true, "83f94d69712dfd6e68caaf37ce9d9b9959291105dd6f8a28de6672e500c755ab"), looks := false }, kinds := [], alts := [], laidByText := true, laidKinds := [.data], laidTests := true, laidLooks := .later }
def GraftTurnsCardSaid : Prop := Claim7.holds Tryd.pinned (.plain (OpenSpec.ofChange graftTurnsSpec)) graftTurnsCard

/-- THE TIED CARD OF 'copyistlaw16.StoreAsks'. -/
def storeAsksCard : Claim7 := { stood := { row := storeAsksRow, standIns := [], harness := (true, "83f94d69712dfd6e68caaf37ce9d9b9959291105dd6f8a28de6672e500c755ab"), looks := false }, kinds := [], alts := [], laidByText := true, laidKinds := [.data], laidTests := true, laidLooks := .later }
def StoreAsksCardSaid : Prop := Claim7.holds Tryd.pinned (.plain (OpenSpec.ofChange storeAsksSpec)) storeAsksCard

/-- THE SECOND FORM's CARD OF 'copyistlaw16.StoreRuns'. -/
def storeRunsUptoCard : Claim7 := { stood := { row := storeRunsUptoRow, standIns := [], harness := (true, "83f94d69712dfd6e68caaf37ce9d9b9959291105dd6f8a28de6672e500c755ab"), looks := false }, kinds := [], alts := [], laidByText := true, laidKinds := [.data], laidTests := true, laidLooks := .later }
def StoreRunsUptoCardSaid : Prop := Claim7.holds Tryd.pinned (.plain (OpenSpec.upto storeRunsSpec)) storeRunsUptoCard

/-- THE SECOND FORM's CARD OF 'copyistlaw16.StorePlays'. -/
def storePlaysUptoCard : Claim7 := { stood := { row := storePlaysUptoRow, standIns := [], harness := (true, "83f94d69712dfd6e68caaf37ce9d9b9959291105dd6f8a28de6672e500c755ab"), looks := false }, kinds := [], alts := [], laidByText := true, laidKinds := [.data], laidTests := true, laidLooks := .later }
def StorePlaysUptoCardSaid : Prop := Claim7.holds Tryd.pinned (.plain (OpenSpec.upto storePlaysSpec)) storePlaysUptoCard

/-- THE SECOND FORM's CARD OF 'copyistlaw17.GraftWhere'. -/
def graftWhereUptoCard : Claim7 := { stood := { row := graftWhereUptoRow, standIns := [], harness := (true, "83f94d69712dfd6e68caaf37ce9d9b9959291105dd6f8a28de6672e500c755ab"), looks := false }, kinds := [], alts := [], laidByText := true, laidKinds := [.data], laidTests := true, laidLooks := .later }
def GraftWhereUptoCardSaid : Prop := Claim7.holds Tryd.pinned (.plain (OpenSpec.upto graftWhereSpec)) graftWhereUptoCard

/-- THE SECOND FORM's CARD OF 'copyistlaw17.GraftOrders'. -/
def graftOrdersUptoCard : Claim7 := { stood := { row := graftOrdersUptoRow, standIns := [], harness := (true, "83f94d69712dfd6e68caaf37ce9d9b9959291105dd6f8a28de6672e500c755ab"), looks := false }, kinds := [], alts := [], laidByText := true, laidKinds := [.data], laidTests := true, laidLooks := .later }
def GraftOrdersUptoCardSaid : Prop := Claim7.holds Tryd.pinned (.plain (OpenSpec.upto graftOrdersSpec)) graftOrdersUptoCard

/-- THE SECOND FORM's CARD OF 'copyistlaw17.GraftTurns'. -/
def graftTurnsUptoCard : Claim7 := { stood := { row := graftTurnsUptoRow, standIns := [], harness := (true, "83f94d69712dfd6e68caaf37ce9d9b9959291105dd6f8a28de6672e500c755ab"), looks := false }, kinds := [], alts := [], laidByText := true, laidKinds := [.data], laidTests := true, laidLooks := .later }
def GraftTurnsUptoCardSaid : Prop := Claim7.holds Tryd.pinned (.plain (OpenSpec.upto graftTurnsSpec)) graftTurnsUptoCard

/-- THE SECOND FORM's CARD OF 'copyistlaw16.StoreAsks'. -/
def storeAsksUptoCard : Claim7 := { stood := { row := storeAsksUptoRow, standIns := [], harness := (true, "83f94d69712dfd6e68caaf37ce9d9b9959291105dd6f8a28de6672e500c755ab"), looks := false }, kinds := [], alts := [], laidByText := true, laidKinds := [.data], laidTests := true, laidLooks := .later }
def StoreAsksUptoCardSaid : Prop := Claim7.holds Tryd.pinned (.plain (OpenSpec.upto storeAsksSpec)) storeAsksUptoCard
end Rows
end Go.Proofs.YthblmlkkmebciaaDoor
