/-
  NARROWER THAN 'FOR EVERY INPUT', by the rows' own cells (each row's printed sentence says how): StoreRuns: laid · StorePlays: laid · GraftWhere: laid · GraftOrders: laid · GraftTurns: laid · StoreAsks: laid.
  DERIVED. THE GIVEN ROWS OF THIS SEAT. 6 by the template 'for every input the law returns true; each argument reads behind the call as it read before'; 0 by the template 'total and deterministic' (their statements: YthblmlkkmebciaaDoorTotals.lean).
  GIVEN WITH THE SEED: the statements are not yours to turn. If you find one false, say at which input.
  Laid BY PROGRAM, IN A SANDBOX (cutbox-rows.mjs): the forced cells as the released guide's own fill.sh prints them over the translation 1ee66e3a909cf9c6… (all of the seat's roots in one cut). By AI agents, Wed Nov 11 2026. No macro, syntax, notation, axiom, sorry.
-/
import Derived.Test.YthblmlkkmebciaaDoorChecked
import GoSem.Claim
import GoSem.ClaimJoined
import GoSem.ClaimMapViews
import Derived.JoinedTies
import Derived.KernelRfl
namespace Go.Proofs.YthblmlkkmebciaaDoor
/- THE CELL 'sum', in the pinned program and in every row, IS THE sha256 OF THE DUMP (.gsa) THAT YthblmlkkmebciaaDoorProg.lean LOADS. Nothing in Lean hashes anything: it is a label: what it is worth is what the hold of that sum in a sandbox is worth. -/
noncomputable def Tryd.pinned : Pinned := { name := "ythblmlkkmebciaadoor", sum := "1ee66e3a909cf9c62a8a107b1eafec0b0d8c4ce6848715e7f5ba51d903932ec1", checked := Tryd.checked }
namespace Rows
def none {H : Type} : Left H := { results := [], args := [] }

/- WHAT THE LISTED PACKAGE-LEVEL VARIABLES READ AS WHEN THE CALL BEGINS. Each datum BY PROGRAM (the guide's laid-datum.mjs) off the statement by which the dump's own 'gosem.cut.vars' lays the variable. In a bare row this is a premise. The card (YthblmlkkmebciaaDoorCards.lean) ties it to the program's text. -/
def laid_copyist_ident_root {H : Type} : DataW H := .agg [.lit (.int .u16 0), .lit (.int .u32 0)]

/-- 'copyistlaw16.StoreRuns': WHATEVER THE INPUT: true; the input reads as it did. -/
def storeRunsSpec : ChangeSpec := { name := "storeRuns", fn := fun _ => fun
  | [d] => { results := [.lit (.bool true)], args := [d] }
  | _ => none }
def storeRunsRow : OpenClaim := { program := "ythblmlkkmebciaadoor", sum := "1ee66e3a909cf9c62a8a107b1eafec0b0d8c4ce6848715e7f5ba51d903932ec1", func := "copyist/copyistlaw16.StoreRuns", spec := "storeRuns", inPlace := ["slices.overlaps[*copyist/rope.Node[copyist/run.Run, copyist/run.Mass]]", "internal/abi.NoEscape"], unfollowed := true, recurses := true, named := ["copyist/ident.root"], apart := false, laid := [("copyist/ident.root", laid_copyist_ident_root)] }
def StoreRunsSaid : Prop := storeRunsRow.holds Tryd.pinned (OpenSpec.ofChange storeRunsSpec)

/-- ITS FALSE NEIGHBOUR: 'it returns false'. Refute it at one input. -/
def storeRunsWrong : ChangeSpec := { name := "storeRuns", fn := fun _ => fun
  | [d] => { results := [.lit (.bool false)], args := [d] }
  | _ => none }
def StoreRunsWrongFalsely : Prop := storeRunsRow.holds Tryd.pinned (OpenSpec.ofChange storeRunsWrong)

/-- 'copyistlaw16.StorePlays': WHATEVER THE INPUT: true; the input reads as it did. -/
def storePlaysSpec : ChangeSpec := { name := "storePlays", fn := fun _ => fun
  | [d] => { results := [.lit (.bool true)], args := [d] }
  | _ => none }
def storePlaysRow : OpenClaim := { program := "ythblmlkkmebciaadoor", sum := "1ee66e3a909cf9c62a8a107b1eafec0b0d8c4ce6848715e7f5ba51d903932ec1", func := "copyist/copyistlaw16.StorePlays", spec := "storePlays", inPlace := ["slices.overlaps[*copyist/rope.Node[copyist/run.Run, copyist/run.Mass]]", "internal/abi.NoEscape"], unfollowed := true, recurses := true, named := ["copyist/ident.root"], apart := false, laid := [("copyist/ident.root", laid_copyist_ident_root)] }
def StorePlaysSaid : Prop := storePlaysRow.holds Tryd.pinned (OpenSpec.ofChange storePlaysSpec)

/-- ITS FALSE NEIGHBOUR: 'it returns false'. Refute it at one input. -/
def storePlaysWrong : ChangeSpec := { name := "storePlays", fn := fun _ => fun
  | [d] => { results := [.lit (.bool false)], args := [d] }
  | _ => none }
def StorePlaysWrongFalsely : Prop := storePlaysRow.holds Tryd.pinned (OpenSpec.ofChange storePlaysWrong)

/-- 'copyistlaw17.GraftWhere': WHATEVER THE INPUT: true; the input reads as it did. -/
def graftWhereSpec : ChangeSpec := { name := "graftWhere", fn := fun _ => fun
  | [d1, d2] => { results := [.lit (.bool true)], args := [d1, d2] }
  | _ => none }
def graftWhereRow : OpenClaim := { program := "ythblmlkkmebciaadoor", sum := "1ee66e3a909cf9c62a8a107b1eafec0b0d8c4ce6848715e7f5ba51d903932ec1", func := "copyist/copyistlaw17.GraftWhere", spec := "graftWhere", inPlace := ["slices.overlaps[*copyist/rope.Node[copyist/run.Run, copyist/run.Mass]]", "internal/abi.NoEscape"], unfollowed := true, recurses := true, named := ["copyist/ident.root"], apart := false, laid := [("copyist/ident.root", laid_copyist_ident_root)] }
def GraftWhereSaid : Prop := graftWhereRow.holds Tryd.pinned (OpenSpec.ofChange graftWhereSpec)

/-- ITS FALSE NEIGHBOUR: 'it returns false'. Refute it at one input. -/
def graftWhereWrong : ChangeSpec := { name := "graftWhere", fn := fun _ => fun
  | [d1, d2] => { results := [.lit (.bool false)], args := [d1, d2] }
  | _ => none }
def GraftWhereWrongFalsely : Prop := graftWhereRow.holds Tryd.pinned (OpenSpec.ofChange graftWhereWrong)

/-- 'copyistlaw17.GraftOrders': WHATEVER THE INPUT: true; the input reads as it did. -/
def graftOrdersSpec : ChangeSpec := { name := "graftOrders", fn := fun _ => fun
  | [d] => { results := [.lit (.bool true)], args := [d] }
  | _ => none }
def graftOrdersRow : OpenClaim := { program := "ythblmlkkmebciaadoor", sum := "1ee66e3a909cf9c62a8a107b1eafec0b0d8c4ce6848715e7f5ba51d903932ec1", func := "copyist/copyistlaw17.GraftOrders", spec := "graftOrders", inPlace := ["slices.overlaps[*copyist/rope.Node[copyist/run.Run, copyist/run.Mass]]", "internal/abi.NoEscape"], unfollowed := true, recurses := true, named := ["copyist/ident.root"], apart := false, laid := [("copyist/ident.root", laid_copyist_ident_root)] }
def GraftOrdersSaid : Prop := graftOrdersRow.holds Tryd.pinned (OpenSpec.ofChange graftOrdersSpec)

/-- ITS FALSE NEIGHBOUR: 'it returns false'. Refute it at one input. -/
def graftOrdersWrong : ChangeSpec := { name := "graftOrders", fn := fun _ => fun
  | [d] => { results := [.lit (.bool false)], args := [d] }
  | _ => none }
def GraftOrdersWrongFalsely : Prop := graftOrdersRow.holds Tryd.pinned (OpenSpec.ofChange graftOrdersWrong)

/-- 'copyistlaw17.GraftTurns': WHATEVER THE INPUT: true; the input reads as it did. -/
def graftTurnsSpec : ChangeSpec := { name := "graftTurns", fn := fun _ => fun
  | [d1, d2] => { results := [.lit (.bool true)], args := [d1, d2] }
  | _ => none }
def graftTurnsRow : OpenClaim := { program := "ythblmlkkmebciaadoor", sum := "1ee66e3a909cf9c62a8a107b1eafec0b0d8c4ce6848715e7f5ba51d903932ec1", func := "copyist/copyistlaw17.GraftTurns", spec := "graftTurns", inPlace := ["slices.overlaps[*copyist/rope.Node[copyist/run.Run, copyist/run.Mass]]", "internal/abi.NoEscape"], unfollowed := true, recurses := true, named := ["copyist/ident.root"], apart := false, laid := [("copyist/ident.root", laid_copyist_ident_root)] }
def GraftTurnsSaid : Prop := graftTurnsRow.holds Tryd.pinned (OpenSpec.ofChange graftTurnsSpec)

/-- ITS FALSE NEIGHBOUR: 'it returns false'. Refute it at one input. -/
def graftTurnsWrong : ChangeSpec := { name := "graftTurns", fn := fun _ => fun
  | [d1, d2] => { results := [.lit (.bool false)], args := [d1, d2] }
  | _ => none }
def GraftTurnsWrongFalsely : Prop := graftTurnsRow.holds Tryd.pinned (OpenSpec.ofChange graftTurnsWrong)

/-- 'copyistlaw16.StoreAsks': WHATEVER THE INPUT: true; the input reads as it did. -/
def storeAsksSpec : ChangeSpec := { name := "storeAsks", fn := fun _ => fun
  | [d1, d2, d3] => { results := [.lit (.bool true)], args := [d1, d2, d3] }
  | _ => none }
def storeAsksRow : OpenClaim := { program := "ythblmlkkmebciaadoor", sum := "1ee66e3a909cf9c62a8a107b1eafec0b0d8c4ce6848715e7f5ba51d903932ec1", func := "copyist/copyistlaw16.StoreAsks", spec := "storeAsks", inPlace := ["slices.overlaps[*copyist/rope.Node[copyist/run.Run, copyist/run.Mass]]", "internal/abi.NoEscape"], unfollowed := true, recurses := true, named := ["copyist/ident.root"], apart := false, laid := [("copyist/ident.root", laid_copyist_ident_root)] }
def StoreAsksSaid : Prop := storeAsksRow.holds Tryd.pinned (OpenSpec.ofChange storeAsksSpec)

/-- ITS FALSE NEIGHBOUR: 'it returns false'. Refute it at one input. -/
def storeAsksWrong : ChangeSpec := { name := "storeAsks", fn := fun _ => fun
  | [d1, d2, d3] => { results := [.lit (.bool false)], args := [d1, d2, d3] }
  | _ => none }
def StoreAsksWrongFalsely : Prop := storeAsksRow.holds Tryd.pinned (OpenSpec.ofChange storeAsksWrong)

/- THE SECOND FORM. 'bulk': how many values and letters a reading holds, each counted each time it is reached (what is shared counts as often as it is met; a slice's spare places count too). A statement '..UptoSaid' is the law's where the arguments, and the package variables that the reading takes, are together of bulk at most 1048576: NARROWER than '..Said'. Prove '..Said' where nothing that the law and all that it calls make is longer than what came in: it says more and counts as full. Else prove '..UptoSaid'. A law counts once. -/
mutual
def uptoBulk {H : Type} : DataW H → Nat
  | .lit (.string bytes) => bytes.length + 1
  | .lit _ => 1
  | .nil => 1
  | .ptr d => uptoBulk d + 1
  | .slice elems spare => uptoBulkAll elems + uptoBulkAll spare + 1
  | .agg parts => uptoBulkAll parts + 1
  | .iface _ d => uptoBulk d + 1
  | .map entries => uptoBulkEntries entries + 1
  | .held _ => 1
def uptoBulkAll {H : Type} : List (DataW H) → Nat
  | [] => 0
  | d :: r => uptoBulk d + uptoBulkAll r
def uptoBulkEntries {H : Type} : List (Lit × DataW H) → Nat
  | [] => 0
  | x :: r => uptoBulkEntry x + uptoBulkEntries r
def uptoBulkEntry {H : Type} : Lit × DataW H → Nat
  | (.string bytes, d) => bytes.length + uptoBulk d + 1
  | (_, d) => uptoBulk d + 1
 end
def uptoSmall : (H : Type) → List (DataW H) → Bool := fun _ ds => decide (uptoBulkAll ds ≤ 1048576)
def OpenSpec.upto (s : _root_.Go.ChangeSpec) : _root_.Go.OpenSpec := { _root_.Go.OpenSpec.ofChange s with cond := some uptoSmall }

/-- 'copyistlaw16.StoreRuns', WHERE WHAT IT READS IS OF BULK AT MOST 1048576: true; the input reads as it did. -/
def storeRunsUptoRow : OpenClaim := { program := "ythblmlkkmebciaadoor", sum := "1ee66e3a909cf9c62a8a107b1eafec0b0d8c4ce6848715e7f5ba51d903932ec1", func := "copyist/copyistlaw16.StoreRuns", spec := "storeRuns", inPlace := ["slices.overlaps[*copyist/rope.Node[copyist/run.Run, copyist/run.Mass]]", "internal/abi.NoEscape"], unfollowed := true, recurses := true, named := ["copyist/ident.root"], apart := false, laid := [("copyist/ident.root", laid_copyist_ident_root)], narrowed := true }
def StoreRunsUptoSaid : Prop := storeRunsUptoRow.holds Tryd.pinned (OpenSpec.upto storeRunsSpec)

/-- 'copyistlaw16.StorePlays', WHERE WHAT IT READS IS OF BULK AT MOST 1048576: true; the input reads as it did. -/
def storePlaysUptoRow : OpenClaim := { program := "ythblmlkkmebciaadoor", sum := "1ee66e3a909cf9c62a8a107b1eafec0b0d8c4ce6848715e7f5ba51d903932ec1", func := "copyist/copyistlaw16.StorePlays", spec := "storePlays", inPlace := ["slices.overlaps[*copyist/rope.Node[copyist/run.Run, copyist/run.Mass]]", "internal/abi.NoEscape"], unfollowed := true, recurses := true, named := ["copyist/ident.root"], apart := false, laid := [("copyist/ident.root", laid_copyist_ident_root)], narrowed := true }
def StorePlaysUptoSaid : Prop := storePlaysUptoRow.holds Tryd.pinned (OpenSpec.upto storePlaysSpec)

/-- 'copyistlaw17.GraftWhere', WHERE WHAT IT READS IS OF BULK AT MOST 1048576: true; the input reads as it did. -/
def graftWhereUptoRow : OpenClaim := { program := "ythblmlkkmebciaadoor", sum := "1ee66e3a909cf9c62a8a107b1eafec0b0d8c4ce6848715e7f5ba51d903932ec1", func := "copyist/copyistlaw17.GraftWhere", spec := "graftWhere", inPlace := ["slices.overlaps[*copyist/rope.Node[copyist/run.Run, copyist/run.Mass]]", "internal/abi.NoEscape"], unfollowed := true, recurses := true, named := ["copyist/ident.root"], apart := false, laid := [("copyist/ident.root", laid_copyist_ident_root)], narrowed := true }
def GraftWhereUptoSaid : Prop := graftWhereUptoRow.holds Tryd.pinned (OpenSpec.upto graftWhereSpec)

/-- 'copyistlaw17.GraftOrders', WHERE WHAT IT READS IS OF BULK AT MOST 1048576: true; the input reads as it did. -/
def graftOrdersUptoRow : OpenClaim := { program := "ythblmlkkmebciaadoor", sum := "1ee66e3a909cf9c62a8a107b1eafec0b0d8c4ce6848715e7f5ba51d903932ec1", func := "copyist/copyistlaw17.GraftOrders", spec := "graftOrders", inPlace := ["slices.overlaps[*copyist/rope.Node[copyist/run.Run, copyist/run.Mass]]", "internal/abi.NoEscape"], unfollowed := true, recurses := true, named := ["copyist/ident.root"], apart := false, laid := [("copyist/ident.root", laid_copyist_ident_root)], narrowed := true }
def GraftOrdersUptoSaid : Prop := graftOrdersUptoRow.holds Tryd.pinned (OpenSpec.upto graftOrdersSpec)

/-- 'copyistlaw17.GraftTurns', WHERE WHAT IT READS IS OF BULK AT MOST 1048576: true; the input reads as it did. -/
def graftTurnsUptoRow : OpenClaim := { program := "ythblmlkkmebciaadoor", sum := "1ee66e3a909cf9c62a8a107b1eafec0b0d8c4ce6848715e7f5ba51d903932ec1", func := "copyist/copyistlaw17.GraftTurns", spec := "graftTurns", inPlace := ["slices.overlaps[*copyist/rope.Node[copyist/run.Run, copyist/run.Mass]]", "internal/abi.NoEscape"], unfollowed := true, recurses := true, named := ["copyist/ident.root"], apart := false, laid := [("copyist/ident.root", laid_copyist_ident_root)], narrowed := true }
def GraftTurnsUptoSaid : Prop := graftTurnsUptoRow.holds Tryd.pinned (OpenSpec.upto graftTurnsSpec)

/-- 'copyistlaw16.StoreAsks', WHERE WHAT IT READS IS OF BULK AT MOST 1048576: true; the input reads as it did. -/
def storeAsksUptoRow : OpenClaim := { program := "ythblmlkkmebciaadoor", sum := "1ee66e3a909cf9c62a8a107b1eafec0b0d8c4ce6848715e7f5ba51d903932ec1", func := "copyist/copyistlaw16.StoreAsks", spec := "storeAsks", inPlace := ["slices.overlaps[*copyist/rope.Node[copyist/run.Run, copyist/run.Mass]]", "internal/abi.NoEscape"], unfollowed := true, recurses := true, named := ["copyist/ident.root"], apart := false, laid := [("copyist/ident.root", laid_copyist_ident_root)], narrowed := true }
def StoreAsksUptoSaid : Prop := storeAsksUptoRow.holds Tryd.pinned (OpenSpec.upto storeAsksSpec)

end Rows
end Go.Proofs.YthblmlkkmebciaaDoor
