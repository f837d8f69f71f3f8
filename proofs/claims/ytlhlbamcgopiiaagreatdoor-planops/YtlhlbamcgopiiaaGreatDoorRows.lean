/-
  NARROWER THAN 'FOR EVERY INPUT', by the rows' own cells (each row's printed sentence says how): PlanJoins: laid · CoreUndoes: laid · CoreTexts: laid · CoreSets: laid · CoreOnce: laid · PlanOps: laid · CoreElems: laid.
  DERIVED. THE GIVEN ROWS OF THIS SEAT. 7 by the template 'for every input the law returns true; each argument reads behind the call as it read before'; 0 by the template 'total and deterministic' (their statements: YtlhlbamcgopiiaaGreatDoorTotals.lean).
  GIVEN WITH THE SEED: the statements are not yours to turn. If you find one false, say at which input.
  Laid BY PROGRAM, IN A SANDBOX (cutbox-rows.mjs): the forced cells as the released guide's own fill.sh prints them over the translation ebbd7ec365794fc5… (all of the seat's roots in one cut). By AI agents, Wed Nov 11 2026. No macro, syntax, notation, axiom, sorry.
-/
import Derived.Test.YtlhlbamcgopiiaaGreatDoorChecked
import GoSem.Claim
import GoSem.ClaimJoined
import GoSem.ClaimMapViews
import Derived.JoinedTies
import Derived.KernelRfl
namespace Go.Proofs.YtlhlbamcgopiiaaGreatDoor
/- THE CELL 'sum', in the pinned program and in every row, IS THE sha256 OF THE DUMP (.gsa) THAT YtlhlbamcgopiiaaGreatDoorProg.lean LOADS. Nothing in Lean hashes anything: it is a label: what it is worth is what the hold of that sum in a sandbox is worth. -/
noncomputable def Tryz.pinned : Pinned := { name := "ytlhlbamcgopiiaagreatdoor", sum := "ebbd7ec365794fc59930d0906dbdb8c3ee3dfb3ef1b1b970878a9c4d6ecd6d26", checked := Tryz.checked }
namespace Rows
def none {H : Type} : Left H := { results := [], args := [] }

/- WHAT THE LISTED PACKAGE-LEVEL VARIABLES READ AS WHEN THE CALL BEGINS. Each datum BY PROGRAM (the guide's laid-datum.mjs) off the statement by which the dump's own 'gosem.cut.vars' lays the variable. In a bare row this is a premise. The card (YtlhlbamcgopiiaaGreatDoorCards.lean) ties it to the program's text. -/
def laid_copyist_ident_root {H : Type} : DataW H := .agg [.lit (.int .u16 0), .lit (.int .u32 0)]

/-- 'copyistlaw22.PlanJoins': WHATEVER THE INPUT: true; the input reads as it did. -/
def planJoinsSpec : ChangeSpec := { name := "planJoins", fn := fun _ => fun
  | [d1, d2] => { results := [.lit (.bool true)], args := [d1, d2] }
  | _ => none }
def planJoinsRow : OpenClaim := { program := "ytlhlbamcgopiiaagreatdoor", sum := "ebbd7ec365794fc59930d0906dbdb8c3ee3dfb3ef1b1b970878a9c4d6ecd6d26", func := "copyist/copyistlaw22.PlanJoins", spec := "planJoins", inPlace := ["slices.overlaps[*copyist/rope.Node[copyist/run.Run, copyist/run.Mass]]", "internal/abi.NoEscape"], unfollowed := true, recurses := true, named := ["copyist/ident.root"], plainKeys := false, apart := false, laid := [("copyist/ident.root", laid_copyist_ident_root)] }
def PlanJoinsSaid : Prop := planJoinsRow.holds Tryz.pinned (OpenSpec.ofChange planJoinsSpec)

/-- ITS FALSE NEIGHBOUR: 'it returns false'. Refute it at one input. -/
def planJoinsWrong : ChangeSpec := { name := "planJoins", fn := fun _ => fun
  | [d1, d2] => { results := [.lit (.bool false)], args := [d1, d2] }
  | _ => none }
def PlanJoinsWrongFalsely : Prop := planJoinsRow.holds Tryz.pinned (OpenSpec.ofChange planJoinsWrong)

/-- 'copyistlaw20.CoreUndoes': WHATEVER THE INPUT: true; the input reads as it did. -/
def coreUndoesSpec : ChangeSpec := { name := "coreUndoes", fn := fun _ => fun
  | [d1, d2] => { results := [.lit (.bool true)], args := [d1, d2] }
  | _ => none }
def coreUndoesRow : OpenClaim := { program := "ytlhlbamcgopiiaagreatdoor", sum := "ebbd7ec365794fc59930d0906dbdb8c3ee3dfb3ef1b1b970878a9c4d6ecd6d26", func := "copyist/copyistlaw20.CoreUndoes", spec := "coreUndoes", inPlace := ["slices.overlaps[*copyist/rope.Node[copyist/run.Run, copyist/run.Mass]]", "internal/abi.NoEscape"], unfollowed := true, recurses := true, named := ["copyist/ident.root"], plainKeys := false, apart := false, laid := [("copyist/ident.root", laid_copyist_ident_root)] }
def CoreUndoesSaid : Prop := coreUndoesRow.holds Tryz.pinned (OpenSpec.ofChange coreUndoesSpec)

/-- ITS FALSE NEIGHBOUR: 'it returns false'. Refute it at one input. -/
def coreUndoesWrong : ChangeSpec := { name := "coreUndoes", fn := fun _ => fun
  | [d1, d2] => { results := [.lit (.bool false)], args := [d1, d2] }
  | _ => none }
def CoreUndoesWrongFalsely : Prop := coreUndoesRow.holds Tryz.pinned (OpenSpec.ofChange coreUndoesWrong)

/-- 'copyistlaw20.CoreTexts': WHATEVER THE INPUT: true; the input reads as it did. -/
def coreTextsSpec : ChangeSpec := { name := "coreTexts", fn := fun _ => fun
  | [d] => { results := [.lit (.bool true)], args := [d] }
  | _ => none }
def coreTextsRow : OpenClaim := { program := "ytlhlbamcgopiiaagreatdoor", sum := "ebbd7ec365794fc59930d0906dbdb8c3ee3dfb3ef1b1b970878a9c4d6ecd6d26", func := "copyist/copyistlaw20.CoreTexts", spec := "coreTexts", inPlace := ["slices.overlaps[*copyist/rope.Node[copyist/run.Run, copyist/run.Mass]]", "internal/abi.NoEscape"], unfollowed := true, recurses := true, named := ["copyist/ident.root"], plainKeys := false, apart := false, laid := [("copyist/ident.root", laid_copyist_ident_root)] }
def CoreTextsSaid : Prop := coreTextsRow.holds Tryz.pinned (OpenSpec.ofChange coreTextsSpec)

/-- ITS FALSE NEIGHBOUR: 'it returns false'. Refute it at one input. -/
def coreTextsWrong : ChangeSpec := { name := "coreTexts", fn := fun _ => fun
  | [d] => { results := [.lit (.bool false)], args := [d] }
  | _ => none }
def CoreTextsWrongFalsely : Prop := coreTextsRow.holds Tryz.pinned (OpenSpec.ofChange coreTextsWrong)

/-- 'copyistlaw20.CoreSets': WHATEVER THE INPUT: true; the input reads as it did. -/
def coreSetsSpec : ChangeSpec := { name := "coreSets", fn := fun _ => fun
  | [d1, d2] => { results := [.lit (.bool true)], args := [d1, d2] }
  | _ => none }
def coreSetsRow : OpenClaim := { program := "ytlhlbamcgopiiaagreatdoor", sum := "ebbd7ec365794fc59930d0906dbdb8c3ee3dfb3ef1b1b970878a9c4d6ecd6d26", func := "copyist/copyistlaw20.CoreSets", spec := "coreSets", inPlace := ["slices.overlaps[*copyist/rope.Node[copyist/run.Run, copyist/run.Mass]]", "internal/abi.NoEscape"], unfollowed := true, recurses := true, named := ["copyist/ident.root"], plainKeys := false, apart := false, laid := [("copyist/ident.root", laid_copyist_ident_root)] }
def CoreSetsSaid : Prop := coreSetsRow.holds Tryz.pinned (OpenSpec.ofChange coreSetsSpec)

/-- ITS FALSE NEIGHBOUR: 'it returns false'. Refute it at one input. -/
def coreSetsWrong : ChangeSpec := { name := "coreSets", fn := fun _ => fun
  | [d1, d2] => { results := [.lit (.bool false)], args := [d1, d2] }
  | _ => none }
def CoreSetsWrongFalsely : Prop := coreSetsRow.holds Tryz.pinned (OpenSpec.ofChange coreSetsWrong)

/-- 'copyistlaw20.CoreOnce': WHATEVER THE INPUT: true; the input reads as it did. -/
def coreOnceSpec : ChangeSpec := { name := "coreOnce", fn := fun _ => fun
  | [d] => { results := [.lit (.bool true)], args := [d] }
  | _ => none }
def coreOnceRow : OpenClaim := { program := "ytlhlbamcgopiiaagreatdoor", sum := "ebbd7ec365794fc59930d0906dbdb8c3ee3dfb3ef1b1b970878a9c4d6ecd6d26", func := "copyist/copyistlaw20.CoreOnce", spec := "coreOnce", inPlace := ["slices.overlaps[*copyist/rope.Node[copyist/run.Run, copyist/run.Mass]]", "internal/abi.NoEscape"], unfollowed := true, recurses := true, named := ["copyist/ident.root"], plainKeys := false, apart := false, laid := [("copyist/ident.root", laid_copyist_ident_root)] }
def CoreOnceSaid : Prop := coreOnceRow.holds Tryz.pinned (OpenSpec.ofChange coreOnceSpec)

/-- ITS FALSE NEIGHBOUR: 'it returns false'. Refute it at one input. -/
def coreOnceWrong : ChangeSpec := { name := "coreOnce", fn := fun _ => fun
  | [d] => { results := [.lit (.bool false)], args := [d] }
  | _ => none }
def CoreOnceWrongFalsely : Prop := coreOnceRow.holds Tryz.pinned (OpenSpec.ofChange coreOnceWrong)

/-- 'copyistlaw22.PlanOps': WHATEVER THE INPUT: true; the input reads as it did. -/
def planOpsSpec : ChangeSpec := { name := "planOps", fn := fun _ => fun
  | [d] => { results := [.lit (.bool true)], args := [d] }
  | _ => none }
def planOpsRow : OpenClaim := { program := "ytlhlbamcgopiiaagreatdoor", sum := "ebbd7ec365794fc59930d0906dbdb8c3ee3dfb3ef1b1b970878a9c4d6ecd6d26", func := "copyist/copyistlaw22.PlanOps", spec := "planOps", inPlace := ["slices.overlaps[*copyist/rope.Node[copyist/run.Run, copyist/run.Mass]]", "internal/abi.NoEscape"], unfollowed := true, recurses := true, named := ["copyist/ident.root"], plainKeys := false, apart := false, laid := [("copyist/ident.root", laid_copyist_ident_root)] }
def PlanOpsSaid : Prop := planOpsRow.holds Tryz.pinned (OpenSpec.ofChange planOpsSpec)

/-- ITS FALSE NEIGHBOUR: 'it returns false'. Refute it at one input. -/
def planOpsWrong : ChangeSpec := { name := "planOps", fn := fun _ => fun
  | [d] => { results := [.lit (.bool false)], args := [d] }
  | _ => none }
def PlanOpsWrongFalsely : Prop := planOpsRow.holds Tryz.pinned (OpenSpec.ofChange planOpsWrong)

/-- 'copyistlaw20.CoreElems': WHATEVER THE INPUT: true; the input reads as it did. -/
def coreElemsSpec : ChangeSpec := { name := "coreElems", fn := fun _ => fun
  | [d1, d2, d3] => { results := [.lit (.bool true)], args := [d1, d2, d3] }
  | _ => none }
def coreElemsRow : OpenClaim := { program := "ytlhlbamcgopiiaagreatdoor", sum := "ebbd7ec365794fc59930d0906dbdb8c3ee3dfb3ef1b1b970878a9c4d6ecd6d26", func := "copyist/copyistlaw20.CoreElems", spec := "coreElems", inPlace := ["slices.overlaps[*copyist/rope.Node[copyist/run.Run, copyist/run.Mass]]", "internal/abi.NoEscape"], unfollowed := true, recurses := true, named := ["copyist/ident.root"], plainKeys := false, apart := false, laid := [("copyist/ident.root", laid_copyist_ident_root)] }
def CoreElemsSaid : Prop := coreElemsRow.holds Tryz.pinned (OpenSpec.ofChange coreElemsSpec)

/-- ITS FALSE NEIGHBOUR: 'it returns false'. Refute it at one input. -/
def coreElemsWrong : ChangeSpec := { name := "coreElems", fn := fun _ => fun
  | [d1, d2, d3] => { results := [.lit (.bool false)], args := [d1, d2, d3] }
  | _ => none }
def CoreElemsWrongFalsely : Prop := coreElemsRow.holds Tryz.pinned (OpenSpec.ofChange coreElemsWrong)

/- THE SECOND FORM. 'bulk': how many values and letters a reading holds, each counted each time it is reached (what is shared counts as often as it is met; a slice's spare places count too). A statement '..UptoSaid' is the law's where the arguments, and the package variables that the reading takes, are together of bulk at most 1048576: NARROWER than '..Said'. Prove '..Said' where nothing that the law and all that it calls make is longer than what came in: it says more and counts as full. Else prove '..UptoSaid'. A law counts once. -/
mutual
def uptoBulk {H : Type} : DataW H → Nat
  | .lit (.string bytes) => bytes.length + 1
  | .lit _ => 1
  | .nil => 1
  | .ptr d => uptoBulk d + 1
  | .slice elems spare => uptoBulkAll elems + uptoBulkAll spare + 1
  | .agg parts => uptoBulkAll parts + 1
  | .iface _ d => uptoBulk d + 1
  | .map entries => uptoBulkEntries entries + 1
  | .held _ => 1
def uptoBulkAll {H : Type} : List (DataW H) → Nat
  | [] => 0
  | d :: r => uptoBulk d + uptoBulkAll r
def uptoBulkEntries {H : Type} : List (Lit × DataW H) → Nat
  | [] => 0
  | x :: r => uptoBulkEntry x + uptoBulkEntries r
def uptoBulkEntry {H : Type} : Lit × DataW H → Nat
  | (.string bytes, d) => bytes.length + uptoBulk d + 1
  | (_, d) => uptoBulk d + 1
 end
def uptoSmall : (H : Type) → List (DataW H) → Bool := fun _ ds => decide (uptoBulkAll ds ≤ 1048576)
def OpenSpec.upto (s : _root_.Go.ChangeSpec) : _root_.Go.OpenSpec := { _root_.Go.OpenSpec.ofChange s with cond := some uptoSmall }

/-- 'copyistlaw22.PlanJoins', WHERE WHAT IT READS IS OF BULK AT MOST 1048576: true; the input reads as it did. -/
def planJoinsUptoRow : OpenClaim := { program := "ytlhlbamcgopiiaagreatdoor", sum := "ebbd7ec365794fc59930d0906dbdb8c3ee3dfb3ef1b1b970878a9c4d6ecd6d26", func := "copyist/copyistlaw22.PlanJoins", spec := "planJoins", inPlace := ["slices.overlaps[*copyist/rope.Node[copyist/run.Run, copyist/run.Mass]]", "internal/abi.NoEscape"], unfollowed := true, recurses := true, named := ["copyist/ident.root"], plainKeys := false, apart := false, laid := [("copyist/ident.root", laid_copyist_ident_root)], narrowed := true }
def PlanJoinsUptoSaid : Prop := planJoinsUptoRow.holds Tryz.pinned (OpenSpec.upto planJoinsSpec)

/-- 'copyistlaw20.CoreUndoes', WHERE WHAT IT READS IS OF BULK AT MOST 1048576: true; the input reads as it did. -/
def coreUndoesUptoRow : OpenClaim := { program := "ytlhlbamcgopiiaagreatdoor", sum := "ebbd7ec365794fc59930d0906dbdb8c3ee3dfb3ef1b1b970878a9c4d6ecd6d26", func := "copyist/copyistlaw20.CoreUndoes", spec := "coreUndoes", inPlace := ["slices.overlaps[*copyist/rope.Node[copyist/run.Run, copyist/run.Mass]]", "internal/abi.NoEscape"], unfollowed := true, recurses := true, named := ["copyist/ident.root"], plainKeys := false, apart := false, laid := [("copyist/ident.root", laid_copyist_ident_root)], narrowed := true }
def CoreUndoesUptoSaid : Prop := coreUndoesUptoRow.holds Tryz.pinned (OpenSpec.upto coreUndoesSpec)

/-- 'copyistlaw20.CoreTexts', WHERE WHAT IT READS IS OF BULK AT MOST 1048576: true; the input reads as it did. -/
def coreTextsUptoRow : OpenClaim := { program := "ytlhlbamcgopiiaagreatdoor", sum := "ebbd7ec365794fc59930d0906dbdb8c3ee3dfb3ef1b1b970878a9c4d6ecd6d26", func := "copyist/copyistlaw20.CoreTexts", spec := "coreTexts", inPlace := ["slices.overlaps[*copyist/rope.Node[copyist/run.Run, copyist/run.Mass]]", "internal/abi.NoEscape"], unfollowed := true, recurses := true, named := ["copyist/ident.root"], plainKeys := false, apart := false, laid := [("copyist/ident.root", laid_copyist_ident_root)], narrowed := true }
def CoreTextsUptoSaid : Prop := coreTextsUptoRow.holds Tryz.pinned (OpenSpec.upto coreTextsSpec)

/-- 'copyistlaw20.CoreSets', WHERE WHAT IT READS IS OF BULK AT MOST 1048576: true; the input reads as it did. -/
def coreSetsUptoRow : OpenClaim := { program := "ytlhlbamcgopiiaagreatdoor", sum := "ebbd7ec365794fc59930d0906dbdb8c3ee3dfb3ef1b1b970878a9c4d6ecd6d26", func := "copyist/copyistlaw20.CoreSets", spec := "coreSets", inPlace := ["slices.overlaps[*copyist/rope.Node[copyist/run.Run, copyist/run.Mass]]", "internal/abi.NoEscape"], unfollowed := true, recurses := true, named := ["copyist/ident.root"], plainKeys := false, apart := false, laid := [("copyist/ident.root", laid_copyist_ident_root)], narrowed := true }
def CoreSetsUptoSaid : Prop := coreSetsUptoRow.holds Tryz.pinned (OpenSpec.upto coreSetsSpec)

/-- 'copyistlaw20.CoreOnce', WHERE WHAT IT READS IS OF BULK AT MOST 1048576: true; the input reads as it did. -/
def coreOnceUptoRow : OpenClaim := { program := "ytlhlbamcgopiiaagreatdoor", sum := "ebbd7ec365794fc59930d0906dbdb8c3ee3dfb3ef1b1b970878a9c4d6ecd6d26", func := "copyist/copyistlaw20.CoreOnce", spec := "coreOnce", inPlace := ["slices.overlaps[*copyist/rope.Node[copyist/run.Run, copyist/run.Mass]]", "internal/abi.NoEscape"], unfollowed := true, recurses := true, named := ["copyist/ident.root"], plainKeys := false, apart := false, laid := [("copyist/ident.root", laid_copyist_ident_root)], narrowed := true }
def CoreOnceUptoSaid : Prop := coreOnceUptoRow.holds Tryz.pinned (OpenSpec.upto coreOnceSpec)

/-- 'copyistlaw22.PlanOps', WHERE WHAT IT READS IS OF BULK AT MOST 1048576: true; the input reads as it did. -/
def planOpsUptoRow : OpenClaim := { program := "ytlhlbamcgopiiaagreatdoor", sum := "ebbd7ec365794fc59930d0906dbdb8c3ee3dfb3ef1b1b970878a9c4d6ecd6d26", func := "copyist/copyistlaw22.PlanOps", spec := "planOps", inPlace := ["slices.overlaps[*copyist/rope.Node[copyist/run.Run, copyist/run.Mass]]", "internal/abi.NoEscape"], unfollowed := true, recurses := true, named := ["copyist/ident.root"], plainKeys := false, apart := false, laid := [("copyist/ident.root", laid_copyist_ident_root)], narrowed := true }
def PlanOpsUptoSaid : Prop := planOpsUptoRow.holds Tryz.pinned (OpenSpec.upto planOpsSpec)

/-- 'copyistlaw20.CoreElems', WHERE WHAT IT READS IS OF BULK AT MOST 1048576: true; the input reads as it did. -/
def coreElemsUptoRow : OpenClaim := { program := "ytlhlbamcgopiiaagreatdoor", sum := "ebbd7ec365794fc59930d0906dbdb8c3ee3dfb3ef1b1b970878a9c4d6ecd6d26", func := "copyist/copyistlaw20.CoreElems", spec := "coreElems", inPlace := ["slices.overlaps[*copyist/rope.Node[copyist/run.Run, copyist/run.Mass]]", "internal/abi.NoEscape"], unfollowed := true, recurses := true, named := ["copyist/ident.root"], plainKeys := false, apart := false, laid := [("copyist/ident.root", laid_copyist_ident_root)], narrowed := true }
def CoreElemsUptoSaid : Prop := coreElemsUptoRow.holds Tryz.pinned (OpenSpec.upto coreElemsSpec)

end Rows
end Go.Proofs.YtlhlbamcgopiiaaGreatDoor
