/-
  No cell of these rows narrows 'for every input' (looked for: loops, veiled, ifaces, maps, wideKeys, modest, calm, conditions, laid).
  DERIVED. THE GIVEN ROWS OF THIS SEAT. 3 by the template 'for every input the law returns true; each argument reads behind the call as it read before'; 0 by the template 'total and deterministic' (their statements: YtomhcjiefmaopaaTotals.lean).
  GIVEN WITH THE SEED: the statements are not yours to turn. If you find one false, say at which input.
  Laid BY PROGRAM, IN A SANDBOX (cutbox-rows.mjs): the forced cells as the released guide's own fill.sh prints them over the translation 4f5dc05ac865816f… (all of the seat's roots in one cut). By AI agents, Wed Nov 11 2026. No macro, syntax, notation, axiom, sorry.
-/
import Derived.Test.YtomhcjiefmaopaaChecked
import GoSem.Claim
import GoSem.ClaimJoined
import GoSem.ClaimMapViews
import Derived.JoinedTies
import Derived.KernelRfl
namespace Go.Proofs.Ytomhcjiefmaopaa
/- THE CELL 'sum', in the pinned program and in every row, IS THE sha256 OF THE DUMP (.gsa) THAT YtomhcjiefmaopaaProg.lean LOADS. Nothing in Lean hashes anything: it is a label: what it is worth is what the hold of that sum in a sandbox is worth. -/
noncomputable def Try.pinned : Pinned := { name := "ytomhcjiefmaopaa", sum := "4f5dc05ac865816ff396427bedc59b8e33365f829983d1784c435efff63019b6", checked := Try.checked }
namespace Rows
def none {H : Type} : Left H := { results := [], args := [] }

/-- 'copyistlaw33.GossipBytes': WHATEVER THE INPUT: true; the input reads as it did. -/
def gossipBytesSpec : ChangeSpec := { name := "gossipBytes", fn := fun _ => fun
  | [d1, d2] => { results := [.lit (.bool true)], args := [d1, d2] }
  | _ => none }
def gossipBytesRow : OpenClaim := { program := "ytomhcjiefmaopaa", sum := "4f5dc05ac865816ff396427bedc59b8e33365f829983d1784c435efff63019b6", func := "copyist/copyistlaw33.GossipBytes", spec := "gossipBytes", recurses := true, plainKeys := false, apart := false }
def GossipBytesSaid : Prop := gossipBytesRow.holds Try.pinned (OpenSpec.ofChange gossipBytesSpec)

/-- ITS FALSE NEIGHBOUR: 'it returns false'. Refute it at one input. -/
def gossipBytesWrong : ChangeSpec := { name := "gossipBytes", fn := fun _ => fun
  | [d1, d2] => { results := [.lit (.bool false)], args := [d1, d2] }
  | _ => none }
def GossipBytesWrongFalsely : Prop := gossipBytesRow.holds Try.pinned (OpenSpec.ofChange gossipBytesWrong)

/-- 'copyistlaw28.ArchiveBytes': WHATEVER THE INPUT: true; the input reads as it did. -/
def archiveBytesSpec : ChangeSpec := { name := "archiveBytes", fn := fun _ => fun
  | [d] => { results := [.lit (.bool true)], args := [d] }
  | _ => none }
def archiveBytesRow : OpenClaim := { program := "ytomhcjiefmaopaa", sum := "4f5dc05ac865816ff396427bedc59b8e33365f829983d1784c435efff63019b6", func := "copyist/copyistlaw28.ArchiveBytes", spec := "archiveBytes", unfollowed := true, recurses := true, plainKeys := false, apart := false }
def ArchiveBytesSaid : Prop := archiveBytesRow.holds Try.pinned (OpenSpec.ofChange archiveBytesSpec)

/-- ITS FALSE NEIGHBOUR: 'it returns false'. Refute it at one input. -/
def archiveBytesWrong : ChangeSpec := { name := "archiveBytes", fn := fun _ => fun
  | [d] => { results := [.lit (.bool false)], args := [d] }
  | _ => none }
def ArchiveBytesWrongFalsely : Prop := archiveBytesRow.holds Try.pinned (OpenSpec.ofChange archiveBytesWrong)

/-- 'copyistlaw27.ProbeReads': WHATEVER THE INPUT: true; the input reads as it did. -/
def probeReadsSpec : ChangeSpec := { name := "probeReads", fn := fun _ => fun
  | [d] => { results := [.lit (.bool true)], args := [d] }
  | _ => none }
def probeReadsRow : OpenClaim := { program := "ytomhcjiefmaopaa", sum := "4f5dc05ac865816ff396427bedc59b8e33365f829983d1784c435efff63019b6", func := "copyist/copyistlaw27.ProbeReads", spec := "probeReads", recurses := true, plainKeys := false, apart := false }
def ProbeReadsSaid : Prop := probeReadsRow.holds Try.pinned (OpenSpec.ofChange probeReadsSpec)

/-- ITS FALSE NEIGHBOUR: 'it returns false'. Refute it at one input. -/
def probeReadsWrong : ChangeSpec := { name := "probeReads", fn := fun _ => fun
  | [d] => { results := [.lit (.bool false)], args := [d] }
  | _ => none }
def ProbeReadsWrongFalsely : Prop := probeReadsRow.holds Try.pinned (OpenSpec.ofChange probeReadsWrong)

/- THE SECOND FORM. 'bulk': how many values and letters a reading holds, each counted each time it is reached (what is shared counts as often as it is met; a slice's spare places count too). A statement '..UptoSaid' is the law's where the arguments, and the package variables that the reading takes, are together of bulk at most 1048576: NARROWER than '..Said'. Prove '..Said' where nothing that the law and all that it calls make is longer than what came in: it says more and counts as full. Else prove '..UptoSaid'. A law counts once. -/
mutual
def uptoBulk {H : Type} : DataW H → Nat
  | .lit (.string bytes) => bytes.length + 1
  | .lit _ => 1
  | .nil => 1
  | .ptr d => uptoBulk d + 1
  | .slice elems spare => uptoBulkAll elems + uptoBulkAll spare + 1
  | .agg parts => uptoBulkAll parts + 1
  | .iface _ d => uptoBulk d + 1
  | .map entries => uptoBulkEntries entries + 1
  | .held _ => 1
def uptoBulkAll {H : Type} : List (DataW H) → Nat
  | [] => 0
  | d :: r => uptoBulk d + uptoBulkAll r
def uptoBulkEntries {H : Type} : List (Lit × DataW H) → Nat
  | [] => 0
  | x :: r => uptoBulkEntry x + uptoBulkEntries r
def uptoBulkEntry {H : Type} : Lit × DataW H → Nat
  | (.string bytes, d) => bytes.length + uptoBulk d + 1
  | (_, d) => uptoBulk d + 1
 end
def uptoSmall : (H : Type) → List (DataW H) → Bool := fun _ ds => decide (uptoBulkAll ds ≤ 1048576)
def OpenSpec.upto (s : _root_.Go.ChangeSpec) : _root_.Go.OpenSpec := { _root_.Go.OpenSpec.ofChange s with cond := some uptoSmall }

/-- 'copyistlaw33.GossipBytes', WHERE WHAT IT READS IS OF BULK AT MOST 1048576: true; the input reads as it did. -/
def gossipBytesUptoRow : OpenClaim := { program := "ytomhcjiefmaopaa", sum := "4f5dc05ac865816ff396427bedc59b8e33365f829983d1784c435efff63019b6", func := "copyist/copyistlaw33.GossipBytes", spec := "gossipBytes", recurses := true, plainKeys := false, apart := false, narrowed := true }
def GossipBytesUptoSaid : Prop := gossipBytesUptoRow.holds Try.pinned (OpenSpec.upto gossipBytesSpec)

/-- 'copyistlaw28.ArchiveBytes', WHERE WHAT IT READS IS OF BULK AT MOST 1048576: true; the input reads as it did. -/
def archiveBytesUptoRow : OpenClaim := { program := "ytomhcjiefmaopaa", sum := "4f5dc05ac865816ff396427bedc59b8e33365f829983d1784c435efff63019b6", func := "copyist/copyistlaw28.ArchiveBytes", spec := "archiveBytes", unfollowed := true, recurses := true, plainKeys := false, apart := false, narrowed := true }
def ArchiveBytesUptoSaid : Prop := archiveBytesUptoRow.holds Try.pinned (OpenSpec.upto archiveBytesSpec)

/-- 'copyistlaw27.ProbeReads', WHERE WHAT IT READS IS OF BULK AT MOST 1048576: true; the input reads as it did. -/
def probeReadsUptoRow : OpenClaim := { program := "ytomhcjiefmaopaa", sum := "4f5dc05ac865816ff396427bedc59b8e33365f829983d1784c435efff63019b6", func := "copyist/copyistlaw27.ProbeReads", spec := "probeReads", recurses := true, plainKeys := false, apart := false, narrowed := true }
def ProbeReadsUptoSaid : Prop := probeReadsUptoRow.holds Try.pinned (OpenSpec.upto probeReadsSpec)

end Rows
end Go.Proofs.Ytomhcjiefmaopaa
