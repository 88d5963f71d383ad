/-
  No cell of these rows narrows 'for every input' (looked for: loops, veiled, ifaces, maps, wideKeys, modest, calm, conditions, laid).
  DERIVED. THE GIVEN ROWS OF THIS SEAT. 4 by the template 'for every input the law returns true; each argument reads behind the call as it read before'; 0 by the template 'total and deterministic' (their statements: YtdacemiaihidaaaTotals.lean).
  GIVEN WITH THE SEED: the statements are not yours to turn. If you find one false, say at which input.
  Laid BY PROGRAM, IN A SANDBOX (cutbox-rows.mjs): the forced cells as the released guide's own fill.sh prints them over the translation fbb16bebcbd94c5b… (all of the seat's roots in one cut). By AI agents, Wed Nov 11 2026. No macro, syntax, notation, axiom, sorry.
-/
import Derived.Test.YtdacemiaihidaaaChecked
import GoSem.Claim
import GoSem.ClaimJoined
import GoSem.ClaimMapViews
import Derived.JoinedTies
import Derived.KernelRfl
namespace Go.Proofs.Ytdacemiaihidaaa
/- THE CELL 'sum', in the pinned program and in every row, IS THE sha256 OF THE DUMP (.gsa) THAT YtdacemiaihidaaaProg.lean LOADS. Nothing in Lean hashes anything: it is a label: what it is worth is what the hold of that sum in a sandbox is worth. -/
noncomputable def Try.pinned : Pinned := { name := "ytdacemiaihidaaa", sum := "fbb16bebcbd94c5b657678082c8c4cc31613337189fbbde436c06ca2f4f3bd20", checked := Try.checked }
namespace Rows
def none {H : Type} : Left H := { results := [], args := [] }

/-- 'embrasurelaw10.PcpTells': WHATEVER THE INPUT: true; the input reads as it did. -/
def pcpTellsSpec : ChangeSpec := { name := "pcpTells", fn := fun _ => fun
  | [d1, d2] => { results := [.lit (.bool true)], args := [d1, d2] }
  | _ => none }
def pcpTellsRow : OpenClaim := { program := "ytdacemiaihidaaa", sum := "fbb16bebcbd94c5b657678082c8c4cc31613337189fbbde436c06ca2f4f3bd20", func := "embrasure/embrasurelaw10.PcpTells", spec := "pcpTells", apart := false }
def PcpTellsSaid : Prop := pcpTellsRow.holds Try.pinned (OpenSpec.ofChange pcpTellsSpec)

/-- ITS FALSE NEIGHBOUR: 'it returns false'. Refute it at one input. -/
def pcpTellsWrong : ChangeSpec := { name := "pcpTells", fn := fun _ => fun
  | [d1, d2] => { results := [.lit (.bool false)], args := [d1, d2] }
  | _ => none }
def PcpTellsWrongFalsely : Prop := pcpTellsRow.holds Try.pinned (OpenSpec.ofChange pcpTellsWrong)

/-- 'embrasurelaw10.PcpReads': WHATEVER THE INPUT: true; the input reads as it did. -/
def pcpReadsSpec : ChangeSpec := { name := "pcpReads", fn := fun _ => fun
  | [d] => { results := [.lit (.bool true)], args := [d] }
  | _ => none }
def pcpReadsRow : OpenClaim := { program := "ytdacemiaihidaaa", sum := "fbb16bebcbd94c5b657678082c8c4cc31613337189fbbde436c06ca2f4f3bd20", func := "embrasure/embrasurelaw10.PcpReads", spec := "pcpReads", apart := false }
def PcpReadsSaid : Prop := pcpReadsRow.holds Try.pinned (OpenSpec.ofChange pcpReadsSpec)

/-- ITS FALSE NEIGHBOUR: 'it returns false'. Refute it at one input. -/
def pcpReadsWrong : ChangeSpec := { name := "pcpReads", fn := fun _ => fun
  | [d] => { results := [.lit (.bool false)], args := [d] }
  | _ => none }
def PcpReadsWrongFalsely : Prop := pcpReadsRow.holds Try.pinned (OpenSpec.ofChange pcpReadsWrong)

/-- 'embrasurelaw10.PcpCut': WHATEVER THE INPUT: true; the input reads as it did. -/
def pcpCutSpec : ChangeSpec := { name := "pcpCut", fn := fun _ => fun
  | [d1, d2, d3] => { results := [.lit (.bool true)], args := [d1, d2, d3] }
  | _ => none }
def pcpCutRow : OpenClaim := { program := "ytdacemiaihidaaa", sum := "fbb16bebcbd94c5b657678082c8c4cc31613337189fbbde436c06ca2f4f3bd20", func := "embrasure/embrasurelaw10.PcpCut", spec := "pcpCut", apart := false }
def PcpCutSaid : Prop := pcpCutRow.holds Try.pinned (OpenSpec.ofChange pcpCutSpec)

/-- ITS FALSE NEIGHBOUR: 'it returns false'. Refute it at one input. -/
def pcpCutWrong : ChangeSpec := { name := "pcpCut", fn := fun _ => fun
  | [d1, d2, d3] => { results := [.lit (.bool false)], args := [d1, d2, d3] }
  | _ => none }
def PcpCutWrongFalsely : Prop := pcpCutRow.holds Try.pinned (OpenSpec.ofChange pcpCutWrong)

/-- 'embrasurelaw10.PcpApart': WHATEVER THE INPUT: true; the input reads as it did. -/
def pcpApartSpec : ChangeSpec := { name := "pcpApart", fn := fun _ => fun
  | [d1, d2, d3] => { results := [.lit (.bool true)], args := [d1, d2, d3] }
  | _ => none }
def pcpApartRow : OpenClaim := { program := "ytdacemiaihidaaa", sum := "fbb16bebcbd94c5b657678082c8c4cc31613337189fbbde436c06ca2f4f3bd20", func := "embrasure/embrasurelaw10.PcpApart", spec := "pcpApart", unfollowed := true, recurses := true, apart := false }
def PcpApartSaid : Prop := pcpApartRow.holds Try.pinned (OpenSpec.ofChange pcpApartSpec)

/-- ITS FALSE NEIGHBOUR: 'it returns false'. Refute it at one input. -/
def pcpApartWrong : ChangeSpec := { name := "pcpApart", fn := fun _ => fun
  | [d1, d2, d3] => { results := [.lit (.bool false)], args := [d1, d2, d3] }
  | _ => none }
def PcpApartWrongFalsely : Prop := pcpApartRow.holds Try.pinned (OpenSpec.ofChange pcpApartWrong)

/- THE SECOND FORM. 'bulk': how many values and letters a reading holds, each counted each time it is reached (what is shared counts as often as it is met; a slice's spare places count too). A statement '..UptoSaid' is the law's where the arguments, and the package variables that the reading takes, are together of bulk at most 1048576: NARROWER than '..Said'. Prove '..Said' where nothing that the law and all that it calls make is longer than what came in: it says more and counts as full. Else prove '..UptoSaid'. A law counts once. -/
mutual
def uptoBulk {H : Type} : DataW H → Nat
  | .lit (.string bytes) => bytes.length + 1
  | .lit _ => 1
  | .nil => 1
  | .ptr d => uptoBulk d + 1
  | .slice elems spare => uptoBulkAll elems + uptoBulkAll spare + 1
  | .agg parts => uptoBulkAll parts + 1
  | .iface _ d => uptoBulk d + 1
  | .map entries => uptoBulkEntries entries + 1
  | .held _ => 1
def uptoBulkAll {H : Type} : List (DataW H) → Nat
  | [] => 0
  | d :: r => uptoBulk d + uptoBulkAll r
def uptoBulkEntries {H : Type} : List (Lit × DataW H) → Nat
  | [] => 0
  | x :: r => uptoBulkEntry x + uptoBulkEntries r
def uptoBulkEntry {H : Type} : Lit × DataW H → Nat
  | (.string bytes, d) => bytes.length + uptoBulk d + 1
  | (_, d) => uptoBulk d + 1
 end
def uptoSmall : (H : Type) → List (DataW H) → Bool := fun _ ds => decide (uptoBulkAll ds ≤ 1048576)
def OpenSpec.upto (s : _root_.Go.ChangeSpec) : _root_.Go.OpenSpec := { _root_.Go.OpenSpec.ofChange s with cond := some uptoSmall }

/-- 'embrasurelaw10.PcpTells', WHERE WHAT IT READS IS OF BULK AT MOST 1048576: true; the input reads as it did. -/
def pcpTellsUptoRow : OpenClaim := { program := "ytdacemiaihidaaa", sum := "fbb16bebcbd94c5b657678082c8c4cc31613337189fbbde436c06ca2f4f3bd20", func := "embrasure/embrasurelaw10.PcpTells", spec := "pcpTells", apart := false, narrowed := true }
def PcpTellsUptoSaid : Prop := pcpTellsUptoRow.holds Try.pinned (OpenSpec.upto pcpTellsSpec)

/-- 'embrasurelaw10.PcpReads', WHERE WHAT IT READS IS OF BULK AT MOST 1048576: true; the input reads as it did. -/
def pcpReadsUptoRow : OpenClaim := { program := "ytdacemiaihidaaa", sum := "fbb16bebcbd94c5b657678082c8c4cc31613337189fbbde436c06ca2f4f3bd20", func := "embrasure/embrasurelaw10.PcpReads", spec := "pcpReads", apart := false, narrowed := true }
def PcpReadsUptoSaid : Prop := pcpReadsUptoRow.holds Try.pinned (OpenSpec.upto pcpReadsSpec)

/-- 'embrasurelaw10.PcpCut', WHERE WHAT IT READS IS OF BULK AT MOST 1048576: true; the input reads as it did. -/
def pcpCutUptoRow : OpenClaim := { program := "ytdacemiaihidaaa", sum := "fbb16bebcbd94c5b657678082c8c4cc31613337189fbbde436c06ca2f4f3bd20", func := "embrasure/embrasurelaw10.PcpCut", spec := "pcpCut", apart := false, narrowed := true }
def PcpCutUptoSaid : Prop := pcpCutUptoRow.holds Try.pinned (OpenSpec.upto pcpCutSpec)

/-- 'embrasurelaw10.PcpApart', WHERE WHAT IT READS IS OF BULK AT MOST 1048576: true; the input reads as it did. -/
def pcpApartUptoRow : OpenClaim := { program := "ytdacemiaihidaaa", sum := "fbb16bebcbd94c5b657678082c8c4cc31613337189fbbde436c06ca2f4f3bd20", func := "embrasure/embrasurelaw10.PcpApart", spec := "pcpApart", unfollowed := true, recurses := true, apart := false, narrowed := true }
def PcpApartUptoSaid : Prop := pcpApartUptoRow.holds Try.pinned (OpenSpec.upto pcpApartSpec)

end Rows
end Go.Proofs.Ytdacemiaihidaaa
