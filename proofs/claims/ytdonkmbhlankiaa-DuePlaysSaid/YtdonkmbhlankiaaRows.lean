/-
  No cell of these rows narrows 'for every input' (looked for: loops, veiled, ifaces, maps, wideKeys, modest, calm, conditions, laid).
  DERIVED. THE GIVEN ROWS OF THIS SEAT. 5 by the template 'for every input the law returns true; each argument reads behind the call as it read before'; 0 by the template 'total and deterministic' (their statements: YtdonkmbhlankiaaTotals.lean).
  GIVEN WITH THE SEED: the statements are not yours to turn. If you find one false, say at which input.
  Laid BY PROGRAM, IN A SANDBOX (cutbox-rows.mjs): the forced cells as the released guide's own fill.sh prints them over the translation e46d3f55de12f548… (all of the seat's roots in one cut). By AI agents, Wed Nov 11 2026. No macro, syntax, notation, axiom, sorry.
-/
import Derived.Test.YtdonkmbhlankiaaChecked
import GoSem.Claim
import GoSem.ClaimJoined
import GoSem.ClaimMapViews
import Derived.JoinedTies
import Derived.KernelRfl
namespace Go.Proofs.Ytdonkmbhlankiaa
/- THE CELL 'sum', in the pinned program and in every row, IS THE sha256 OF THE DUMP (.gsa) THAT YtdonkmbhlankiaaProg.lean LOADS. Nothing in Lean hashes anything: it is a label: what it is worth is what the hold of that sum in a sandbox is worth. -/
noncomputable def Try.pinned : Pinned := { name := "ytdonkmbhlankiaa", sum := "e46d3f55de12f5481258ac3118d0c1e6f805b099e10bfff5fa9ad26c0e23e4df", checked := Try.checked }
namespace Rows
def none {H : Type} : Left H := { results := [], args := [] }

/-- 'embrasurelaw06.DueFull': WHATEVER THE INPUT: true; the input reads as it did. -/
def dueFullSpec : ChangeSpec := { name := "dueFull", fn := fun _ => fun
  | [d1, d2] => { results := [.lit (.bool true)], args := [d1, d2] }
  | _ => none }
def dueFullRow : OpenClaim := { program := "ytdonkmbhlankiaa", sum := "e46d3f55de12f5481258ac3118d0c1e6f805b099e10bfff5fa9ad26c0e23e4df", func := "embrasure/embrasurelaw06.DueFull", spec := "dueFull", inPlace := ["internal/bytealg.abigen_runtime_cmpstring"], unfollowed := true, recurses := true, apart := false }
def DueFullSaid : Prop := dueFullRow.holds Try.pinned (OpenSpec.ofChange dueFullSpec)

/-- ITS FALSE NEIGHBOUR: 'it returns false'. Refute it at one input. -/
def dueFullWrong : ChangeSpec := { name := "dueFull", fn := fun _ => fun
  | [d1, d2] => { results := [.lit (.bool false)], args := [d1, d2] }
  | _ => none }
def DueFullWrongFalsely : Prop := dueFullRow.holds Try.pinned (OpenSpec.ofChange dueFullWrong)

/-- 'embrasurelaw06.DueParts': WHATEVER THE INPUT: true; the input reads as it did. -/
def duePartsSpec : ChangeSpec := { name := "dueParts", fn := fun _ => fun
  | [d1, d2] => { results := [.lit (.bool true)], args := [d1, d2] }
  | _ => none }
def duePartsRow : OpenClaim := { program := "ytdonkmbhlankiaa", sum := "e46d3f55de12f5481258ac3118d0c1e6f805b099e10bfff5fa9ad26c0e23e4df", func := "embrasure/embrasurelaw06.DueParts", spec := "dueParts", inPlace := ["internal/bytealg.abigen_runtime_cmpstring"], unfollowed := true, recurses := true, apart := false }
def DuePartsSaid : Prop := duePartsRow.holds Try.pinned (OpenSpec.ofChange duePartsSpec)

/-- ITS FALSE NEIGHBOUR: 'it returns false'. Refute it at one input. -/
def duePartsWrong : ChangeSpec := { name := "dueParts", fn := fun _ => fun
  | [d1, d2] => { results := [.lit (.bool false)], args := [d1, d2] }
  | _ => none }
def DuePartsWrongFalsely : Prop := duePartsRow.holds Try.pinned (OpenSpec.ofChange duePartsWrong)

/-- 'embrasurelaw06.DuePlays': WHATEVER THE INPUT: true; the input reads as it did. -/
def duePlaysSpec : ChangeSpec := { name := "duePlays", fn := fun _ => fun
  | [d] => { results := [.lit (.bool true)], args := [d] }
  | _ => none }
def duePlaysRow : OpenClaim := { program := "ytdonkmbhlankiaa", sum := "e46d3f55de12f5481258ac3118d0c1e6f805b099e10bfff5fa9ad26c0e23e4df", func := "embrasure/embrasurelaw06.DuePlays", spec := "duePlays", inPlace := ["internal/bytealg.abigen_runtime_cmpstring"], unfollowed := true, recurses := true, apart := false }
def DuePlaysSaid : Prop := duePlaysRow.holds Try.pinned (OpenSpec.ofChange duePlaysSpec)

/-- ITS FALSE NEIGHBOUR: 'it returns false'. Refute it at one input. -/
def duePlaysWrong : ChangeSpec := { name := "duePlays", fn := fun _ => fun
  | [d] => { results := [.lit (.bool false)], args := [d] }
  | _ => none }
def DuePlaysWrongFalsely : Prop := duePlaysRow.holds Try.pinned (OpenSpec.ofChange duePlaysWrong)

/-- 'embrasurelaw06.DueAgain': WHATEVER THE INPUT: true; the input reads as it did. -/
def dueAgainSpec : ChangeSpec := { name := "dueAgain", fn := fun _ => fun
  | [d1, d2, d3] => { results := [.lit (.bool true)], args := [d1, d2, d3] }
  | _ => none }
def dueAgainRow : OpenClaim := { program := "ytdonkmbhlankiaa", sum := "e46d3f55de12f5481258ac3118d0c1e6f805b099e10bfff5fa9ad26c0e23e4df", func := "embrasure/embrasurelaw06.DueAgain", spec := "dueAgain", inPlace := ["internal/bytealg.abigen_runtime_cmpstring"], unfollowed := true, recurses := true, apart := false }
def DueAgainSaid : Prop := dueAgainRow.holds Try.pinned (OpenSpec.ofChange dueAgainSpec)

/-- ITS FALSE NEIGHBOUR: 'it returns false'. Refute it at one input. -/
def dueAgainWrong : ChangeSpec := { name := "dueAgain", fn := fun _ => fun
  | [d1, d2, d3] => { results := [.lit (.bool false)], args := [d1, d2, d3] }
  | _ => none }
def DueAgainWrongFalsely : Prop := dueAgainRow.holds Try.pinned (OpenSpec.ofChange dueAgainWrong)

/-- 'embrasurelaw06.DueNames': WHATEVER THE INPUT: true; the input reads as it did. -/
def dueNamesSpec : ChangeSpec := { name := "dueNames", fn := fun _ => fun
  | [d1, d2] => { results := [.lit (.bool true)], args := [d1, d2] }
  | _ => none }
def dueNamesRow : OpenClaim := { program := "ytdonkmbhlankiaa", sum := "e46d3f55de12f5481258ac3118d0c1e6f805b099e10bfff5fa9ad26c0e23e4df", func := "embrasure/embrasurelaw06.DueNames", spec := "dueNames", inPlace := ["internal/bytealg.abigen_runtime_cmpstring"], unfollowed := true, recurses := true, apart := false }
def DueNamesSaid : Prop := dueNamesRow.holds Try.pinned (OpenSpec.ofChange dueNamesSpec)

/-- ITS FALSE NEIGHBOUR: 'it returns false'. Refute it at one input. -/
def dueNamesWrong : ChangeSpec := { name := "dueNames", fn := fun _ => fun
  | [d1, d2] => { results := [.lit (.bool false)], args := [d1, d2] }
  | _ => none }
def DueNamesWrongFalsely : Prop := dueNamesRow.holds Try.pinned (OpenSpec.ofChange dueNamesWrong)

/- THE SECOND FORM. 'bulk': how many values and letters a reading holds, each counted each time it is reached (what is shared counts as often as it is met; a slice's spare places count too). A statement '..UptoSaid' is the law's where the arguments, and the package variables that the reading takes, are together of bulk at most 1048576: NARROWER than '..Said'. Prove '..Said' where nothing that the law and all that it calls make is longer than what came in: it says more and counts as full. Else prove '..UptoSaid'. A law counts once. -/
mutual
def uptoBulk {H : Type} : DataW H → Nat
  | .lit (.string bytes) => bytes.length + 1
  | .lit _ => 1
  | .nil => 1
  | .ptr d => uptoBulk d + 1
  | .slice elems spare => uptoBulkAll elems + uptoBulkAll spare + 1
  | .agg parts => uptoBulkAll parts + 1
  | .iface _ d => uptoBulk d + 1
  | .map entries => uptoBulkEntries entries + 1
  | .held _ => 1
def uptoBulkAll {H : Type} : List (DataW H) → Nat
  | [] => 0
  | d :: r => uptoBulk d + uptoBulkAll r
def uptoBulkEntries {H : Type} : List (Lit × DataW H) → Nat
  | [] => 0
  | x :: r => uptoBulkEntry x + uptoBulkEntries r
def uptoBulkEntry {H : Type} : Lit × DataW H → Nat
  | (.string bytes, d) => bytes.length + uptoBulk d + 1
  | (_, d) => uptoBulk d + 1
 end
def uptoSmall : (H : Type) → List (DataW H) → Bool := fun _ ds => decide (uptoBulkAll ds ≤ 1048576)
def OpenSpec.upto (s : _root_.Go.ChangeSpec) : _root_.Go.OpenSpec := { _root_.Go.OpenSpec.ofChange s with cond := some uptoSmall }

/-- 'embrasurelaw06.DueFull', WHERE WHAT IT READS IS OF BULK AT MOST 1048576: true; the input reads as it did. -/
def dueFullUptoRow : OpenClaim := { program := "ytdonkmbhlankiaa", sum := "e46d3f55de12f5481258ac3118d0c1e6f805b099e10bfff5fa9ad26c0e23e4df", func := "embrasure/embrasurelaw06.DueFull", spec := "dueFull", inPlace := ["internal/bytealg.abigen_runtime_cmpstring"], unfollowed := true, recurses := true, apart := false, narrowed := true }
def DueFullUptoSaid : Prop := dueFullUptoRow.holds Try.pinned (OpenSpec.upto dueFullSpec)

/-- 'embrasurelaw06.DueParts', WHERE WHAT IT READS IS OF BULK AT MOST 1048576: true; the input reads as it did. -/
def duePartsUptoRow : OpenClaim := { program := "ytdonkmbhlankiaa", sum := "e46d3f55de12f5481258ac3118d0c1e6f805b099e10bfff5fa9ad26c0e23e4df", func := "embrasure/embrasurelaw06.DueParts", spec := "dueParts", inPlace := ["internal/bytealg.abigen_runtime_cmpstring"], unfollowed := true, recurses := true, apart := false, narrowed := true }
def DuePartsUptoSaid : Prop := duePartsUptoRow.holds Try.pinned (OpenSpec.upto duePartsSpec)

/-- 'embrasurelaw06.DuePlays', WHERE WHAT IT READS IS OF BULK AT MOST 1048576: true; the input reads as it did. -/
def duePlaysUptoRow : OpenClaim := { program := "ytdonkmbhlankiaa", sum := "e46d3f55de12f5481258ac3118d0c1e6f805b099e10bfff5fa9ad26c0e23e4df", func := "embrasure/embrasurelaw06.DuePlays", spec := "duePlays", inPlace := ["internal/bytealg.abigen_runtime_cmpstring"], unfollowed := true, recurses := true, apart := false, narrowed := true }
def DuePlaysUptoSaid : Prop := duePlaysUptoRow.holds Try.pinned (OpenSpec.upto duePlaysSpec)

/-- 'embrasurelaw06.DueAgain', WHERE WHAT IT READS IS OF BULK AT MOST 1048576: true; the input reads as it did. -/
def dueAgainUptoRow : OpenClaim := { program := "ytdonkmbhlankiaa", sum := "e46d3f55de12f5481258ac3118d0c1e6f805b099e10bfff5fa9ad26c0e23e4df", func := "embrasure/embrasurelaw06.DueAgain", spec := "dueAgain", inPlace := ["internal/bytealg.abigen_runtime_cmpstring"], unfollowed := true, recurses := true, apart := false, narrowed := true }
def DueAgainUptoSaid : Prop := dueAgainUptoRow.holds Try.pinned (OpenSpec.upto dueAgainSpec)

/-- 'embrasurelaw06.DueNames', WHERE WHAT IT READS IS OF BULK AT MOST 1048576: true; the input reads as it did. -/
def dueNamesUptoRow : OpenClaim := { program := "ytdonkmbhlankiaa", sum := "e46d3f55de12f5481258ac3118d0c1e6f805b099e10bfff5fa9ad26c0e23e4df", func := "embrasure/embrasurelaw06.DueNames", spec := "dueNames", inPlace := ["internal/bytealg.abigen_runtime_cmpstring"], unfollowed := true, recurses := true, apart := false, narrowed := true }
def DueNamesUptoSaid : Prop := dueNamesUptoRow.holds Try.pinned (OpenSpec.upto dueNamesSpec)

end Rows
end Go.Proofs.Ytdonkmbhlankiaa
