/-
  No cell of these rows narrows 'for every input' (looked for: loops, veiled, ifaces, maps, wideKeys, modest, calm, conditions, laid).
  DERIVED. THE GIVEN ROWS OF THIS SEAT. 6 by the template 'for every input the law returns true; each argument reads behind the call as it read before'; 0 by the template 'total and deterministic' (their statements: YthhbnjcebmhilaaTotals.lean).
  GIVEN WITH THE SEED: the statements are not yours to turn. If you find one false, say at which input.
  Laid BY PROGRAM, IN A SANDBOX (cutbox-rows.mjs): the forced cells as the released guide's own fill.sh prints them over the translation 191e86f971c631b7… (all of the seat's roots in one cut). By AI agents, Wed Nov 11 2026. No macro, syntax, notation, axiom, sorry.
-/
import Derived.Test.YthhbnjcebmhilaaChecked
import GoSem.Claim
import GoSem.ClaimJoined
import GoSem.ClaimMapViews
import Derived.JoinedTies
import Derived.KernelRfl
namespace Go.Proofs.Ythhbnjcebmhilaa
/- THE CELL 'sum', in the pinned program and in every row, IS THE sha256 OF THE DUMP (.gsa) THAT YthhbnjcebmhilaaProg.lean LOADS. Nothing in Lean hashes anything: it is a label: what it is worth is what the hold of that sum in a sandbox is worth. -/
noncomputable def Try.pinned : Pinned := { name := "ythhbnjcebmhilaa", sum := "191e86f971c631b79da7a50a091b4ac28d83c753564edf2dd4b78de8f2128be2", checked := Try.checked }
namespace Rows
def none {H : Type} : Left H := { results := [], args := [] }

/-- 'embrasurelaw08.NatOne': WHATEVER THE INPUT: true; the input reads as it did. -/
def natOneSpec : ChangeSpec := { name := "natOne", fn := fun _ => fun
  | [d1, d2, d3] => { results := [.lit (.bool true)], args := [d1, d2, d3] }
  | _ => none }
def natOneRow : OpenClaim := { program := "ythhbnjcebmhilaa", sum := "191e86f971c631b79da7a50a091b4ac28d83c753564edf2dd4b78de8f2128be2", func := "embrasure/embrasurelaw08.NatOne", spec := "natOne", unfollowed := true, recurses := true, apart := false }
def NatOneSaid : Prop := natOneRow.holds Try.pinned (OpenSpec.ofChange natOneSpec)

/-- ITS FALSE NEIGHBOUR: 'it returns false'. Refute it at one input. -/
def natOneWrong : ChangeSpec := { name := "natOne", fn := fun _ => fun
  | [d1, d2, d3] => { results := [.lit (.bool false)], args := [d1, d2, d3] }
  | _ => none }
def NatOneWrongFalsely : Prop := natOneRow.holds Try.pinned (OpenSpec.ofChange natOneWrong)

/-- 'embrasurelaw08.NatLasts': WHATEVER THE INPUT: true; the input reads as it did. -/
def natLastsSpec : ChangeSpec := { name := "natLasts", fn := fun _ => fun
  | [d1, d2, d3] => { results := [.lit (.bool true)], args := [d1, d2, d3] }
  | _ => none }
def natLastsRow : OpenClaim := { program := "ythhbnjcebmhilaa", sum := "191e86f971c631b79da7a50a091b4ac28d83c753564edf2dd4b78de8f2128be2", func := "embrasure/embrasurelaw08.NatLasts", spec := "natLasts", unfollowed := true, recurses := true, apart := false }
def NatLastsSaid : Prop := natLastsRow.holds Try.pinned (OpenSpec.ofChange natLastsSpec)

/-- ITS FALSE NEIGHBOUR: 'it returns false'. Refute it at one input. -/
def natLastsWrong : ChangeSpec := { name := "natLasts", fn := fun _ => fun
  | [d1, d2, d3] => { results := [.lit (.bool false)], args := [d1, d2, d3] }
  | _ => none }
def NatLastsWrongFalsely : Prop := natLastsRow.holds Try.pinned (OpenSpec.ofChange natLastsWrong)

/-- 'embrasurelaw08.NatFull': WHATEVER THE INPUT: true; the input reads as it did. -/
def natFullSpec : ChangeSpec := { name := "natFull", fn := fun _ => fun
  | [d1, d2, d3] => { results := [.lit (.bool true)], args := [d1, d2, d3] }
  | _ => none }
def natFullRow : OpenClaim := { program := "ythhbnjcebmhilaa", sum := "191e86f971c631b79da7a50a091b4ac28d83c753564edf2dd4b78de8f2128be2", func := "embrasure/embrasurelaw08.NatFull", spec := "natFull", unfollowed := true, recurses := true, apart := false }
def NatFullSaid : Prop := natFullRow.holds Try.pinned (OpenSpec.ofChange natFullSpec)

/-- ITS FALSE NEIGHBOUR: 'it returns false'. Refute it at one input. -/
def natFullWrong : ChangeSpec := { name := "natFull", fn := fun _ => fun
  | [d1, d2, d3] => { results := [.lit (.bool false)], args := [d1, d2, d3] }
  | _ => none }
def NatFullWrongFalsely : Prop := natFullRow.holds Try.pinned (OpenSpec.ofChange natFullWrong)

/-- 'embrasurelaw08.NatBack': WHATEVER THE INPUT: true; the input reads as it did. -/
def natBackSpec : ChangeSpec := { name := "natBack", fn := fun _ => fun
  | [d1, d2, d3] => { results := [.lit (.bool true)], args := [d1, d2, d3] }
  | _ => none }
def natBackRow : OpenClaim := { program := "ythhbnjcebmhilaa", sum := "191e86f971c631b79da7a50a091b4ac28d83c753564edf2dd4b78de8f2128be2", func := "embrasure/embrasurelaw08.NatBack", spec := "natBack", unfollowed := true, recurses := true, apart := false }
def NatBackSaid : Prop := natBackRow.holds Try.pinned (OpenSpec.ofChange natBackSpec)

/-- ITS FALSE NEIGHBOUR: 'it returns false'. Refute it at one input. -/
def natBackWrong : ChangeSpec := { name := "natBack", fn := fun _ => fun
  | [d1, d2, d3] => { results := [.lit (.bool false)], args := [d1, d2, d3] }
  | _ => none }
def NatBackWrongFalsely : Prop := natBackRow.holds Try.pinned (OpenSpec.ofChange natBackWrong)

/-- 'embrasurelaw08.NatAsked': WHATEVER THE INPUT: true; the input reads as it did. -/
def natAskedSpec : ChangeSpec := { name := "natAsked", fn := fun _ => fun
  | [d1, d2, d3] => { results := [.lit (.bool true)], args := [d1, d2, d3] }
  | _ => none }
def natAskedRow : OpenClaim := { program := "ythhbnjcebmhilaa", sum := "191e86f971c631b79da7a50a091b4ac28d83c753564edf2dd4b78de8f2128be2", func := "embrasure/embrasurelaw08.NatAsked", spec := "natAsked", unfollowed := true, recurses := true, apart := false }
def NatAskedSaid : Prop := natAskedRow.holds Try.pinned (OpenSpec.ofChange natAskedSpec)

/-- ITS FALSE NEIGHBOUR: 'it returns false'. Refute it at one input. -/
def natAskedWrong : ChangeSpec := { name := "natAsked", fn := fun _ => fun
  | [d1, d2, d3] => { results := [.lit (.bool false)], args := [d1, d2, d3] }
  | _ => none }
def NatAskedWrongFalsely : Prop := natAskedRow.holds Try.pinned (OpenSpec.ofChange natAskedWrong)

/-- 'embrasurelaw08.NatPlays': WHATEVER THE INPUT: true; the input reads as it did. -/
def natPlaysSpec : ChangeSpec := { name := "natPlays", fn := fun _ => fun
  | [d1, d2] => { results := [.lit (.bool true)], args := [d1, d2] }
  | _ => none }
def natPlaysRow : OpenClaim := { program := "ythhbnjcebmhilaa", sum := "191e86f971c631b79da7a50a091b4ac28d83c753564edf2dd4b78de8f2128be2", func := "embrasure/embrasurelaw08.NatPlays", spec := "natPlays", unfollowed := true, recurses := true, apart := false }
def NatPlaysSaid : Prop := natPlaysRow.holds Try.pinned (OpenSpec.ofChange natPlaysSpec)

/-- ITS FALSE NEIGHBOUR: 'it returns false'. Refute it at one input. -/
def natPlaysWrong : ChangeSpec := { name := "natPlays", fn := fun _ => fun
  | [d1, d2] => { results := [.lit (.bool false)], args := [d1, d2] }
  | _ => none }
def NatPlaysWrongFalsely : Prop := natPlaysRow.holds Try.pinned (OpenSpec.ofChange natPlaysWrong)

/- THE SECOND FORM. 'bulk': how many values and letters a reading holds, each counted each time it is reached (what is shared counts as often as it is met; a slice's spare places count too). A statement '..UptoSaid' is the law's where the arguments, and the package variables that the reading takes, are together of bulk at most 1048576: NARROWER than '..Said'. Prove '..Said' where nothing that the law and all that it calls make is longer than what came in: it says more and counts as full. Else prove '..UptoSaid'. A law counts once. -/
mutual
def uptoBulk {H : Type} : DataW H → Nat
  | .lit (.string bytes) => bytes.length + 1
  | .lit _ => 1
  | .nil => 1
  | .ptr d => uptoBulk d + 1
  | .slice elems spare => uptoBulkAll elems + uptoBulkAll spare + 1
  | .agg parts => uptoBulkAll parts + 1
  | .iface _ d => uptoBulk d + 1
  | .map entries => uptoBulkEntries entries + 1
  | .held _ => 1
def uptoBulkAll {H : Type} : List (DataW H) → Nat
  | [] => 0
  | d :: r => uptoBulk d + uptoBulkAll r
def uptoBulkEntries {H : Type} : List (Lit × DataW H) → Nat
  | [] => 0
  | x :: r => uptoBulkEntry x + uptoBulkEntries r
def uptoBulkEntry {H : Type} : Lit × DataW H → Nat
  | (.string bytes, d) => bytes.length + uptoBulk d + 1
  | (_, d) => uptoBulk d + 1
 end
def uptoSmall : (H : Type) → List (DataW H) → Bool := fun _ ds => decide (uptoBulkAll ds ≤ 1048576)
def OpenSpec.upto (s : _root_.Go.ChangeSpec) : _root_.Go.OpenSpec := { _root_.Go.OpenSpec.ofChange s with cond := some uptoSmall }

/-- 'embrasurelaw08.NatOne', WHERE WHAT IT READS IS OF BULK AT MOST 1048576: true; the input reads as it did. -/
def natOneUptoRow : OpenClaim := { program := "ythhbnjcebmhilaa", sum := "191e86f971c631b79da7a50a091b4ac28d83c753564edf2dd4b78de8f2128be2", func := "embrasure/embrasurelaw08.NatOne", spec := "natOne", unfollowed := true, recurses := true, apart := false, narrowed := true }
def NatOneUptoSaid : Prop := natOneUptoRow.holds Try.pinned (OpenSpec.upto natOneSpec)

/-- 'embrasurelaw08.NatLasts', WHERE WHAT IT READS IS OF BULK AT MOST 1048576: true; the input reads as it did. -/
def natLastsUptoRow : OpenClaim := { program := "ythhbnjcebmhilaa", sum := "191e86f971c631b79da7a50a091b4ac28d83c753564edf2dd4b78de8f2128be2", func := "embrasure/embrasurelaw08.NatLasts", spec := "natLasts", unfollowed := true, recurses := true, apart := false, narrowed := true }
def NatLastsUptoSaid : Prop := natLastsUptoRow.holds Try.pinned (OpenSpec.upto natLastsSpec)

/-- 'embrasurelaw08.NatFull', WHERE WHAT IT READS IS OF BULK AT MOST 1048576: true; the input reads as it did. -/
def natFullUptoRow : OpenClaim := { program := "ythhbnjcebmhilaa", sum := "191e86f971c631b79da7a50a091b4ac28d83c753564edf2dd4b78de8f2128be2", func := "embrasure/embrasurelaw08.NatFull", spec := "natFull", unfollowed := true, recurses := true, apart := false, narrowed := true }
def NatFullUptoSaid : Prop := natFullUptoRow.holds Try.pinned (OpenSpec.upto natFullSpec)

/-- 'embrasurelaw08.NatBack', WHERE WHAT IT READS IS OF BULK AT MOST 1048576: true; the input reads as it did. -/
def natBackUptoRow : OpenClaim := { program := "ythhbnjcebmhilaa", sum := "191e86f971c631b79da7a50a091b4ac28d83c753564edf2dd4b78de8f2128be2", func := "embrasure/embrasurelaw08.NatBack", spec := "natBack", unfollowed := true, recurses := true, apart := false, narrowed := true }
def NatBackUptoSaid : Prop := natBackUptoRow.holds Try.pinned (OpenSpec.upto natBackSpec)

/-- 'embrasurelaw08.NatAsked', WHERE WHAT IT READS IS OF BULK AT MOST 1048576: true; the input reads as it did. -/
def natAskedUptoRow : OpenClaim := { program := "ythhbnjcebmhilaa", sum := "191e86f971c631b79da7a50a091b4ac28d83c753564edf2dd4b78de8f2128be2", func := "embrasure/embrasurelaw08.NatAsked", spec := "natAsked", unfollowed := true, recurses := true, apart := false, narrowed := true }
def NatAskedUptoSaid : Prop := natAskedUptoRow.holds Try.pinned (OpenSpec.upto natAskedSpec)

/-- 'embrasurelaw08.NatPlays', WHERE WHAT IT READS IS OF BULK AT MOST 1048576: true; the input reads as it did. -/
def natPlaysUptoRow : OpenClaim := { program := "ythhbnjcebmhilaa", sum := "191e86f971c631b79da7a50a091b4ac28d83c753564edf2dd4b78de8f2128be2", func := "embrasure/embrasurelaw08.NatPlays", spec := "natPlays", unfollowed := true, recurses := true, apart := false, narrowed := true }
def NatPlaysUptoSaid : Prop := natPlaysUptoRow.holds Try.pinned (OpenSpec.upto natPlaysSpec)

end Rows
end Go.Proofs.Ythhbnjcebmhilaa
