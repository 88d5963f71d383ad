/-
  No cell of these rows narrows 'for every input' (looked for: loops, veiled, ifaces, maps, wideKeys, modest, calm, conditions, laid).
  DERIVED. THE GIVEN ROWS OF THIS SEAT. 3 by the template 'for every input the law returns true; each argument reads behind the call as it read before'; 0 by the template 'total and deterministic' (their statements: YtjcebofaahbifaaTotals.lean).
  GIVEN WITH THE SEED: the statements are not yours to turn. If you find one false, say at which input.
  Laid BY PROGRAM, IN A SANDBOX (cutbox-rows.mjs): the forced cells as the released guide's own fill.sh prints them over the translation 9558d1a68fc3df32… (all of the seat's roots in one cut). By AI agents, Wed Nov 11 2026. No macro, syntax, notation, axiom, sorry.
-/
import Derived.Test.YtjcebofaahbifaaChecked
import GoSem.Claim
import GoSem.ClaimJoined
import GoSem.ClaimMapViews
import Derived.JoinedTies
import Derived.KernelRfl
namespace Go.Proofs.Ytjcebofaahbifaa
/- THE CELL 'sum', in the pinned program and in every row, IS THE sha256 OF THE DUMP (.gsa) THAT YtjcebofaahbifaaProg.lean LOADS. Nothing in Lean hashes anything: it is a label: what it is worth is what the hold of that sum in a sandbox is worth. -/
noncomputable def Try.pinned : Pinned := { name := "ytjcebofaahbifaa", sum := "9558d1a68fc3df321f99b58816dd6162c549094cdddc9a7f9e09cc5065699eb0", checked := Try.checked }
namespace Rows
def none {H : Type} : Left H := { results := [], args := [] }

/-- 'embrasurelaw24.CircBytes': WHATEVER THE INPUT: true; the input reads as it did. -/
def circBytesSpec : ChangeSpec := { name := "circBytes", fn := fun _ => fun
  | [d1, d2, d3] => { results := [.lit (.bool true)], args := [d1, d2, d3] }
  | _ => none }
def circBytesRow : OpenClaim := { program := "ytjcebofaahbifaa", sum := "9558d1a68fc3df321f99b58816dd6162c549094cdddc9a7f9e09cc5065699eb0", func := "embrasure/embrasurelaw24.CircBytes", spec := "circBytes", unfollowed := true, recurses := true, apart := false }
def CircBytesSaid : Prop := circBytesRow.holds Try.pinned (OpenSpec.ofChange circBytesSpec)

/-- ITS FALSE NEIGHBOUR: 'it returns false'. Refute it at one input. -/
def circBytesWrong : ChangeSpec := { name := "circBytes", fn := fun _ => fun
  | [d1, d2, d3] => { results := [.lit (.bool false)], args := [d1, d2, d3] }
  | _ => none }
def CircBytesWrongFalsely : Prop := circBytesRow.holds Try.pinned (OpenSpec.ofChange circBytesWrong)

/-- 'embrasurelaw24.CircTwo': WHATEVER THE INPUT: true; the input reads as it did. -/
def circTwoSpec : ChangeSpec := { name := "circTwo", fn := fun _ => fun
  | [d1, d2, d3] => { results := [.lit (.bool true)], args := [d1, d2, d3] }
  | _ => none }
def circTwoRow : OpenClaim := { program := "ytjcebofaahbifaa", sum := "9558d1a68fc3df321f99b58816dd6162c549094cdddc9a7f9e09cc5065699eb0", func := "embrasure/embrasurelaw24.CircTwo", spec := "circTwo", unfollowed := true, recurses := true, apart := false }
def CircTwoSaid : Prop := circTwoRow.holds Try.pinned (OpenSpec.ofChange circTwoSpec)

/-- ITS FALSE NEIGHBOUR: 'it returns false'. Refute it at one input. -/
def circTwoWrong : ChangeSpec := { name := "circTwo", fn := fun _ => fun
  | [d1, d2, d3] => { results := [.lit (.bool false)], args := [d1, d2, d3] }
  | _ => none }
def CircTwoWrongFalsely : Prop := circTwoRow.holds Try.pinned (OpenSpec.ofChange circTwoWrong)

/-- 'embrasurelaw24.CircCaps': WHATEVER THE INPUT: true; the input reads as it did. -/
def circCapsSpec : ChangeSpec := { name := "circCaps", fn := fun _ => fun
  | [d1, d2] => { results := [.lit (.bool true)], args := [d1, d2] }
  | _ => none }
def circCapsRow : OpenClaim := { program := "ytjcebofaahbifaa", sum := "9558d1a68fc3df321f99b58816dd6162c549094cdddc9a7f9e09cc5065699eb0", func := "embrasure/embrasurelaw24.CircCaps", spec := "circCaps", unfollowed := true, recurses := true, apart := false }
def CircCapsSaid : Prop := circCapsRow.holds Try.pinned (OpenSpec.ofChange circCapsSpec)

/-- ITS FALSE NEIGHBOUR: 'it returns false'. Refute it at one input. -/
def circCapsWrong : ChangeSpec := { name := "circCaps", fn := fun _ => fun
  | [d1, d2] => { results := [.lit (.bool false)], args := [d1, d2] }
  | _ => none }
def CircCapsWrongFalsely : Prop := circCapsRow.holds Try.pinned (OpenSpec.ofChange circCapsWrong)

/- THE SECOND FORM. 'bulk': how many values and letters a reading holds, each counted each time it is reached (what is shared counts as often as it is met; a slice's spare places count too). A statement '..UptoSaid' is the law's where the arguments, and the package variables that the reading takes, are together of bulk at most 1048576: NARROWER than '..Said'. Prove '..Said' where nothing that the law and all that it calls make is longer than what came in: it says more and counts as full. Else prove '..UptoSaid'. A law counts once. -/
mutual
def uptoBulk {H : Type} : DataW H → Nat
  | .lit (.string bytes) => bytes.length + 1
  | .lit _ => 1
  | .nil => 1
  | .ptr d => uptoBulk d + 1
  | .slice elems spare => uptoBulkAll elems + uptoBulkAll spare + 1
  | .agg parts => uptoBulkAll parts + 1
  | .iface _ d => uptoBulk d + 1
  | .map entries => uptoBulkEntries entries + 1
  | .held _ => 1
def uptoBulkAll {H : Type} : List (DataW H) → Nat
  | [] => 0
  | d :: r => uptoBulk d + uptoBulkAll r
def uptoBulkEntries {H : Type} : List (Lit × DataW H) → Nat
  | [] => 0
  | x :: r => uptoBulkEntry x + uptoBulkEntries r
def uptoBulkEntry {H : Type} : Lit × DataW H → Nat
  | (.string bytes, d) => bytes.length + uptoBulk d + 1
  | (_, d) => uptoBulk d + 1
 end
def uptoSmall : (H : Type) → List (DataW H) → Bool := fun _ ds => decide (uptoBulkAll ds ≤ 1048576)
def OpenSpec.upto (s : _root_.Go.ChangeSpec) : _root_.Go.OpenSpec := { _root_.Go.OpenSpec.ofChange s with cond := some uptoSmall }

/-- 'embrasurelaw24.CircBytes', WHERE WHAT IT READS IS OF BULK AT MOST 1048576: true; the input reads as it did. -/
def circBytesUptoRow : OpenClaim := { program := "ytjcebofaahbifaa", sum := "9558d1a68fc3df321f99b58816dd6162c549094cdddc9a7f9e09cc5065699eb0", func := "embrasure/embrasurelaw24.CircBytes", spec := "circBytes", unfollowed := true, recurses := true, apart := false, narrowed := true }
def CircBytesUptoSaid : Prop := circBytesUptoRow.holds Try.pinned (OpenSpec.upto circBytesSpec)

/-- 'embrasurelaw24.CircTwo', WHERE WHAT IT READS IS OF BULK AT MOST 1048576: true; the input reads as it did. -/
def circTwoUptoRow : OpenClaim := { program := "ytjcebofaahbifaa", sum := "9558d1a68fc3df321f99b58816dd6162c549094cdddc9a7f9e09cc5065699eb0", func := "embrasure/embrasurelaw24.CircTwo", spec := "circTwo", unfollowed := true, recurses := true, apart := false, narrowed := true }
def CircTwoUptoSaid : Prop := circTwoUptoRow.holds Try.pinned (OpenSpec.upto circTwoSpec)

/-- 'embrasurelaw24.CircCaps', WHERE WHAT IT READS IS OF BULK AT MOST 1048576: true; the input reads as it did. -/
def circCapsUptoRow : OpenClaim := { program := "ytjcebofaahbifaa", sum := "9558d1a68fc3df321f99b58816dd6162c549094cdddc9a7f9e09cc5065699eb0", func := "embrasure/embrasurelaw24.CircCaps", spec := "circCaps", unfollowed := true, recurses := true, apart := false, narrowed := true }
def CircCapsUptoSaid : Prop := circCapsUptoRow.holds Try.pinned (OpenSpec.upto circCapsSpec)

end Rows
end Go.Proofs.Ytjcebofaahbifaa
