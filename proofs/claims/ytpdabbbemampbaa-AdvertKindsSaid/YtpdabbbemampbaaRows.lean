/-
  No cell of these rows narrows 'for every input' (looked for: loops, veiled, ifaces, maps, wideKeys, modest, calm, conditions, laid).
  DERIVED. THE GIVEN ROWS OF THIS SEAT. 5 by the template 'for every input the law returns true; each argument reads behind the call as it read before'; 0 by the template 'total and deterministic' (their statements: YtpdabbbemampbaaTotals.lean).
  GIVEN WITH THE SEED: the statements are not yours to turn. If you find one false, say at which input.
  Laid BY PROGRAM, IN A SANDBOX (cutbox-rows.mjs): the forced cells as the released guide's own fill.sh prints them over the translation 32b043b8cb9d5202… (all of the seat's roots in one cut). By AI agents, Wed Nov 11 2026. No macro, syntax, notation, axiom, sorry.
-/
import Derived.Test.YtpdabbbemampbaaChecked
import GoSem.Claim
import GoSem.ClaimJoined
import GoSem.ClaimMapViews
import Derived.JoinedTies
import Derived.KernelRfl
namespace Go.Proofs.Ytpdabbbemampbaa
/- THE CELL 'sum', in the pinned program and in every row, IS THE sha256 OF THE DUMP (.gsa) THAT YtpdabbbemampbaaProg.lean LOADS. Nothing in Lean hashes anything: it is a label: what it is worth is what the hold of that sum in a sandbox is worth. -/
noncomputable def Try.pinned : Pinned := { name := "ytpdabbbemampbaa", sum := "32b043b8cb9d5202e667d0841910a00a803212bc2d724598d250257a51508727", checked := Try.checked }
namespace Rows
def none {H : Type} : Left H := { results := [], args := [] }

/-- 'embrasurelaw21.AdvertInside': WHATEVER THE INPUT: true; the input reads as it did. -/
def advertInsideSpec : ChangeSpec := { name := "advertInside", fn := fun _ => fun
  | [d] => { results := [.lit (.bool true)], args := [d] }
  | _ => none }
def advertInsideRow : OpenClaim := { program := "ytpdabbbemampbaa", sum := "32b043b8cb9d5202e667d0841910a00a803212bc2d724598d250257a51508727", func := "embrasure/embrasurelaw21.AdvertInside", spec := "advertInside", unfollowed := true, recurses := true, plainKeys := false, apart := false }
def AdvertInsideSaid : Prop := advertInsideRow.holds Try.pinned (OpenSpec.ofChange advertInsideSpec)

/-- ITS FALSE NEIGHBOUR: 'it returns false'. Refute it at one input. -/
def advertInsideWrong : ChangeSpec := { name := "advertInside", fn := fun _ => fun
  | [d] => { results := [.lit (.bool false)], args := [d] }
  | _ => none }
def AdvertInsideWrongFalsely : Prop := advertInsideRow.holds Try.pinned (OpenSpec.ofChange advertInsideWrong)

/-- 'embrasurelaw21.AdvertPlays': WHATEVER THE INPUT: true; the input reads as it did. -/
def advertPlaysSpec : ChangeSpec := { name := "advertPlays", fn := fun _ => fun
  | [d1, d2, d3] => { results := [.lit (.bool true)], args := [d1, d2, d3] }
  | _ => none }
def advertPlaysRow : OpenClaim := { program := "ytpdabbbemampbaa", sum := "32b043b8cb9d5202e667d0841910a00a803212bc2d724598d250257a51508727", func := "embrasure/embrasurelaw21.AdvertPlays", spec := "advertPlays", unfollowed := true, recurses := true, plainKeys := false, apart := false }
def AdvertPlaysSaid : Prop := advertPlaysRow.holds Try.pinned (OpenSpec.ofChange advertPlaysSpec)

/-- ITS FALSE NEIGHBOUR: 'it returns false'. Refute it at one input. -/
def advertPlaysWrong : ChangeSpec := { name := "advertPlays", fn := fun _ => fun
  | [d1, d2, d3] => { results := [.lit (.bool false)], args := [d1, d2, d3] }
  | _ => none }
def AdvertPlaysWrongFalsely : Prop := advertPlaysRow.holds Try.pinned (OpenSpec.ofChange advertPlaysWrong)

/-- 'embrasurelaw21.AdvertOver': WHATEVER THE INPUT: true; the input reads as it did. -/
def advertOverSpec : ChangeSpec := { name := "advertOver", fn := fun _ => fun
  | [d1, d2, d3] => { results := [.lit (.bool true)], args := [d1, d2, d3] }
  | _ => none }
def advertOverRow : OpenClaim := { program := "ytpdabbbemampbaa", sum := "32b043b8cb9d5202e667d0841910a00a803212bc2d724598d250257a51508727", func := "embrasure/embrasurelaw21.AdvertOver", spec := "advertOver", unfollowed := true, recurses := true, plainKeys := false, apart := false }
def AdvertOverSaid : Prop := advertOverRow.holds Try.pinned (OpenSpec.ofChange advertOverSpec)

/-- ITS FALSE NEIGHBOUR: 'it returns false'. Refute it at one input. -/
def advertOverWrong : ChangeSpec := { name := "advertOver", fn := fun _ => fun
  | [d1, d2, d3] => { results := [.lit (.bool false)], args := [d1, d2, d3] }
  | _ => none }
def AdvertOverWrongFalsely : Prop := advertOverRow.holds Try.pinned (OpenSpec.ofChange advertOverWrong)

/-- 'embrasurelaw21.AdvertKinds': WHATEVER THE INPUT: true; the input reads as it did. -/
def advertKindsSpec : ChangeSpec := { name := "advertKinds", fn := fun _ => fun
  | [d1, d2, d3] => { results := [.lit (.bool true)], args := [d1, d2, d3] }
  | _ => none }
def advertKindsRow : OpenClaim := { program := "ytpdabbbemampbaa", sum := "32b043b8cb9d5202e667d0841910a00a803212bc2d724598d250257a51508727", func := "embrasure/embrasurelaw21.AdvertKinds", spec := "advertKinds", unfollowed := true, recurses := true, plainKeys := false, apart := false }
def AdvertKindsSaid : Prop := advertKindsRow.holds Try.pinned (OpenSpec.ofChange advertKindsSpec)

/-- ITS FALSE NEIGHBOUR: 'it returns false'. Refute it at one input. -/
def advertKindsWrong : ChangeSpec := { name := "advertKinds", fn := fun _ => fun
  | [d1, d2, d3] => { results := [.lit (.bool false)], args := [d1, d2, d3] }
  | _ => none }
def AdvertKindsWrongFalsely : Prop := advertKindsRow.holds Try.pinned (OpenSpec.ofChange advertKindsWrong)

/-- 'embrasurelaw21.AdvertFull': WHATEVER THE INPUT: true; the input reads as it did. -/
def advertFullSpec : ChangeSpec := { name := "advertFull", fn := fun _ => fun
  | [d1, d2] => { results := [.lit (.bool true)], args := [d1, d2] }
  | _ => none }
def advertFullRow : OpenClaim := { program := "ytpdabbbemampbaa", sum := "32b043b8cb9d5202e667d0841910a00a803212bc2d724598d250257a51508727", func := "embrasure/embrasurelaw21.AdvertFull", spec := "advertFull", unfollowed := true, recurses := true, plainKeys := false, apart := false }
def AdvertFullSaid : Prop := advertFullRow.holds Try.pinned (OpenSpec.ofChange advertFullSpec)

/-- ITS FALSE NEIGHBOUR: 'it returns false'. Refute it at one input. -/
def advertFullWrong : ChangeSpec := { name := "advertFull", fn := fun _ => fun
  | [d1, d2] => { results := [.lit (.bool false)], args := [d1, d2] }
  | _ => none }
def AdvertFullWrongFalsely : Prop := advertFullRow.holds Try.pinned (OpenSpec.ofChange advertFullWrong)

/- THE SECOND FORM. 'bulk': how many values and letters a reading holds, each counted each time it is reached (what is shared counts as often as it is met; a slice's spare places count too). A statement '..UptoSaid' is the law's where the arguments, and the package variables that the reading takes, are together of bulk at most 1048576: NARROWER than '..Said'. Prove '..Said' where nothing that the law and all that it calls make is longer than what came in: it says more and counts as full. Else prove '..UptoSaid'. A law counts once. -/
mutual
def uptoBulk {H : Type} : DataW H → Nat
  | .lit (.string bytes) => bytes.length + 1
  | .lit _ => 1
  | .nil => 1
  | .ptr d => uptoBulk d + 1
  | .slice elems spare => uptoBulkAll elems + uptoBulkAll spare + 1
  | .agg parts => uptoBulkAll parts + 1
  | .iface _ d => uptoBulk d + 1
  | .map entries => uptoBulkEntries entries + 1
  | .held _ => 1
def uptoBulkAll {H : Type} : List (DataW H) → Nat
  | [] => 0
  | d :: r => uptoBulk d + uptoBulkAll r
def uptoBulkEntries {H : Type} : List (Lit × DataW H) → Nat
  | [] => 0
  | x :: r => uptoBulkEntry x + uptoBulkEntries r
def uptoBulkEntry {H : Type} : Lit × DataW H → Nat
  | (.string bytes, d) => bytes.length + uptoBulk d + 1
  | (_, d) => uptoBulk d + 1
 end
def uptoSmall : (H : Type) → List (DataW H) → Bool := fun _ ds => decide (uptoBulkAll ds ≤ 1048576)
def OpenSpec.upto (s : _root_.Go.ChangeSpec) : _root_.Go.OpenSpec := { _root_.Go.OpenSpec.ofChange s with cond := some uptoSmall }

/-- 'embrasurelaw21.AdvertInside', WHERE WHAT IT READS IS OF BULK AT MOST 1048576: true; the input reads as it did. -/
def advertInsideUptoRow : OpenClaim := { program := "ytpdabbbemampbaa", sum := "32b043b8cb9d5202e667d0841910a00a803212bc2d724598d250257a51508727", func := "embrasure/embrasurelaw21.AdvertInside", spec := "advertInside", unfollowed := true, recurses := true, plainKeys := false, apart := false, narrowed := true }
def AdvertInsideUptoSaid : Prop := advertInsideUptoRow.holds Try.pinned (OpenSpec.upto advertInsideSpec)

/-- 'embrasurelaw21.AdvertPlays', WHERE WHAT IT READS IS OF BULK AT MOST 1048576: true; the input reads as it did. -/
def advertPlaysUptoRow : OpenClaim := { program := "ytpdabbbemampbaa", sum := "32b043b8cb9d5202e667d0841910a00a803212bc2d724598d250257a51508727", func := "embrasure/embrasurelaw21.AdvertPlays", spec := "advertPlays", unfollowed := true, recurses := true, plainKeys := false, apart := false, narrowed := true }
def AdvertPlaysUptoSaid : Prop := advertPlaysUptoRow.holds Try.pinned (OpenSpec.upto advertPlaysSpec)

/-- 'embrasurelaw21.AdvertOver', WHERE WHAT IT READS IS OF BULK AT MOST 1048576: true; the input reads as it did. -/
def advertOverUptoRow : OpenClaim := { program := "ytpdabbbemampbaa", sum := "32b043b8cb9d5202e667d0841910a00a803212bc2d724598d250257a51508727", func := "embrasure/embrasurelaw21.AdvertOver", spec := "advertOver", unfollowed := true, recurses := true, plainKeys := false, apart := false, narrowed := true }
def AdvertOverUptoSaid : Prop := advertOverUptoRow.holds Try.pinned (OpenSpec.upto advertOverSpec)

/-- 'embrasurelaw21.AdvertKinds', WHERE WHAT IT READS IS OF BULK AT MOST 1048576: true; the input reads as it did. -/
def advertKindsUptoRow : OpenClaim := { program := "ytpdabbbemampbaa", sum := "32b043b8cb9d5202e667d0841910a00a803212bc2d724598d250257a51508727", func := "embrasure/embrasurelaw21.AdvertKinds", spec := "advertKinds", unfollowed := true, recurses := true, plainKeys := false, apart := false, narrowed := true }
def AdvertKindsUptoSaid : Prop := advertKindsUptoRow.holds Try.pinned (OpenSpec.upto advertKindsSpec)

/-- 'embrasurelaw21.AdvertFull', WHERE WHAT IT READS IS OF BULK AT MOST 1048576: true; the input reads as it did. -/
def advertFullUptoRow : OpenClaim := { program := "ytpdabbbemampbaa", sum := "32b043b8cb9d5202e667d0841910a00a803212bc2d724598d250257a51508727", func := "embrasure/embrasurelaw21.AdvertFull", spec := "advertFull", unfollowed := true, recurses := true, plainKeys := false, apart := false, narrowed := true }
def AdvertFullUptoSaid : Prop := advertFullUptoRow.holds Try.pinned (OpenSpec.upto advertFullSpec)

end Rows
end Go.Proofs.Ytpdabbbemampbaa
