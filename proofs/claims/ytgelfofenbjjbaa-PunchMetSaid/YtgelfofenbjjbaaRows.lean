/-
  No cell of these rows narrows 'for every input' (looked for: loops, veiled, ifaces, maps, wideKeys, modest, calm, conditions, laid).
  DERIVED. THE GIVEN ROWS OF THIS SEAT. 4 by the template 'for every input the law returns true; each argument reads behind the call as it read before'; 0 by the template 'total and deterministic' (their statements: YtgelfofenbjjbaaTotals.lean).
  GIVEN WITH THE SEED: the statements are not yours to turn. If you find one false, say at which input.
  Laid BY PROGRAM, IN A SANDBOX (cutbox-rows.mjs): the forced cells as the released guide's own fill.sh prints them over the translation 6816741fed5b9eed… (all of the seat's roots in one cut). By AI agents, Wed Nov 11 2026. No macro, syntax, notation, axiom, sorry.
-/
import Derived.Test.YtgelfofenbjjbaaChecked
import GoSem.Claim
import GoSem.ClaimJoined
import GoSem.ClaimMapViews
import Derived.JoinedTies
import Derived.KernelRfl
namespace Go.Proofs.Ytgelfofenbjjbaa
/- THE CELL 'sum', in the pinned program and in every row, IS THE sha256 OF THE DUMP (.gsa) THAT YtgelfofenbjjbaaProg.lean LOADS. Nothing in Lean hashes anything: it is a label: what it is worth is what the hold of that sum in a sandbox is worth. -/
noncomputable def Try.pinned : Pinned := { name := "ytgelfofenbjjbaa", sum := "6816741fed5b9eeddde55f541a71973fa769e0445d18136ef7bd61330cfb9ce0", checked := Try.checked }
namespace Rows
def none {H : Type} : Left H := { results := [], args := [] }

/-- 'embrasurelaw27.PunchTogether': WHATEVER THE INPUT: true; the input reads as it did. -/
def punchTogetherSpec : ChangeSpec := { name := "punchTogether", fn := fun _ => fun
  | [d1, d2, d3] => { results := [.lit (.bool true)], args := [d1, d2, d3] }
  | _ => none }
def punchTogetherRow : OpenClaim := { program := "ytgelfofenbjjbaa", sum := "6816741fed5b9eeddde55f541a71973fa769e0445d18136ef7bd61330cfb9ce0", func := "embrasure/embrasurelaw27.PunchTogether", spec := "punchTogether", unfollowed := true, recurses := true, apart := false }
def PunchTogetherSaid : Prop := punchTogetherRow.holds Try.pinned (OpenSpec.ofChange punchTogetherSpec)

/-- ITS FALSE NEIGHBOUR: 'it returns false'. Refute it at one input. -/
def punchTogetherWrong : ChangeSpec := { name := "punchTogether", fn := fun _ => fun
  | [d1, d2, d3] => { results := [.lit (.bool false)], args := [d1, d2, d3] }
  | _ => none }
def PunchTogetherWrongFalsely : Prop := punchTogetherRow.holds Try.pinned (OpenSpec.ofChange punchTogetherWrong)

/-- 'embrasurelaw27.PunchEnds': WHATEVER THE INPUT: true; the input reads as it did. -/
def punchEndsSpec : ChangeSpec := { name := "punchEnds", fn := fun _ => fun
  | [d1, d2] => { results := [.lit (.bool true)], args := [d1, d2] }
  | _ => none }
def punchEndsRow : OpenClaim := { program := "ytgelfofenbjjbaa", sum := "6816741fed5b9eeddde55f541a71973fa769e0445d18136ef7bd61330cfb9ce0", func := "embrasure/embrasurelaw27.PunchEnds", spec := "punchEnds", unfollowed := true, recurses := true, apart := false }
def PunchEndsSaid : Prop := punchEndsRow.holds Try.pinned (OpenSpec.ofChange punchEndsSpec)

/-- ITS FALSE NEIGHBOUR: 'it returns false'. Refute it at one input. -/
def punchEndsWrong : ChangeSpec := { name := "punchEnds", fn := fun _ => fun
  | [d1, d2] => { results := [.lit (.bool false)], args := [d1, d2] }
  | _ => none }
def PunchEndsWrongFalsely : Prop := punchEndsRow.holds Try.pinned (OpenSpec.ofChange punchEndsWrong)

/-- 'embrasurelaw27.PunchStill': WHATEVER THE INPUT: true; the input reads as it did. -/
def punchStillSpec : ChangeSpec := { name := "punchStill", fn := fun _ => fun
  | [d1, d2, d3] => { results := [.lit (.bool true)], args := [d1, d2, d3] }
  | _ => none }
def punchStillRow : OpenClaim := { program := "ytgelfofenbjjbaa", sum := "6816741fed5b9eeddde55f541a71973fa769e0445d18136ef7bd61330cfb9ce0", func := "embrasure/embrasurelaw27.PunchStill", spec := "punchStill", unfollowed := true, recurses := true, apart := false }
def PunchStillSaid : Prop := punchStillRow.holds Try.pinned (OpenSpec.ofChange punchStillSpec)

/-- ITS FALSE NEIGHBOUR: 'it returns false'. Refute it at one input. -/
def punchStillWrong : ChangeSpec := { name := "punchStill", fn := fun _ => fun
  | [d1, d2, d3] => { results := [.lit (.bool false)], args := [d1, d2, d3] }
  | _ => none }
def PunchStillWrongFalsely : Prop := punchStillRow.holds Try.pinned (OpenSpec.ofChange punchStillWrong)

/-- 'embrasurelaw27.PunchMet': WHATEVER THE INPUT: true; the input reads as it did. -/
def punchMetSpec : ChangeSpec := { name := "punchMet", fn := fun _ => fun
  | [d1, d2, d3] => { results := [.lit (.bool true)], args := [d1, d2, d3] }
  | _ => none }
def punchMetRow : OpenClaim := { program := "ytgelfofenbjjbaa", sum := "6816741fed5b9eeddde55f541a71973fa769e0445d18136ef7bd61330cfb9ce0", func := "embrasure/embrasurelaw27.PunchMet", spec := "punchMet", unfollowed := true, recurses := true, apart := false }
def PunchMetSaid : Prop := punchMetRow.holds Try.pinned (OpenSpec.ofChange punchMetSpec)

/-- ITS FALSE NEIGHBOUR: 'it returns false'. Refute it at one input. -/
def punchMetWrong : ChangeSpec := { name := "punchMet", fn := fun _ => fun
  | [d1, d2, d3] => { results := [.lit (.bool false)], args := [d1, d2, d3] }
  | _ => none }
def PunchMetWrongFalsely : Prop := punchMetRow.holds Try.pinned (OpenSpec.ofChange punchMetWrong)

/- THE SECOND FORM. 'bulk': how many values and letters a reading holds, each counted each time it is reached (what is shared counts as often as it is met; a slice's spare places count too). A statement '..UptoSaid' is the law's where the arguments, and the package variables that the reading takes, are together of bulk at most 1048576: NARROWER than '..Said'. Prove '..Said' where nothing that the law and all that it calls make is longer than what came in: it says more and counts as full. Else prove '..UptoSaid'. A law counts once. -/
mutual
def uptoBulk {H : Type} : DataW H → Nat
  | .lit (.string bytes) => bytes.length + 1
  | .lit _ => 1
  | .nil => 1
  | .ptr d => uptoBulk d + 1
  | .slice elems spare => uptoBulkAll elems + uptoBulkAll spare + 1
  | .agg parts => uptoBulkAll parts + 1
  | .iface _ d => uptoBulk d + 1
  | .map entries => uptoBulkEntries entries + 1
  | .held _ => 1
def uptoBulkAll {H : Type} : List (DataW H) → Nat
  | [] => 0
  | d :: r => uptoBulk d + uptoBulkAll r
def uptoBulkEntries {H : Type} : List (Lit × DataW H) → Nat
  | [] => 0
  | x :: r => uptoBulkEntry x + uptoBulkEntries r
def uptoBulkEntry {H : Type} : Lit × DataW H → Nat
  | (.string bytes, d) => bytes.length + uptoBulk d + 1
  | (_, d) => uptoBulk d + 1
 end
def uptoSmall : (H : Type) → List (DataW H) → Bool := fun _ ds => decide (uptoBulkAll ds ≤ 1048576)
def OpenSpec.upto (s : _root_.Go.ChangeSpec) : _root_.Go.OpenSpec := { _root_.Go.OpenSpec.ofChange s with cond := some uptoSmall }

/-- 'embrasurelaw27.PunchTogether', WHERE WHAT IT READS IS OF BULK AT MOST 1048576: true; the input reads as it did. -/
def punchTogetherUptoRow : OpenClaim := { program := "ytgelfofenbjjbaa", sum := "6816741fed5b9eeddde55f541a71973fa769e0445d18136ef7bd61330cfb9ce0", func := "embrasure/embrasurelaw27.PunchTogether", spec := "punchTogether", unfollowed := true, recurses := true, apart := false, narrowed := true }
def PunchTogetherUptoSaid : Prop := punchTogetherUptoRow.holds Try.pinned (OpenSpec.upto punchTogetherSpec)

/-- 'embrasurelaw27.PunchEnds', WHERE WHAT IT READS IS OF BULK AT MOST 1048576: true; the input reads as it did. -/
def punchEndsUptoRow : OpenClaim := { program := "ytgelfofenbjjbaa", sum := "6816741fed5b9eeddde55f541a71973fa769e0445d18136ef7bd61330cfb9ce0", func := "embrasure/embrasurelaw27.PunchEnds", spec := "punchEnds", unfollowed := true, recurses := true, apart := false, narrowed := true }
def PunchEndsUptoSaid : Prop := punchEndsUptoRow.holds Try.pinned (OpenSpec.upto punchEndsSpec)

/-- 'embrasurelaw27.PunchStill', WHERE WHAT IT READS IS OF BULK AT MOST 1048576: true; the input reads as it did. -/
def punchStillUptoRow : OpenClaim := { program := "ytgelfofenbjjbaa", sum := "6816741fed5b9eeddde55f541a71973fa769e0445d18136ef7bd61330cfb9ce0", func := "embrasure/embrasurelaw27.PunchStill", spec := "punchStill", unfollowed := true, recurses := true, apart := false, narrowed := true }
def PunchStillUptoSaid : Prop := punchStillUptoRow.holds Try.pinned (OpenSpec.upto punchStillSpec)

/-- 'embrasurelaw27.PunchMet', WHERE WHAT IT READS IS OF BULK AT MOST 1048576: true; the input reads as it did. -/
def punchMetUptoRow : OpenClaim := { program := "ytgelfofenbjjbaa", sum := "6816741fed5b9eeddde55f541a71973fa769e0445d18136ef7bd61330cfb9ce0", func := "embrasure/embrasurelaw27.PunchMet", spec := "punchMet", unfollowed := true, recurses := true, apart := false, narrowed := true }
def PunchMetUptoSaid : Prop := punchMetUptoRow.holds Try.pinned (OpenSpec.upto punchMetSpec)

end Rows
end Go.Proofs.Ytgelfofenbjjbaa
