/-
  No cell of these rows narrows 'for every input' (looked for: loops, veiled, ifaces, maps, wideKeys, modest, calm, conditions, laid).
  DERIVED. THE GIVEN ROWS OF THIS SEAT. 4 by the template 'for every input the law returns true; each argument reads behind the call as it read before'; 0 by the template 'total and deterministic' (their statements: YtffjmcfcfdnbkaaTotals.lean).
  GIVEN WITH THE SEED: the statements are not yours to turn. If you find one false, say at which input.
  Laid BY PROGRAM, IN A SANDBOX (cutbox-rows.mjs): the forced cells as the released guide's own fill.sh prints them over the translation 6e72cd36edde0cee… (all of the seat's roots in one cut). By AI agents, Wed Nov 11 2026. No macro, syntax, notation, axiom, sorry.
-/
import Derived.Test.YtffjmcfcfdnbkaaChecked
import GoSem.Claim
import GoSem.ClaimJoined
import GoSem.ClaimMapViews
import Derived.JoinedTies
import Derived.KernelRfl
namespace Go.Proofs.Ytffjmcfcfdnbkaa
/- THE CELL 'sum', in the pinned program and in every row, IS THE sha256 OF THE DUMP (.gsa) THAT YtffjmcfcfdnbkaaProg.lean LOADS. Nothing in Lean hashes anything: it is a label: what it is worth is what the hold of that sum in a sandbox is worth. -/
noncomputable def Try.pinned : Pinned := { name := "ytffjmcfcfdnbkaa", sum := "6e72cd36edde0cee6571686803f114f2554ce26034a62e9493e142457c0dfa2f", checked := Try.checked }
namespace Rows
def none {H : Type} : Left H := { results := [], args := [] }

/-- 'embrasurelaw26.RttBounds': WHATEVER THE INPUT: true; the input reads as it did. -/
def rttBoundsSpec : ChangeSpec := { name := "rttBounds", fn := fun _ => fun
  | [d] => { results := [.lit (.bool true)], args := [d] }
  | _ => none }
def rttBoundsRow : OpenClaim := { program := "ytffjmcfcfdnbkaa", sum := "6e72cd36edde0cee6571686803f114f2554ce26034a62e9493e142457c0dfa2f", func := "embrasure/embrasurelaw26.RttBounds", spec := "rttBounds", unfollowed := true, recurses := true, apart := false }
def RttBoundsSaid : Prop := rttBoundsRow.holds Try.pinned (OpenSpec.ofChange rttBoundsSpec)

/-- ITS FALSE NEIGHBOUR: 'it returns false'. Refute it at one input. -/
def rttBoundsWrong : ChangeSpec := { name := "rttBounds", fn := fun _ => fun
  | [d] => { results := [.lit (.bool false)], args := [d] }
  | _ => none }
def RttBoundsWrongFalsely : Prop := rttBoundsRow.holds Try.pinned (OpenSpec.ofChange rttBoundsWrong)

/-- 'embrasurelaw26.RttSame': WHATEVER THE INPUT: true; the input reads as it did. -/
def rttSameSpec : ChangeSpec := { name := "rttSame", fn := fun _ => fun
  | [d1, d2] => { results := [.lit (.bool true)], args := [d1, d2] }
  | _ => none }
def rttSameRow : OpenClaim := { program := "ytffjmcfcfdnbkaa", sum := "6e72cd36edde0cee6571686803f114f2554ce26034a62e9493e142457c0dfa2f", func := "embrasure/embrasurelaw26.RttSame", spec := "rttSame", unfollowed := true, recurses := true, apart := false }
def RttSameSaid : Prop := rttSameRow.holds Try.pinned (OpenSpec.ofChange rttSameSpec)

/-- ITS FALSE NEIGHBOUR: 'it returns false'. Refute it at one input. -/
def rttSameWrong : ChangeSpec := { name := "rttSame", fn := fun _ => fun
  | [d1, d2] => { results := [.lit (.bool false)], args := [d1, d2] }
  | _ => none }
def RttSameWrongFalsely : Prop := rttSameRow.holds Try.pinned (OpenSpec.ofChange rttSameWrong)

/-- 'embrasurelaw26.RttMarks': WHATEVER THE INPUT: true; the input reads as it did. -/
def rttMarksSpec : ChangeSpec := { name := "rttMarks", fn := fun _ => fun
  | [d1, d2] => { results := [.lit (.bool true)], args := [d1, d2] }
  | _ => none }
def rttMarksRow : OpenClaim := { program := "ytffjmcfcfdnbkaa", sum := "6e72cd36edde0cee6571686803f114f2554ce26034a62e9493e142457c0dfa2f", func := "embrasure/embrasurelaw26.RttMarks", spec := "rttMarks", unfollowed := true, recurses := true, apart := false }
def RttMarksSaid : Prop := rttMarksRow.holds Try.pinned (OpenSpec.ofChange rttMarksSpec)

/-- ITS FALSE NEIGHBOUR: 'it returns false'. Refute it at one input. -/
def rttMarksWrong : ChangeSpec := { name := "rttMarks", fn := fun _ => fun
  | [d1, d2] => { results := [.lit (.bool false)], args := [d1, d2] }
  | _ => none }
def RttMarksWrongFalsely : Prop := rttMarksRow.holds Try.pinned (OpenSpec.ofChange rttMarksWrong)

/-- 'embrasurelaw26.RttWaits': WHATEVER THE INPUT: true; the input reads as it did. -/
def rttWaitsSpec : ChangeSpec := { name := "rttWaits", fn := fun _ => fun
  | [d] => { results := [.lit (.bool true)], args := [d] }
  | _ => none }
def rttWaitsRow : OpenClaim := { program := "ytffjmcfcfdnbkaa", sum := "6e72cd36edde0cee6571686803f114f2554ce26034a62e9493e142457c0dfa2f", func := "embrasure/embrasurelaw26.RttWaits", spec := "rttWaits", unfollowed := true, recurses := true, apart := false }
def RttWaitsSaid : Prop := rttWaitsRow.holds Try.pinned (OpenSpec.ofChange rttWaitsSpec)

/-- ITS FALSE NEIGHBOUR: 'it returns false'. Refute it at one input. -/
def rttWaitsWrong : ChangeSpec := { name := "rttWaits", fn := fun _ => fun
  | [d] => { results := [.lit (.bool false)], args := [d] }
  | _ => none }
def RttWaitsWrongFalsely : Prop := rttWaitsRow.holds Try.pinned (OpenSpec.ofChange rttWaitsWrong)

/- THE SECOND FORM. 'bulk': how many values and letters a reading holds, each counted each time it is reached (what is shared counts as often as it is met; a slice's spare places count too). A statement '..UptoSaid' is the law's where the arguments, and the package variables that the reading takes, are together of bulk at most 1048576: NARROWER than '..Said'. Prove '..Said' where nothing that the law and all that it calls make is longer than what came in: it says more and counts as full. Else prove '..UptoSaid'. A law counts once. -/
mutual
def uptoBulk {H : Type} : DataW H → Nat
  | .lit (.string bytes) => bytes.length + 1
  | .lit _ => 1
  | .nil => 1
  | .ptr d => uptoBulk d + 1
  | .slice elems spare => uptoBulkAll elems + uptoBulkAll spare + 1
  | .agg parts => uptoBulkAll parts + 1
  | .iface _ d => uptoBulk d + 1
  | .map entries => uptoBulkEntries entries + 1
  | .held _ => 1
def uptoBulkAll {H : Type} : List (DataW H) → Nat
  | [] => 0
  | d :: r => uptoBulk d + uptoBulkAll r
def uptoBulkEntries {H : Type} : List (Lit × DataW H) → Nat
  | [] => 0
  | x :: r => uptoBulkEntry x + uptoBulkEntries r
def uptoBulkEntry {H : Type} : Lit × DataW H → Nat
  | (.string bytes, d) => bytes.length + uptoBulk d + 1
  | (_, d) => uptoBulk d + 1
 end
def uptoSmall : (H : Type) → List (DataW H) → Bool := fun _ ds => decide (uptoBulkAll ds ≤ 1048576)
def OpenSpec.upto (s : _root_.Go.ChangeSpec) : _root_.Go.OpenSpec := { _root_.Go.OpenSpec.ofChange s with cond := some uptoSmall }

/-- 'embrasurelaw26.RttBounds', WHERE WHAT IT READS IS OF BULK AT MOST 1048576: true; the input reads as it did. -/
def rttBoundsUptoRow : OpenClaim := { program := "ytffjmcfcfdnbkaa", sum := "6e72cd36edde0cee6571686803f114f2554ce26034a62e9493e142457c0dfa2f", func := "embrasure/embrasurelaw26.RttBounds", spec := "rttBounds", unfollowed := true, recurses := true, apart := false, narrowed := true }
def RttBoundsUptoSaid : Prop := rttBoundsUptoRow.holds Try.pinned (OpenSpec.upto rttBoundsSpec)

/-- 'embrasurelaw26.RttSame', WHERE WHAT IT READS IS OF BULK AT MOST 1048576: true; the input reads as it did. -/
def rttSameUptoRow : OpenClaim := { program := "ytffjmcfcfdnbkaa", sum := "6e72cd36edde0cee6571686803f114f2554ce26034a62e9493e142457c0dfa2f", func := "embrasure/embrasurelaw26.RttSame", spec := "rttSame", unfollowed := true, recurses := true, apart := false, narrowed := true }
def RttSameUptoSaid : Prop := rttSameUptoRow.holds Try.pinned (OpenSpec.upto rttSameSpec)

/-- 'embrasurelaw26.RttMarks', WHERE WHAT IT READS IS OF BULK AT MOST 1048576: true; the input reads as it did. -/
def rttMarksUptoRow : OpenClaim := { program := "ytffjmcfcfdnbkaa", sum := "6e72cd36edde0cee6571686803f114f2554ce26034a62e9493e142457c0dfa2f", func := "embrasure/embrasurelaw26.RttMarks", spec := "rttMarks", unfollowed := true, recurses := true, apart := false, narrowed := true }
def RttMarksUptoSaid : Prop := rttMarksUptoRow.holds Try.pinned (OpenSpec.upto rttMarksSpec)

/-- 'embrasurelaw26.RttWaits', WHERE WHAT IT READS IS OF BULK AT MOST 1048576: true; the input reads as it did. -/
def rttWaitsUptoRow : OpenClaim := { program := "ytffjmcfcfdnbkaa", sum := "6e72cd36edde0cee6571686803f114f2554ce26034a62e9493e142457c0dfa2f", func := "embrasure/embrasurelaw26.RttWaits", spec := "rttWaits", unfollowed := true, recurses := true, apart := false, narrowed := true }
def RttWaitsUptoSaid : Prop := rttWaitsUptoRow.holds Try.pinned (OpenSpec.upto rttWaitsSpec)

end Rows
end Go.Proofs.Ytffjmcfcfdnbkaa
