/-
  No cell of these rows narrows 'for every input' (looked for: loops, veiled, ifaces, maps, wideKeys, modest, calm, conditions, laid).
  DERIVED. THE GIVEN ROWS OF THIS SEAT. 4 by the template 'for every input the law returns true; each argument reads behind the call as it read before'; 0 by the template 'total and deterministic' (their statements: YtgcodbcfcaacgaaTotals.lean).
  GIVEN WITH THE SEED: the statements are not yours to turn. If you find one false, say at which input.
  Laid BY PROGRAM, IN A SANDBOX (cutbox-rows.mjs): the forced cells as the released guide's own fill.sh prints them over the translation 6d99b2e488971011… (all of the seat's roots in one cut). By AI agents, Wed Nov 11 2026. No macro, syntax, notation, axiom, sorry.
-/
import Derived.Test.YtgcodbcfcaacgaaChecked
import GoSem.Claim
import GoSem.ClaimJoined
import GoSem.ClaimMapViews
import Derived.JoinedTies
import Derived.KernelRfl
namespace Go.Proofs.Ytgcodbcfcaacgaa
/- THE CELL 'sum', in the pinned program and in every row, IS THE sha256 OF THE DUMP (.gsa) THAT YtgcodbcfcaacgaaProg.lean LOADS. Nothing in Lean hashes anything: it is a label: what it is worth is what the hold of that sum in a sandbox is worth. -/
noncomputable def Try.pinned : Pinned := { name := "ytgcodbcfcaacgaa", sum := "6d99b2e4889710110e05eba81cae03f453e88eb050925ec4cd734685527d9970", checked := Try.checked }
namespace Rows
def none {H : Type} : Left H := { results := [], args := [] }

/-- 'embrasurelaw18.VotePlays': WHATEVER THE INPUT: true; the input reads as it did. -/
def votePlaysSpec : ChangeSpec := { name := "votePlays", fn := fun _ => fun
  | [d] => { results := [.lit (.bool true)], args := [d] }
  | _ => none }
def votePlaysRow : OpenClaim := { program := "ytgcodbcfcaacgaa", sum := "6d99b2e4889710110e05eba81cae03f453e88eb050925ec4cd734685527d9970", func := "embrasure/embrasurelaw18.VotePlays", spec := "votePlays", unfollowed := true, recurses := true, plainKeys := false, apart := false }
def VotePlaysSaid : Prop := votePlaysRow.holds Try.pinned (OpenSpec.ofChange votePlaysSpec)

/-- ITS FALSE NEIGHBOUR: 'it returns false'. Refute it at one input. -/
def votePlaysWrong : ChangeSpec := { name := "votePlays", fn := fun _ => fun
  | [d] => { results := [.lit (.bool false)], args := [d] }
  | _ => none }
def VotePlaysWrongFalsely : Prop := votePlaysRow.holds Try.pinned (OpenSpec.ofChange votePlaysWrong)

/-- 'embrasurelaw18.VoteGroups': WHATEVER THE INPUT: true; the input reads as it did. -/
def voteGroupsSpec : ChangeSpec := { name := "voteGroups", fn := fun _ => fun
  | [d1, d2] => { results := [.lit (.bool true)], args := [d1, d2] }
  | _ => none }
def voteGroupsRow : OpenClaim := { program := "ytgcodbcfcaacgaa", sum := "6d99b2e4889710110e05eba81cae03f453e88eb050925ec4cd734685527d9970", func := "embrasure/embrasurelaw18.VoteGroups", spec := "voteGroups", unfollowed := true, recurses := true, plainKeys := false, apart := false }
def VoteGroupsSaid : Prop := voteGroupsRow.holds Try.pinned (OpenSpec.ofChange voteGroupsSpec)

/-- ITS FALSE NEIGHBOUR: 'it returns false'. Refute it at one input. -/
def voteGroupsWrong : ChangeSpec := { name := "voteGroups", fn := fun _ => fun
  | [d1, d2] => { results := [.lit (.bool false)], args := [d1, d2] }
  | _ => none }
def VoteGroupsWrongFalsely : Prop := voteGroupsRow.holds Try.pinned (OpenSpec.ofChange voteGroupsWrong)

/-- 'embrasurelaw18.VoteOld': WHATEVER THE INPUT: true; the input reads as it did. -/
def voteOldSpec : ChangeSpec := { name := "voteOld", fn := fun _ => fun
  | [d1, d2, d3] => { results := [.lit (.bool true)], args := [d1, d2, d3] }
  | _ => none }
def voteOldRow : OpenClaim := { program := "ytgcodbcfcaacgaa", sum := "6d99b2e4889710110e05eba81cae03f453e88eb050925ec4cd734685527d9970", func := "embrasure/embrasurelaw18.VoteOld", spec := "voteOld", unfollowed := true, recurses := true, plainKeys := false, apart := false }
def VoteOldSaid : Prop := voteOldRow.holds Try.pinned (OpenSpec.ofChange voteOldSpec)

/-- ITS FALSE NEIGHBOUR: 'it returns false'. Refute it at one input. -/
def voteOldWrong : ChangeSpec := { name := "voteOld", fn := fun _ => fun
  | [d1, d2, d3] => { results := [.lit (.bool false)], args := [d1, d2, d3] }
  | _ => none }
def VoteOldWrongFalsely : Prop := voteOldRow.holds Try.pinned (OpenSpec.ofChange voteOldWrong)

/-- 'embrasurelaw18.VoteOrder': WHATEVER THE INPUT: true; the input reads as it did. -/
def voteOrderSpec : ChangeSpec := { name := "voteOrder", fn := fun _ => fun
  | [d] => { results := [.lit (.bool true)], args := [d] }
  | _ => none }
def voteOrderRow : OpenClaim := { program := "ytgcodbcfcaacgaa", sum := "6d99b2e4889710110e05eba81cae03f453e88eb050925ec4cd734685527d9970", func := "embrasure/embrasurelaw18.VoteOrder", spec := "voteOrder", unfollowed := true, recurses := true, plainKeys := false, apart := false }
def VoteOrderSaid : Prop := voteOrderRow.holds Try.pinned (OpenSpec.ofChange voteOrderSpec)

/-- ITS FALSE NEIGHBOUR: 'it returns false'. Refute it at one input. -/
def voteOrderWrong : ChangeSpec := { name := "voteOrder", fn := fun _ => fun
  | [d] => { results := [.lit (.bool false)], args := [d] }
  | _ => none }
def VoteOrderWrongFalsely : Prop := voteOrderRow.holds Try.pinned (OpenSpec.ofChange voteOrderWrong)

/- THE SECOND FORM. 'bulk': how many values and letters a reading holds, each counted each time it is reached (what is shared counts as often as it is met; a slice's spare places count too). A statement '..UptoSaid' is the law's where the arguments, and the package variables that the reading takes, are together of bulk at most 1048576: NARROWER than '..Said'. Prove '..Said' where nothing that the law and all that it calls make is longer than what came in: it says more and counts as full. Else prove '..UptoSaid'. A law counts once. -/
mutual
def uptoBulk {H : Type} : DataW H → Nat
  | .lit (.string bytes) => bytes.length + 1
  | .lit _ => 1
  | .nil => 1
  | .ptr d => uptoBulk d + 1
  | .slice elems spare => uptoBulkAll elems + uptoBulkAll spare + 1
  | .agg parts => uptoBulkAll parts + 1
  | .iface _ d => uptoBulk d + 1
  | .map entries => uptoBulkEntries entries + 1
  | .held _ => 1
def uptoBulkAll {H : Type} : List (DataW H) → Nat
  | [] => 0
  | d :: r => uptoBulk d + uptoBulkAll r
def uptoBulkEntries {H : Type} : List (Lit × DataW H) → Nat
  | [] => 0
  | x :: r => uptoBulkEntry x + uptoBulkEntries r
def uptoBulkEntry {H : Type} : Lit × DataW H → Nat
  | (.string bytes, d) => bytes.length + uptoBulk d + 1
  | (_, d) => uptoBulk d + 1
 end
def uptoSmall : (H : Type) → List (DataW H) → Bool := fun _ ds => decide (uptoBulkAll ds ≤ 1048576)
def OpenSpec.upto (s : _root_.Go.ChangeSpec) : _root_.Go.OpenSpec := { _root_.Go.OpenSpec.ofChange s with cond := some uptoSmall }

/-- 'embrasurelaw18.VotePlays', WHERE WHAT IT READS IS OF BULK AT MOST 1048576: true; the input reads as it did. -/
def votePlaysUptoRow : OpenClaim := { program := "ytgcodbcfcaacgaa", sum := "6d99b2e4889710110e05eba81cae03f453e88eb050925ec4cd734685527d9970", func := "embrasure/embrasurelaw18.VotePlays", spec := "votePlays", unfollowed := true, recurses := true, plainKeys := false, apart := false, narrowed := true }
def VotePlaysUptoSaid : Prop := votePlaysUptoRow.holds Try.pinned (OpenSpec.upto votePlaysSpec)

/-- 'embrasurelaw18.VoteGroups', WHERE WHAT IT READS IS OF BULK AT MOST 1048576: true; the input reads as it did. -/
def voteGroupsUptoRow : OpenClaim := { program := "ytgcodbcfcaacgaa", sum := "6d99b2e4889710110e05eba81cae03f453e88eb050925ec4cd734685527d9970", func := "embrasure/embrasurelaw18.VoteGroups", spec := "voteGroups", unfollowed := true, recurses := true, plainKeys := false, apart := false, narrowed := true }
def VoteGroupsUptoSaid : Prop := voteGroupsUptoRow.holds Try.pinned (OpenSpec.upto voteGroupsSpec)

/-- 'embrasurelaw18.VoteOld', WHERE WHAT IT READS IS OF BULK AT MOST 1048576: true; the input reads as it did. -/
def voteOldUptoRow : OpenClaim := { program := "ytgcodbcfcaacgaa", sum := "6d99b2e4889710110e05eba81cae03f453e88eb050925ec4cd734685527d9970", func := "embrasure/embrasurelaw18.VoteOld", spec := "voteOld", unfollowed := true, recurses := true, plainKeys := false, apart := false, narrowed := true }
def VoteOldUptoSaid : Prop := voteOldUptoRow.holds Try.pinned (OpenSpec.upto voteOldSpec)

/-- 'embrasurelaw18.VoteOrder', WHERE WHAT IT READS IS OF BULK AT MOST 1048576: true; the input reads as it did. -/
def voteOrderUptoRow : OpenClaim := { program := "ytgcodbcfcaacgaa", sum := "6d99b2e4889710110e05eba81cae03f453e88eb050925ec4cd734685527d9970", func := "embrasure/embrasurelaw18.VoteOrder", spec := "voteOrder", unfollowed := true, recurses := true, plainKeys := false, apart := false, narrowed := true }
def VoteOrderUptoSaid : Prop := voteOrderUptoRow.holds Try.pinned (OpenSpec.upto voteOrderSpec)

end Rows
end Go.Proofs.Ytgcodbcfcaacgaa
