/- The law VoteGroups holds of the program: for every input the call returns true, and each argument reads as it did. -/
import Derived.Test.YtgcodbcfcaacgaaRows
import Derived.Test.YtgcodbcfcaacgaaRB
import Derived.Test.YtgcodbcfcaacgaaEngR
import Derived.ProofKit
namespace Go.Proofs.Ytgcodbcfcaacgaa
open Go Go.Eng Go.ChangeShapes Go.WideShapes Go.ChangeAt Go.RowKit
theorem Try.ownK : ownKnob Try.prog.godebug = none := by kernel_rfl
theorem Try.laidOutK : laidOutB Try.prog = true := by kernel_rfl
theorem okWide_arrayE {P : Program} {w : World} {r : Reach} {base : Nat} {t e : TypeId} {n : Nat} {v : Value} (ht : P.underlying t = some (.array n e)) (h : Value.okWide P w r base t v) : ∃ cs, v = .agg cs ∧ cs.size = P.cellsOf t := by
  simp only [Value.okWide, ht] at h
  obtain ⟨cs, h1, h2, _⟩ := h
  exact ⟨cs, h1, h2⟩
theorem flatA0_VoteGroups : flatT Try.prog 24 49 = some [.int .u16, .int .u16, .int .u16] := by kernel_rfl
theorem flatA1_VoteGroups : flatT Try.prog 24 22 = some [.sl 34] := by kernel_rfl
def ok34 (x : (Int × Int × Int × Int)) : Prop := inK .i64 x.1 ∧ inK .u32 x.2.1 ∧ inK .u32 x.2.2.1 ∧ inK .i64 x.2.2.2
theorem flat34 : flatT Try.prog 24 34 = some [.int .i64, .int .u32, .int .u32, .int .i64] := by kernel_rfl
theorem dec34 {H : Type} {enc : TypeId × Value → H} {w : World} (fuel : Nat) (cs : List Value) (x : DataW H × List MemPlace) (h : DataW.trod enc Try.prog w 0 (fun _ => true) true fuel 34 cs = some x) : ∃ y : (Int × Int × Int × Int), cs = enc34 y ∧ ok34 y := by
  obtain ⟨z0, _, rfl, ⟨a0, rfl, w0⟩, z1, _, rfl, ⟨a1, rfl, w1⟩, z2, _, rfl, ⟨a2, rfl, w2⟩, z3, _, rfl, ⟨a3, rfl, w3⟩, rfl⟩ := (trod_leaves 24).1 34 _ flat34 _ _ _ h
  exact ⟨(a0, a1, a2, a3), rfl, ⟨w0, w1, w2, w3⟩⟩

set_option maxHeartbeats 2000000 in
set_option maxRecDepth 100000 in
theorem voteGroups_lifted (os : Os) (started : os.Started) (H : Type) (enc : TypeId × Value → H) :
    ReturnsInHanded {} Try.checked os 4 .any (Rows.voteGroupsSpec.pre6 enc Try.prog Try.f4 Rows.voteGroupsRow.domain false) (Rows.voteGroupsSpec.post enc Try.prog Try.f4 false true false false) := by
  refine returnsInHanded_of_change (C := Try.checked) Try.ownK started (by kernel_rfl) Try.func4
    (ChangeSpec.witness6 (enc := enc) (C := Try.checked) false ⟨#[], #[(Value.agg #[(Value.int .u16 0), (Value.int .u16 0), (Value.int .u16 0)]), (Value.slice none 0 0)], []⟩ 8 (by kernel_rfl) (by kernel_rfl) (by kernel_rfl) (by kernel_rfl)) ?_
  intro W base args ds gs before hval0 hW hcnd _
  have hval : ∀ (j : Nat) t v, Try.f4.params[j]? = some t → args[j]? = some v → Value.okWide Try.prog W .any base t v := hval0
  have hW' := hW
  obtain ⟨p, q, hA0, hV, rfl, hfz, hnd⟩ := hW
  have hA : DataW.TrodAll enc Try.prog W 0 (fun _ => true) true Try.f4.params.toList args.toList ds p := hA0
  have hAll := hA
  rw [Try.params4] at hA hval
  obtain ⟨v0, v1, d0, d1, pp0, pp1, rfl, rfl, rfl, h0, h1⟩ := trodAll_two hA
  obtain ⟨rfl, rfl⟩ := trodVars_none hV
  clear hA0 hval0
  simp only [List.append_nil] at hW'
  obtain ⟨cs0, rfl, hz0⟩ := okWide_arrayE Try.underlying49 (hval 0 49 _ rfl rfl)
  obtain ⟨f0, hf0⟩ := h0
  obtain ⟨cl0⟩ := cs0
  obtain ⟨z0_0, _, rfl, ⟨a0_0, rfl, wa0_0⟩, z0_1, _, rfl, ⟨a0_1, rfl, wa0_1⟩, z0_2, _, rfl, ⟨a0_2, rfl, wa0_2⟩, rfl⟩ := (trod_leaves 24).1 49 _ flatA0_VoteGroups _ _ _ hf0
  obtain ⟨p1, l1, c1, rfl⟩ := okWide_slice (e := 34) Try.underlying22 (hval 1 22 _ rfl rfl)
  obtain ⟨f1, hf1⟩ := h1
  have lo1 := (trod_leaves 24).1 22 _ flatA1_VoteGroups _ _ _ hf1
  obtain ⟨z1_0, _, ez1, sa1_0, _⟩ := lo1
  cases ez1
  obtain ⟨qa1_0, xsa1_0, ka1_0, ea1_0, hka1_0, hma1_0, oka1_0, rda1_0⟩ := L1_slice (z := 4) (en := enc34) (ok := ok34) (by kernel_rfl) (by decide) dec34 sa1_0
  cases ea1_0
  have hcall : CallV Try.prog 4 #[(Value.agg #[(Value.int .u16 a0_0), (Value.int .u16 a0_1), (Value.int .u16 a0_2)]), _] W (fun v w' => v = .bool true ∧ Kept W w') :=
    embrasurelaw18_VoteGroups_ok (rdOld rda1_0) rfl hka1_0 (oldP.start W) (voteGroups_plain wa0_0 wa0_1 wa0_2 oka1_0 hma1_0) (fun r w h hr => ⟨by rw [hr], oldP.kept h⟩)
  refine hcall.mono fun e W' ⟨v, he, hv, hk⟩ => ?_
  subst he; subst hv
  exact ⟨_, rfl, post_of_kept (pv := []) hW' (fun _ _ _ => trodAll_mk1 (shut_bool Try.underlying4 true))
    (fun sp hsp => hk.trodAll Try.laidOutK sp _ _ _ _ (by kernel_rfl) hAll (fun x hx => hW'.lt x (by simpa using hx)) (fun x hx => hsp x (by simpa using hx)))
    (fun _ _ => rfl) (by simp) hk (ok_one (by kernel_rfl) rfl (okWide_bool_mk Try.underlying4 true))⟩

theorem voteGroups_holds : Rows.VoteGroupsSaid :=
  OpenClaim.holds_of_wide 4 Try.f4 rfl rfl rfl rfl rfl rfl rfl ⟨rfl, rfl, rfl, rfl, rfl⟩ rfl rfl rfl rfl rfl (by kernel_rfl) Try.func4 (by kernel_rfl)
    (of_decide_eq_true (by kernel_rfl)) (by unfold Func.isWrapper; first | (rw [if_pos (by decide +kernel)]; kernel_rfl) | (rw [if_neg (by decide +kernel)]; exact ⟨rfl, rfl⟩))
    (fun os started H enc _ => voteGroups_lifted os started H enc)
#print axioms voteGroups_holds

end Go.Proofs.Ytgcodbcfcaacgaa
