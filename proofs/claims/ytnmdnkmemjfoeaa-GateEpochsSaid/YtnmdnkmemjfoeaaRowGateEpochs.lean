/- The law GateEpochs holds of the program: for every input the call returns true, and each argument reads as it did. -/
import Derived.Test.YtnmdnkmemjfoeaaRows
import Derived.Test.YtnmdnkmemjfoeaaV
import Derived.Test.YtnmdnkmemjfoeaaEngR
import Derived.ProofKit
namespace Go.Proofs.Ytnmdnkmemjfoeaa
open Go Go.Eng Go.ChangeShapes Go.WideShapes Go.ChangeAt Go.RowKit
theorem Try.ownK : ownKnob Try.prog.godebug = none := by kernel_rfl
theorem Try.laidOutK : laidOutB Try.prog = true := by kernel_rfl
theorem okWide_arrayE {P : Program} {w : World} {r : Reach} {base : Nat} {t e : TypeId} {n : Nat} {v : Value} (ht : P.underlying t = some (.array n e)) (h : Value.okWide P w r base t v) : ∃ cs, v = .agg cs ∧ cs.size = P.cellsOf t := by
  simp only [Value.okWide, ht] at h
  obtain ⟨cs, h1, h2, _⟩ := h
  exact ⟨cs, h1, h2⟩
theorem flatA0_GateEpochs : flatT Try.prog 24 57 = some [.int .u16, .int .u16, .int .u16] := by kernel_rfl
theorem flatA1_GateEpochs : flatT Try.prog 24 25 = some [.int .u32, .int .i64] := by kernel_rfl
set_option maxHeartbeats 2000000 in
set_option maxRecDepth 100000 in
theorem gateEpochs_lifted (os : Os) (started : os.Started) (H : Type) (enc : TypeId × Value → H) :
    ReturnsInHanded {} Try.checked os 5 .any (Rows.gateEpochsSpec.pre6 enc Try.prog Try.f5 Rows.gateEpochsRow.domain false) (Rows.gateEpochsSpec.post enc Try.prog Try.f5 false true false false) := by
  refine returnsInHanded_of_change (C := Try.checked) Try.ownK started (by kernel_rfl) Try.func5
    (ChangeSpec.witness6 (enc := enc) (C := Try.checked) false ⟨#[], #[(Value.agg #[(Value.int .u16 0), (Value.int .u16 0), (Value.int .u16 0)]), (Value.agg #[(Value.int .u32 0), (Value.int .i64 0)])], []⟩ 8 (by kernel_rfl) (by kernel_rfl) (by kernel_rfl) (by kernel_rfl)) ?_
  intro W base args ds gs before hval0 hW hcnd _
  have hval : ∀ (j : Nat) t v, Try.f5.params[j]? = some t → args[j]? = some v → Value.okWide Try.prog W .any base t v := hval0
  have hW' := hW
  obtain ⟨p, q, hA0, hV, rfl, hfz, hnd⟩ := hW
  have hA : DataW.TrodAll enc Try.prog W 0 (fun _ => true) true Try.f5.params.toList args.toList ds p := hA0
  have hAll := hA
  rw [Try.params5] at hA hval
  obtain ⟨v0, v1, d0, d1, pp0, pp1, rfl, rfl, rfl, h0, h1⟩ := trodAll_two hA
  obtain ⟨rfl, rfl⟩ := trodVars_none hV
  clear hA0 hval0
  simp only [List.append_nil] at hW'
  obtain ⟨cs0, rfl, hz0⟩ := okWide_arrayE Try.underlying57 (hval 0 57 _ rfl rfl)
  obtain ⟨f0, hf0⟩ := h0
  obtain ⟨cl0⟩ := cs0
  obtain ⟨z0_0, _, rfl, ⟨a0_0, rfl, wa0_0⟩, z0_1, _, rfl, ⟨a0_1, rfl, wa0_1⟩, z0_2, _, rfl, ⟨a0_2, rfl, wa0_2⟩, rfl⟩ := (trod_leaves 24).1 57 _ flatA0_GateEpochs _ _ _ hf0
  obtain ⟨cs1, rfl, hz1⟩ := okWide_struct Try.underlying25 (hval 1 25 _ rfl rfl)
  obtain ⟨f1, hf1⟩ := h1
  obtain ⟨cl1⟩ := cs1
  obtain ⟨z1_0, _, rfl, ⟨a1_0, rfl, wa1_0⟩, z1_1, _, rfl, ⟨a1_1, rfl, wa1_1⟩, rfl⟩ := (trod_leaves 24).1 25 _ flatA1_GateEpochs _ _ _ hf1
  have hcall : CallV Try.prog 5 #[(Value.agg #[(Value.int .u16 a0_0), (Value.int .u16 a0_1), (Value.int .u16 a0_2)]), (Value.agg #[(Value.int .u32 a1_0), (Value.int .i64 a1_1)])] W (fun v w' => v = .bool true ∧ Kept W w') :=
    embrasurelaw11_GateEpochs_ok  (oldP.start W) (gateEpochs_plain wa0_0 wa0_1 wa0_2 wa1_0 wa1_1) (fun r w h hr => ⟨by rw [hr], oldP.kept h⟩)
  refine hcall.mono fun e W' ⟨v, he, hv, hk⟩ => ?_
  subst he; subst hv
  exact ⟨_, rfl, post_of_kept (pv := []) hW' (fun _ _ _ => trodAll_mk1 (shut_bool Try.underlying4 true))
    (fun sp hsp => hk.trodAll Try.laidOutK sp _ _ _ _ (by kernel_rfl) hAll (fun x hx => hW'.lt x (by simpa using hx)) (fun x hx => hsp x (by simpa using hx)))
    (fun _ _ => rfl) (by simp) hk (ok_one (by kernel_rfl) rfl (okWide_bool_mk Try.underlying4 true))⟩
theorem gateEpochs_holds : Rows.GateEpochsSaid :=
  OpenClaim.holds_of_wide 5 Try.f5 rfl rfl rfl rfl rfl rfl rfl ⟨rfl, rfl, rfl, rfl, rfl⟩ rfl rfl rfl rfl rfl (by kernel_rfl) Try.func5 (by kernel_rfl)
    (of_decide_eq_true (by kernel_rfl)) (by unfold Func.isWrapper; first | (rw [if_pos (by decide +kernel)]; kernel_rfl) | (rw [if_neg (by decide +kernel)]; exact ⟨rfl, rfl⟩))
    (fun os started H enc _ => gateEpochs_lifted os started H enc)
#print axioms gateEpochs_holds
end Go.Proofs.Ytnmdnkmemjfoeaa
