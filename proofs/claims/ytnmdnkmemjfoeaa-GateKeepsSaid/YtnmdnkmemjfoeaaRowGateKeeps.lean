/- The law GateKeeps holds of the program: for every input the call returns true, and each argument reads as it did. -/
import Derived.Test.YtnmdnkmemjfoeaaRows
import Derived.Test.YtnmdnkmemjfoeaaV
import Derived.Test.YtnmdnkmemjfoeaaEngR
import Derived.ProofKit
namespace Go.Proofs.Ytnmdnkmemjfoeaa
open Go Go.Eng Go.ChangeShapes Go.WideShapes Go.ChangeAt Go.RowKit
theorem Try.ownK : ownKnob Try.prog.godebug = none := by kernel_rfl
theorem Try.laidOutK : laidOutB Try.prog = true := by kernel_rfl
theorem okWide_arrayE {P : Program} {w : World} {r : Reach} {base : Nat} {t e : TypeId} {n : Nat} {v : Value} (ht : P.underlying t = some (.array n e)) (h : Value.okWide P w r base t v) : ∃ cs, v = .agg cs ∧ cs.size = P.cellsOf t := by
  simp only [Value.okWide, ht] at h
  obtain ⟨cs, h1, h2, _⟩ := h
  exact ⟨cs, h1, h2⟩
theorem flatA0_GateKeeps : flatT Try.prog 24 41 = some [.int .i64, .int .i64, .int .i64, .int .i64, .int .u64, .int .i64, .int .i64, .int .u32] := by kernel_rfl
theorem flatA1_GateKeeps : flatT Try.prog 24 25 = some [.int .u32, .int .i64] := by kernel_rfl
theorem flatA2_GateKeeps : flatT Try.prog 24 50 = some [.int .u16, .int .u16] := by kernel_rfl
set_option maxHeartbeats 2000000 in
set_option maxRecDepth 100000 in
theorem gateKeeps_lifted (os : Os) (started : os.Started) (H : Type) (enc : TypeId × Value → H) :
    ReturnsInHanded {} Try.checked os 4 .any (Rows.gateKeepsSpec.pre6 enc Try.prog Try.f4 Rows.gateKeepsRow.domain false) (Rows.gateKeepsSpec.post enc Try.prog Try.f4 false true false false) := by
  refine returnsInHanded_of_change (C := Try.checked) Try.ownK started (by kernel_rfl) Try.func4
    (ChangeSpec.witness6 (enc := enc) (C := Try.checked) false ⟨#[], #[(Value.agg #[(Value.int .i64 0), (Value.int .i64 0), (Value.int .i64 0), (Value.int .i64 0), (Value.int .u64 0), (Value.int .i64 0), (Value.int .i64 0), (Value.int .u32 0)]), (Value.agg #[(Value.int .u32 0), (Value.int .i64 0)]), (Value.agg #[(Value.int .u16 0), (Value.int .u16 0)])], []⟩ 8 (by kernel_rfl) (by kernel_rfl) (by kernel_rfl) (by kernel_rfl)) ?_
  intro W base args ds gs before hval0 hW hcnd _
  have hval : ∀ (j : Nat) t v, Try.f4.params[j]? = some t → args[j]? = some v → Value.okWide Try.prog W .any base t v := hval0
  have hW' := hW
  obtain ⟨p, q, hA0, hV, rfl, hfz, hnd⟩ := hW
  have hA : DataW.TrodAll enc Try.prog W 0 (fun _ => true) true Try.f4.params.toList args.toList ds p := hA0
  have hAll := hA
  rw [Try.params4] at hA hval
  obtain ⟨v0, v1, v2, d0, d1, d2, pp0, pp1, pp2, rfl, rfl, rfl, h0, h1, h2⟩ := trodAll_three hA
  obtain ⟨rfl, rfl⟩ := trodVars_none hV
  clear hA0 hval0
  simp only [List.append_nil] at hW'
  obtain ⟨cs0, rfl, hz0⟩ := okWide_struct Try.underlying41 (hval 0 41 _ rfl rfl)
  obtain ⟨f0, hf0⟩ := h0
  obtain ⟨cl0⟩ := cs0
  obtain ⟨z0_0, _, rfl, ⟨a0_0, rfl, wa0_0⟩, z0_1, _, rfl, ⟨a0_1, rfl, wa0_1⟩, z0_2, _, rfl, ⟨a0_2, rfl, wa0_2⟩, z0_3, _, rfl, ⟨a0_3, rfl, wa0_3⟩, z0_4, _, rfl, ⟨a0_4, rfl, wa0_4⟩, z0_5, _, rfl, ⟨a0_5, rfl, wa0_5⟩, z0_6, _, rfl, ⟨a0_6, rfl, wa0_6⟩, z0_7, _, rfl, ⟨a0_7, rfl, wa0_7⟩, rfl⟩ := (trod_leaves 24).1 41 _ flatA0_GateKeeps _ _ _ hf0
  obtain ⟨cs1, rfl, hz1⟩ := okWide_struct Try.underlying25 (hval 1 25 _ rfl rfl)
  obtain ⟨f1, hf1⟩ := h1
  obtain ⟨cl1⟩ := cs1
  obtain ⟨z1_0, _, rfl, ⟨a1_0, rfl, wa1_0⟩, z1_1, _, rfl, ⟨a1_1, rfl, wa1_1⟩, rfl⟩ := (trod_leaves 24).1 25 _ flatA1_GateKeeps _ _ _ hf1
  obtain ⟨cs2, rfl, hz2⟩ := okWide_arrayE Try.underlying50 (hval 2 50 _ rfl rfl)
  obtain ⟨f2, hf2⟩ := h2
  obtain ⟨cl2⟩ := cs2
  obtain ⟨z2_0, _, rfl, ⟨a2_0, rfl, wa2_0⟩, z2_1, _, rfl, ⟨a2_1, rfl, wa2_1⟩, rfl⟩ := (trod_leaves 24).1 50 _ flatA2_GateKeeps _ _ _ hf2
  have hcall : CallV Try.prog 4 #[(Value.agg #[(Value.int .i64 a0_0), (Value.int .i64 a0_1), (Value.int .i64 a0_2), (Value.int .i64 a0_3), (Value.int .u64 a0_4), (Value.int .i64 a0_5), (Value.int .i64 a0_6), (Value.int .u32 a0_7)]), (Value.agg #[(Value.int .u32 a1_0), (Value.int .i64 a1_1)]), (Value.agg #[(Value.int .u16 a2_0), (Value.int .u16 a2_1)])] W (fun v w' => v = .bool true ∧ Kept W w') :=
    embrasurelaw11_GateKeeps_ok  (oldP.start W) (gateKeeps_plain wa0_0 wa0_1 wa0_2 wa0_3 wa0_4 wa0_5 wa0_6 wa0_7 wa1_0 wa1_1 wa2_0 wa2_1) (fun r w h hr => ⟨by rw [hr], oldP.kept h⟩)
  refine hcall.mono fun e W' ⟨v, he, hv, hk⟩ => ?_
  subst he; subst hv
  exact ⟨_, rfl, post_of_kept (pv := []) hW' (fun _ _ _ => trodAll_mk1 (shut_bool Try.underlying4 true))
    (fun sp hsp => hk.trodAll Try.laidOutK sp _ _ _ _ (by kernel_rfl) hAll (fun x hx => hW'.lt x (by simpa using hx)) (fun x hx => hsp x (by simpa using hx)))
    (fun _ _ => rfl) (by simp) hk (ok_one (by kernel_rfl) rfl (okWide_bool_mk Try.underlying4 true))⟩
theorem gateKeeps_holds : Rows.GateKeepsSaid :=
  OpenClaim.holds_of_wide 4 Try.f4 rfl rfl rfl rfl rfl rfl rfl ⟨rfl, rfl, rfl, rfl, rfl⟩ rfl rfl rfl rfl rfl (by kernel_rfl) Try.func4 (by kernel_rfl)
    (of_decide_eq_true (by kernel_rfl)) (by unfold Func.isWrapper; first | (rw [if_pos (by decide +kernel)]; kernel_rfl) | (rw [if_neg (by decide +kernel)]; exact ⟨rfl, rfl⟩))
    (fun os started H enc _ => gateKeeps_lifted os started H enc)
#print axioms gateKeeps_holds
end Go.Proofs.Ytnmdnkmemjfoeaa
