/- The law NatFull holds of the program: for every input the call returns true, and each argument reads as it did. -/
import Derived.Test.YthhbnjcebmhilaaRows
import Derived.Test.YthhbnjcebmhilaaR2
import Derived.Test.YthhbnjcebmhilaaEngR
import Derived.ProofKit
namespace Go.Proofs.Ythhbnjcebmhilaa
open Go Go.Eng Go.ChangeShapes Go.WideShapes Go.ChangeAt Go.RowKit
theorem Try.ownK : ownKnob Try.prog.godebug = none := by kernel_rfl
theorem Try.laidOutK : laidOutB Try.prog = true := by kernel_rfl
theorem flatA0_NatFull : flatT Try.prog 24 5 = some [.int .u8] := by kernel_rfl
theorem flatA1_NatFull : flatT Try.prog 24 5 = some [.int .u8] := by kernel_rfl
theorem flatA2_NatFull : flatT Try.prog 24 24 = some [.int .u32, .int .i64] := by kernel_rfl

set_option maxHeartbeats 2000000 in
set_option maxRecDepth 100000 in
theorem natFull_lifted (os : Os) (started : os.Started) (H : Type) (enc : TypeId × Value → H) :
    ReturnsInHanded {} Try.checked os 5 .any (Rows.natFullSpec.pre6 enc Try.prog Try.f5 Rows.natFullRow.domain false) (Rows.natFullSpec.post enc Try.prog Try.f5 false true false false) := by
  refine returnsInHanded_of_change (C := Try.checked) Try.ownK started (by kernel_rfl) Try.func5
    (ChangeSpec.witness6 (enc := enc) (C := Try.checked) false ⟨#[], #[(Value.int .u8 0), (Value.int .u8 0), (Value.agg #[(Value.int .u32 0), (Value.int .i64 0)])], []⟩ 8 (by kernel_rfl) (by kernel_rfl) (by kernel_rfl) (by kernel_rfl)) ?_
  intro W base args ds gs before hval0 hW hcnd _
  have hval : ∀ (j : Nat) t v, Try.f5.params[j]? = some t → args[j]? = some v → Value.okWide Try.prog W .any base t v := hval0
  have hW' := hW
  obtain ⟨p, q, hA0, hV, rfl, hfz, hnd⟩ := hW
  have hA : DataW.TrodAll enc Try.prog W 0 (fun _ => true) true Try.f5.params.toList args.toList ds p := hA0
  have hAll := hA
  rw [Try.params5] at hA hval
  obtain ⟨v0, v1, v2, d0, d1, d2, pp0, pp1, pp2, rfl, rfl, rfl, h0, h1, h2⟩ := trodAll_three hA
  obtain ⟨rfl, rfl⟩ := trodVars_none hV
  clear hA0 hval0
  simp only [List.append_nil] at hW'
  obtain ⟨n0, rfl⟩ := okWide_int (k := .u8) Try.underlying5 (hval 0 5 _ rfl rfl)
  obtain ⟨f0, hf0⟩ := h0
  have lo0 := (trod_leaves 24).1 5 _ flatA0_NatFull _ _ _ hf0
  obtain ⟨_, _, ez0, ⟨a0_0, ea0_0, wa0_0⟩, _⟩ := lo0
  cases ez0
  cases ea0_0
  obtain ⟨n1, rfl⟩ := okWide_int (k := .u8) Try.underlying5 (hval 1 5 _ rfl rfl)
  obtain ⟨f1, hf1⟩ := h1
  have lo1 := (trod_leaves 24).1 5 _ flatA1_NatFull _ _ _ hf1
  obtain ⟨_, _, ez1, ⟨a1_0, ea1_0, wa1_0⟩, _⟩ := lo1
  cases ez1
  cases ea1_0
  obtain ⟨cs2, rfl, hz2⟩ := okWide_struct Try.underlying24 (hval 2 24 _ rfl rfl)
  obtain ⟨f2, hf2⟩ := h2
  obtain ⟨cl2⟩ := cs2
  obtain ⟨z2_0, _, rfl, ⟨a2_0, rfl, wa2_0⟩, z2_1, _, rfl, ⟨a2_1, rfl, wa2_1⟩, rfl⟩ := (trod_leaves 24).1 24 _ flatA2_NatFull _ _ _ hf2
  have hcall : CallV Try.prog 5 #[_, _, (Value.agg #[(Value.int .u32 a2_0), (Value.int .i64 a2_1)])] W (fun v w' => v = .bool true ∧ Kept W w') :=
    embrasurelaw08_NatFull_ok  (oldP.start W) (natFull_plain wa0_0 wa1_0 wa2_0 wa2_1) (fun r w h hr => ⟨by rw [hr], oldP.kept h⟩)
  refine hcall.mono fun e W' ⟨v, he, hv, hk⟩ => ?_
  subst he; subst hv
  exact ⟨_, rfl, post_of_kept (pv := []) hW' (fun _ _ _ => trodAll_mk1 (shut_bool Try.underlying4 true))
    (fun sp hsp => hk.trodAll Try.laidOutK sp _ _ _ _ (by kernel_rfl) hAll (fun x hx => hW'.lt x (by simpa using hx)) (fun x hx => hsp x (by simpa using hx)))
    (fun _ _ => rfl) (by simp) hk (ok_one (by kernel_rfl) rfl (okWide_bool_mk Try.underlying4 true))⟩

theorem natFull_holds : Rows.NatFullSaid :=
  OpenClaim.holds_of_wide 5 Try.f5 rfl rfl rfl rfl rfl rfl rfl ⟨rfl, rfl, rfl, rfl, rfl⟩ rfl rfl rfl rfl rfl (by kernel_rfl) Try.func5 (by kernel_rfl)
    (of_decide_eq_true (by kernel_rfl)) (by unfold Func.isWrapper; first | (rw [if_pos (by decide +kernel)]; kernel_rfl) | (rw [if_neg (by decide +kernel)]; exact ⟨rfl, rfl⟩))
    (fun os started H enc _ => natFull_lifted os started H enc)
#print axioms natFull_holds

end Go.Proofs.Ythhbnjcebmhilaa
