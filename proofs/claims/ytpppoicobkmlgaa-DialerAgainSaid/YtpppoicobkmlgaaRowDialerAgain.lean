/- The law DialerAgain holds of the program: for every input the call returns true, and each argument reads as it did. -/
import Derived.Test.YtpppoicobkmlgaaRows
import Derived.Test.YtpppoicobkmlgaaM
import Derived.Test.YtpppoicobkmlgaaEngR
import Derived.ProofKit
namespace Go.Proofs.Ytpppoicobkmlgaa
open Go Go.Eng Go.ChangeShapes Go.WideShapes Go.ChangeAt Go.RowKit
theorem Try.ownK : ownKnob Try.prog.godebug = none := by kernel_rfl
theorem Try.laidOutK : laidOutB Try.prog = true := by kernel_rfl
theorem flatA0_DialerAgain : flatT Try.prog 8 28 = some [.int .u32] := by kernel_rfl
theorem flatA1_DialerAgain : flatT Try.prog 8 5 = some [.int .u8] := by kernel_rfl
theorem flatA2_DialerAgain : flatT Try.prog 8 5 = some [.int .u8] := by kernel_rfl

set_option maxHeartbeats 2000000 in
set_option maxRecDepth 100000 in
theorem dialerAgain_lifted (os : Os) (started : os.Started) (H : Type) (enc : TypeId × Value → H) :
    ReturnsInHanded {} Try.checked os 4 .any (Rows.dialerAgainSpec.pre6 enc Try.prog Try.f4 Rows.dialerAgainRow.domain false) (Rows.dialerAgainSpec.post enc Try.prog Try.f4 false true false false) := by
  refine returnsInHanded_of_change (C := Try.checked) Try.ownK started (by kernel_rfl) Try.func4
    (ChangeSpec.witness6 (enc := enc) (C := Try.checked) false ⟨#[], #[(Value.int .u32 0), (Value.int .u8 0), (Value.int .u8 0)], []⟩ 8 (by kernel_rfl) (by kernel_rfl) (by kernel_rfl) (by kernel_rfl)) ?_
  intro W base args ds gs before hval0 hW hcnd _
  have hval : ∀ (j : Nat) t v, Try.f4.params[j]? = some t → args[j]? = some v → Value.okWide Try.prog W .any base t v := hval0
  have hW' := hW
  obtain ⟨p, q, hA0, hV, rfl, hfz, hnd⟩ := hW
  have hA : DataW.TrodAll enc Try.prog W 0 (fun _ => true) true Try.f4.params.toList args.toList ds p := hA0
  have hAll := hA
  rw [Try.params4] at hA hval
  obtain ⟨v0, v1, v2, d0, d1, d2, pp0, pp1, pp2, rfl, rfl, rfl, h0, h1, h2⟩ := trodAll_three hA
  obtain ⟨rfl, rfl⟩ := trodVars_none hV
  clear hA0 hval0
  simp only [List.append_nil] at hW'
  obtain ⟨n0, rfl⟩ := okWide_int (k := .u32) Try.underlying28 (hval 0 28 _ rfl rfl)
  obtain ⟨f0, hf0⟩ := h0
  have lo0 := (trod_leaves 8).1 28 _ flatA0_DialerAgain _ _ _ hf0
  obtain ⟨_, _, ez0, ⟨a0_0, ea0_0, wa0_0⟩, _⟩ := lo0
  cases ez0
  cases ea0_0
  obtain ⟨n1, rfl⟩ := okWide_int (k := .u8) Try.underlying5 (hval 1 5 _ rfl rfl)
  obtain ⟨f1, hf1⟩ := h1
  have lo1 := (trod_leaves 8).1 5 _ flatA1_DialerAgain _ _ _ hf1
  obtain ⟨_, _, ez1, ⟨a1_0, ea1_0, wa1_0⟩, _⟩ := lo1
  cases ez1
  cases ea1_0
  obtain ⟨n2, rfl⟩ := okWide_int (k := .u8) Try.underlying5 (hval 2 5 _ rfl rfl)
  obtain ⟨f2, hf2⟩ := h2
  have lo2 := (trod_leaves 8).1 5 _ flatA2_DialerAgain _ _ _ hf2
  obtain ⟨_, _, ez2, ⟨a2_0, ea2_0, wa2_0⟩, _⟩ := lo2
  cases ez2
  cases ea2_0
  have hcall : CallV Try.prog 4 _ W (fun v w' => v = .bool true ∧ Kept W w') :=
    embrasurelaw20_DialerAgain_ok  (oldP.start W) (dialerAgain_plain wa0_0 wa1_0 wa2_0) (fun r w h hr => ⟨by rw [hr], oldP.kept h⟩)
  refine hcall.mono fun e W' ⟨v, he, hv, hk⟩ => ?_
  subst he; subst hv
  exact ⟨_, rfl, post_of_kept (pv := []) hW' (fun _ _ _ => trodAll_mk1 (shut_bool Try.underlying4 true))
    (fun sp hsp => hk.trodAll Try.laidOutK sp _ _ _ _ (by kernel_rfl) hAll (fun x hx => hW'.lt x (by simpa using hx)) (fun x hx => hsp x (by simpa using hx)))
    (fun _ _ => rfl) (by simp) hk (ok_one (by kernel_rfl) rfl (okWide_bool_mk Try.underlying4 true))⟩

theorem dialerAgain_holds : Rows.DialerAgainSaid :=
  OpenClaim.holds_of_wide 4 Try.f4 rfl rfl rfl rfl rfl rfl rfl ⟨rfl, rfl, rfl, rfl, rfl⟩ rfl rfl rfl rfl rfl (by kernel_rfl) Try.func4 (by kernel_rfl)
    (of_decide_eq_true (by kernel_rfl)) (by unfold Func.isWrapper; first | (rw [if_pos (by decide +kernel)]; kernel_rfl) | (rw [if_neg (by decide +kernel)]; exact ⟨rfl, rfl⟩))
    (fun os started H enc _ => dialerAgain_lifted os started H enc)
#print axioms dialerAgain_holds

end Go.Proofs.Ytpppoicobkmlgaa
