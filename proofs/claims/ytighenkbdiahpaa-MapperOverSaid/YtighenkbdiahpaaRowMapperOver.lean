/- The law MapperOver holds of the program: for every input the call returns true, and each argument reads as it did. -/
import Derived.Test.YtighenkbdiahpaaRows
import Derived.Test.YtighenkbdiahpaaR
import Derived.Test.YtighenkbdiahpaaEngR
import Derived.ProofKit
namespace Go.Proofs.Ytighenkbdiahpaa
open Go Go.Eng Go.ChangeShapes Go.WideShapes Go.ChangeAt Go.RowKit
theorem Try.ownK : ownKnob Try.prog.godebug = none := by kernel_rfl
theorem Try.laidOutK : laidOutB Try.prog = true := by kernel_rfl
theorem flatA0_MapperOver : flatT Try.prog 24 25 = some [.int .u32, .int .i64, .int .i64, .int .u64] := by kernel_rfl
theorem flatA1_MapperOver : flatT Try.prog 24 26 = some [.int .u16] := by kernel_rfl
theorem flatA2_MapperOver : flatT Try.prog 24 26 = some [.int .u16] := by kernel_rfl

set_option maxHeartbeats 2000000 in
set_option maxRecDepth 100000 in
theorem mapperOver_lifted (os : Os) (started : os.Started) (H : Type) (enc : TypeId × Value → H) :
    ReturnsInHanded {} Try.checked os 3 .any (Rows.mapperOverSpec.pre6 enc Try.prog Try.f3 Rows.mapperOverRow.domain false) (Rows.mapperOverSpec.post enc Try.prog Try.f3 false true false false) := by
  refine returnsInHanded_of_change (C := Try.checked) Try.ownK started (by kernel_rfl) Try.func3
    (ChangeSpec.witness6 (enc := enc) (C := Try.checked) false ⟨#[], #[(Value.agg #[(Value.int .u32 0), (Value.int .i64 0), (Value.int .i64 0), (Value.int .u64 0)]), (Value.int .u16 0), (Value.int .u16 0)], []⟩ 8 (by kernel_rfl) (by kernel_rfl) (by kernel_rfl) (by kernel_rfl)) ?_
  intro W base args ds gs before hval0 hW hcnd _
  have hval : ∀ (j : Nat) t v, Try.f3.params[j]? = some t → args[j]? = some v → Value.okWide Try.prog W .any base t v := hval0
  have hW' := hW
  obtain ⟨p, q, hA0, hV, rfl, hfz, hnd⟩ := hW
  have hA : DataW.TrodAll enc Try.prog W 0 (fun _ => true) true Try.f3.params.toList args.toList ds p := hA0
  have hAll := hA
  rw [Try.params3] at hA hval
  obtain ⟨v0, v1, v2, d0, d1, d2, pp0, pp1, pp2, rfl, rfl, rfl, h0, h1, h2⟩ := trodAll_three hA
  obtain ⟨rfl, rfl⟩ := trodVars_none hV
  clear hA0 hval0
  simp only [List.append_nil] at hW'
  obtain ⟨cs0, rfl, hz0⟩ := okWide_struct Try.underlying25 (hval 0 25 _ rfl rfl)
  obtain ⟨f0, hf0⟩ := h0
  obtain ⟨cl0⟩ := cs0
  obtain ⟨z0_0, _, rfl, ⟨a0_0, rfl, wa0_0⟩, z0_1, _, rfl, ⟨a0_1, rfl, wa0_1⟩, z0_2, _, rfl, ⟨a0_2, rfl, wa0_2⟩, z0_3, _, rfl, ⟨a0_3, rfl, wa0_3⟩, rfl⟩ := (trod_leaves 24).1 25 _ flatA0_MapperOver _ _ _ hf0
  obtain ⟨n1, rfl⟩ := okWide_int (k := .u16) Try.underlying26 (hval 1 26 _ rfl rfl)
  obtain ⟨f1, hf1⟩ := h1
  have lo1 := (trod_leaves 24).1 26 _ flatA1_MapperOver _ _ _ hf1
  obtain ⟨_, _, ez1, ⟨a1_0, ea1_0, wa1_0⟩, _⟩ := lo1
  cases ez1
  cases ea1_0
  obtain ⟨n2, rfl⟩ := okWide_int (k := .u16) Try.underlying26 (hval 2 26 _ rfl rfl)
  obtain ⟨f2, hf2⟩ := h2
  have lo2 := (trod_leaves 24).1 26 _ flatA2_MapperOver _ _ _ hf2
  obtain ⟨_, _, ez2, ⟨a2_0, ea2_0, wa2_0⟩, _⟩ := lo2
  cases ez2
  cases ea2_0
  have hcall : CallV Try.prog 3 #[(Value.agg #[(Value.int .u32 a0_0), (Value.int .i64 a0_1), (Value.int .i64 a0_2), (Value.int .u64 a0_3)]), _, _] W (fun v w' => v = .bool true ∧ Kept W w') :=
    embrasurelaw12_MapperOver_ok  (oldP.start W) (mapperOver_plain wa0_0 wa0_1 wa0_2 wa0_3 wa1_0 wa2_0) (fun r w h hr => ⟨by rw [hr], oldP.kept h⟩)
  refine hcall.mono fun e W' ⟨v, he, hv, hk⟩ => ?_
  subst he; subst hv
  exact ⟨_, rfl, post_of_kept (pv := []) hW' (fun _ _ _ => trodAll_mk1 (shut_bool Try.underlying4 true))
    (fun sp hsp => hk.trodAll Try.laidOutK sp _ _ _ _ (by kernel_rfl) hAll (fun x hx => hW'.lt x (by simpa using hx)) (fun x hx => hsp x (by simpa using hx)))
    (fun _ _ => rfl) (by simp) hk (ok_one (by kernel_rfl) rfl (okWide_bool_mk Try.underlying4 true))⟩

theorem mapperOver_holds : Rows.MapperOverSaid :=
  OpenClaim.holds_of_wide 3 Try.f3 rfl rfl rfl rfl rfl rfl rfl ⟨rfl, rfl, rfl, rfl, rfl⟩ rfl rfl rfl rfl rfl (by kernel_rfl) Try.func3 (by kernel_rfl)
    (of_decide_eq_true (by kernel_rfl)) (by unfold Func.isWrapper; first | (rw [if_pos (by decide +kernel)]; kernel_rfl) | (rw [if_neg (by decide +kernel)]; exact ⟨rfl, rfl⟩))
    (fun os started H enc _ => mapperOver_lifted os started H enc)
#print axioms mapperOver_holds

end Go.Proofs.Ytighenkbdiahpaa
