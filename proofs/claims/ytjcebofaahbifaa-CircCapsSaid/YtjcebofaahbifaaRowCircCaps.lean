/- The law CircCaps holds of the program: for every input the call returns true, and each argument reads as it did. -/
import Derived.Test.YtjcebofaahbifaaRows
import Derived.Test.YtjcebofaahbifaaR3
import Derived.Test.YtjcebofaahbifaaEngR
import Derived.ProofKit
namespace Go.Proofs.Ytjcebofaahbifaa
open Go Go.Eng Go.ChangeShapes Go.WideShapes Go.ChangeAt Go.RowKit
theorem Try.ownK : ownKnob Try.prog.godebug = none := by kernel_rfl
theorem Try.laidOutK : laidOutB Try.prog = true := by kernel_rfl
theorem flatA0_CircCaps : flatT Try.prog 24 23 = some [.int .i64, .int .i64, .int .i64, .int .i64, .int .i64, .int .i64] := by kernel_rfl
theorem flatA1_CircCaps : flatT Try.prog 24 42 = some [.sl 46] := by kernel_rfl
def ok46 (x : (Int × Int × Int × Int × Int × Int)) : Prop := inK .i64 x.1 ∧ inK .i64 x.2.1 ∧ inK .i64 x.2.2.1 ∧ inK .i64 x.2.2.2.1 ∧ inK .i64 x.2.2.2.2.1 ∧ inK .i64 x.2.2.2.2.2
theorem flat46 : flatT Try.prog 24 46 = some [.int .i64, .int .i64, .int .i64, .int .i64, .int .i64, .int .i64] := by kernel_rfl
theorem dec46 {H : Type} {enc : TypeId × Value → H} {w : World} (fuel : Nat) (cs : List Value) (x : DataW H × List MemPlace) (h : DataW.trod enc Try.prog w 0 (fun _ => true) true fuel 46 cs = some x) : ∃ y : (Int × Int × Int × Int × Int × Int), cs = enc46 y ∧ ok46 y := by
  obtain ⟨z0, _, rfl, ⟨a0, rfl, w0⟩, z1, _, rfl, ⟨a1, rfl, w1⟩, z2, _, rfl, ⟨a2, rfl, w2⟩, z3, _, rfl, ⟨a3, rfl, w3⟩, z4, _, rfl, ⟨a4, rfl, w4⟩, z5, _, rfl, ⟨a5, rfl, w5⟩, rfl⟩ := (trod_leaves 24).1 46 _ flat46 _ _ _ h
  exact ⟨(a0, a1, a2, a3, a4, a5), rfl, ⟨w0, w1, w2, w3, w4, w5⟩⟩

set_option maxHeartbeats 2000000 in
set_option maxRecDepth 100000 in
theorem circCaps_lifted (os : Os) (started : os.Started) (H : Type) (enc : TypeId × Value → H) :
    ReturnsInHanded {} Try.checked os 5 .any (Rows.circCapsSpec.pre6 enc Try.prog Try.f5 Rows.circCapsRow.domain false) (Rows.circCapsSpec.post enc Try.prog Try.f5 false true false false) := by
  refine returnsInHanded_of_change (C := Try.checked) Try.ownK started (by kernel_rfl) Try.func5
    (ChangeSpec.witness6 (enc := enc) (C := Try.checked) false ⟨#[], #[(Value.agg #[(Value.int .i64 0), (Value.int .i64 0), (Value.int .i64 0), (Value.int .i64 0), (Value.int .i64 0), (Value.int .i64 0)]), (Value.slice none 0 0)], []⟩ 8 (by kernel_rfl) (by kernel_rfl) (by kernel_rfl) (by kernel_rfl)) ?_
  intro W base args ds gs before hval0 hW hcnd _
  have hval : ∀ (j : Nat) t v, Try.f5.params[j]? = some t → args[j]? = some v → Value.okWide Try.prog W .any base t v := hval0
  have hW' := hW
  obtain ⟨p, q, hA0, hV, rfl, hfz, hnd⟩ := hW
  have hA : DataW.TrodAll enc Try.prog W 0 (fun _ => true) true Try.f5.params.toList args.toList ds p := hA0
  have hAll := hA
  rw [Try.params5] at hA hval
  obtain ⟨v0, v1, d0, d1, pp0, pp1, rfl, rfl, rfl, h0, h1⟩ := trodAll_two hA
  obtain ⟨rfl, rfl⟩ := trodVars_none hV
  clear hA0 hval0
  simp only [List.append_nil] at hW'
  obtain ⟨cs0, rfl, hz0⟩ := okWide_struct Try.underlying23 (hval 0 23 _ rfl rfl)
  obtain ⟨f0, hf0⟩ := h0
  obtain ⟨cl0⟩ := cs0
  obtain ⟨z0_0, _, rfl, ⟨a0_0, rfl, wa0_0⟩, z0_1, _, rfl, ⟨a0_1, rfl, wa0_1⟩, z0_2, _, rfl, ⟨a0_2, rfl, wa0_2⟩, z0_3, _, rfl, ⟨a0_3, rfl, wa0_3⟩, z0_4, _, rfl, ⟨a0_4, rfl, wa0_4⟩, z0_5, _, rfl, ⟨a0_5, rfl, wa0_5⟩, rfl⟩ := (trod_leaves 24).1 23 _ flatA0_CircCaps _ _ _ hf0
  obtain ⟨p1, l1, c1, rfl⟩ := okWide_slice (e := 46) Try.underlying42 (hval 1 42 _ rfl rfl)
  obtain ⟨f1, hf1⟩ := h1
  have lo1 := (trod_leaves 24).1 42 _ flatA1_CircCaps _ _ _ hf1
  obtain ⟨z1_0, _, ez1, sa1_0, _⟩ := lo1
  cases ez1
  obtain ⟨qa1_0, xsa1_0, ka1_0, ea1_0, hka1_0, hma1_0, oka1_0, rda1_0⟩ := L1_slice (z := 6) (en := enc46) (ok := ok46) (by kernel_rfl) (by decide) dec46 sa1_0
  cases ea1_0
  have hcall : CallV Try.prog 5 #[(Value.agg #[(Value.int .i64 a0_0), (Value.int .i64 a0_1), (Value.int .i64 a0_2), (Value.int .i64 a0_3), (Value.int .i64 a0_4), (Value.int .i64 a0_5)]), _] W (fun v w' => v = .bool true ∧ Kept W w') :=
    embrasurelaw24_CircCaps_ok (rdOld rda1_0) rfl hka1_0 (oldP.start W) (circCaps_plain wa0_0 wa0_1 wa0_2 wa0_3 wa0_4 wa0_5 oka1_0 hma1_0) (fun r w h hr => ⟨by rw [hr], oldP.kept h⟩)
  refine hcall.mono fun e W' ⟨v, he, hv, hk⟩ => ?_
  subst he; subst hv
  exact ⟨_, rfl, post_of_kept (pv := []) hW' (fun _ _ _ => trodAll_mk1 (shut_bool Try.underlying4 true))
    (fun sp hsp => hk.trodAll Try.laidOutK sp _ _ _ _ (by kernel_rfl) hAll (fun x hx => hW'.lt x (by simpa using hx)) (fun x hx => hsp x (by simpa using hx)))
    (fun _ _ => rfl) (by simp) hk (ok_one (by kernel_rfl) rfl (okWide_bool_mk Try.underlying4 true))⟩

theorem circCaps_holds : Rows.CircCapsSaid :=
  OpenClaim.holds_of_wide 5 Try.f5 rfl rfl rfl rfl rfl rfl rfl ⟨rfl, rfl, rfl, rfl, rfl⟩ rfl rfl rfl rfl rfl (by kernel_rfl) Try.func5 (by kernel_rfl)
    (of_decide_eq_true (by kernel_rfl)) (by unfold Func.isWrapper; first | (rw [if_pos (by decide +kernel)]; kernel_rfl) | (rw [if_neg (by decide +kernel)]; exact ⟨rfl, rfl⟩))
    (fun os started H enc _ => circCaps_lifted os started H enc)
#print axioms circCaps_holds

end Go.Proofs.Ytjcebofaahbifaa
