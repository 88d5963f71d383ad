/- The law NatPlays holds of the program: for every input the call returns true, and each argument reads as it did. -/
import Derived.Test.YthhbnjcebmhilaaRows
import Derived.Test.YthhbnjcebmhilaaR3
import Derived.Test.YthhbnjcebmhilaaEngR
import Derived.ProofKit
namespace Go.Proofs.Ythhbnjcebmhilaa
open Go Go.Eng Go.ChangeShapes Go.WideShapes Go.ChangeAt Go.RowKit
theorem Try.ownK : ownKnob Try.prog.godebug = none := by kernel_rfl
theorem Try.laidOutK : laidOutB Try.prog = true := by kernel_rfl
theorem flatA0_NatPlays : flatT Try.prog 24 28 = some [.int .u32, .int .i64, .int .i64, .int .i64, .int .i64, .int .i64, .int .i64] := by kernel_rfl
theorem flatA1_NatPlays : flatT Try.prog 24 45 = some [.sl 47] := by kernel_rfl
def ok47 (x : (Int × Int × Int × Int × Int × Int × Int × Int)) : Prop := inK .i64 x.1 ∧ inK .i64 x.2.1 ∧ inK .u32 x.2.2.1 ∧ inK .i64 x.2.2.2.1 ∧ inK .u32 x.2.2.2.2.1 ∧ inK .i64 x.2.2.2.2.2.1 ∧ inK .i64 x.2.2.2.2.2.2.1 ∧ inK .i64 x.2.2.2.2.2.2.2
theorem flat47 : flatT Try.prog 24 47 = some [.int .i64, .int .i64, .int .u32, .int .i64, .int .u32, .int .i64, .int .i64, .int .i64] := by kernel_rfl
theorem dec47 {H : Type} {enc : TypeId × Value → H} {w : World} (fuel : Nat) (cs : List Value) (x : DataW H × List MemPlace) (h : DataW.trod enc Try.prog w 0 (fun _ => true) true fuel 47 cs = some x) : ∃ y : (Int × Int × Int × Int × Int × Int × Int × Int), cs = enc47 y ∧ ok47 y := by
  obtain ⟨z0, _, rfl, ⟨a0, rfl, w0⟩, z1, _, rfl, ⟨a1, rfl, w1⟩, z2, _, rfl, ⟨a2, rfl, w2⟩, z3, _, rfl, ⟨a3, rfl, w3⟩, z4, _, rfl, ⟨a4, rfl, w4⟩, z5, _, rfl, ⟨a5, rfl, w5⟩, z6, _, rfl, ⟨a6, rfl, w6⟩, z7, _, rfl, ⟨a7, rfl, w7⟩, rfl⟩ := (trod_leaves 24).1 47 _ flat47 _ _ _ h
  exact ⟨(a0, a1, a2, a3, a4, a5, a6, a7), rfl, ⟨w0, w1, w2, w3, w4, w5, w6, w7⟩⟩

set_option maxHeartbeats 2000000 in
set_option maxRecDepth 100000 in
theorem natPlays_lifted (os : Os) (started : os.Started) (H : Type) (enc : TypeId × Value → H) :
    ReturnsInHanded {} Try.checked os 8 .any (Rows.natPlaysSpec.pre6 enc Try.prog Try.f8 Rows.natPlaysRow.domain false) (Rows.natPlaysSpec.post enc Try.prog Try.f8 false true false false) := by
  refine returnsInHanded_of_change (C := Try.checked) Try.ownK started (by kernel_rfl) Try.func8
    (ChangeSpec.witness6 (enc := enc) (C := Try.checked) false ⟨#[], #[(Value.agg #[(Value.int .u32 0), (Value.int .i64 0), (Value.int .i64 0), (Value.int .i64 0), (Value.int .i64 0), (Value.int .i64 0), (Value.int .i64 0)]), (Value.slice none 0 0)], []⟩ 8 (by kernel_rfl) (by kernel_rfl) (by kernel_rfl) (by kernel_rfl)) ?_
  intro W base args ds gs before hval0 hW hcnd _
  have hval : ∀ (j : Nat) t v, Try.f8.params[j]? = some t → args[j]? = some v → Value.okWide Try.prog W .any base t v := hval0
  have hW' := hW
  obtain ⟨p, q, hA0, hV, rfl, hfz, hnd⟩ := hW
  have hA : DataW.TrodAll enc Try.prog W 0 (fun _ => true) true Try.f8.params.toList args.toList ds p := hA0
  have hAll := hA
  rw [Try.params8] at hA hval
  obtain ⟨v0, v1, d0, d1, pp0, pp1, rfl, rfl, rfl, h0, h1⟩ := trodAll_two hA
  obtain ⟨rfl, rfl⟩ := trodVars_none hV
  clear hA0 hval0
  simp only [List.append_nil] at hW'
  obtain ⟨cs0, rfl, hz0⟩ := okWide_struct Try.underlying28 (hval 0 28 _ rfl rfl)
  obtain ⟨f0, hf0⟩ := h0
  obtain ⟨cl0⟩ := cs0
  obtain ⟨z0_0, _, rfl, ⟨a0_0, rfl, wa0_0⟩, z0_1, _, rfl, ⟨a0_1, rfl, wa0_1⟩, z0_2, _, rfl, ⟨a0_2, rfl, wa0_2⟩, z0_3, _, rfl, ⟨a0_3, rfl, wa0_3⟩, z0_4, _, rfl, ⟨a0_4, rfl, wa0_4⟩, z0_5, _, rfl, ⟨a0_5, rfl, wa0_5⟩, z0_6, _, rfl, ⟨a0_6, rfl, wa0_6⟩, rfl⟩ := (trod_leaves 24).1 28 _ flatA0_NatPlays _ _ _ hf0
  obtain ⟨p1, l1, c1, rfl⟩ := okWide_slice (e := 47) Try.underlying45 (hval 1 45 _ rfl rfl)
  obtain ⟨f1, hf1⟩ := h1
  have lo1 := (trod_leaves 24).1 45 _ flatA1_NatPlays _ _ _ hf1
  obtain ⟨z1_0, _, ez1, sa1_0, _⟩ := lo1
  cases ez1
  obtain ⟨qa1_0, xsa1_0, ka1_0, ea1_0, hka1_0, hma1_0, oka1_0, rda1_0⟩ := L1_slice (z := 8) (en := enc47) (ok := ok47) (by kernel_rfl) (by decide) dec47 sa1_0
  cases ea1_0
  have hcall : CallV Try.prog 8 #[(Value.agg #[(Value.int .u32 a0_0), (Value.int .i64 a0_1), (Value.int .i64 a0_2), (Value.int .i64 a0_3), (Value.int .i64 a0_4), (Value.int .i64 a0_5), (Value.int .i64 a0_6)]), _] W (fun v w' => v = .bool true ∧ Kept W w') :=
    embrasurelaw08_NatPlays_ok (rdOld rda1_0) rfl hka1_0 (oldP.start W) (natPlays_plain wa0_0 wa0_1 wa0_2 wa0_3 wa0_4 wa0_5 wa0_6 oka1_0 hma1_0) (fun r w h hr => ⟨by rw [hr], oldP.kept h⟩)
  refine hcall.mono fun e W' ⟨v, he, hv, hk⟩ => ?_
  subst he; subst hv
  exact ⟨_, rfl, post_of_kept (pv := []) hW' (fun _ _ _ => trodAll_mk1 (shut_bool Try.underlying4 true))
    (fun sp hsp => hk.trodAll Try.laidOutK sp _ _ _ _ (by kernel_rfl) hAll (fun x hx => hW'.lt x (by simpa using hx)) (fun x hx => hsp x (by simpa using hx)))
    (fun _ _ => rfl) (by simp) hk (ok_one (by kernel_rfl) rfl (okWide_bool_mk Try.underlying4 true))⟩

theorem natPlays_holds : Rows.NatPlaysSaid :=
  OpenClaim.holds_of_wide 8 Try.f8 rfl rfl rfl rfl rfl rfl rfl ⟨rfl, rfl, rfl, rfl, rfl⟩ rfl rfl rfl rfl rfl (by kernel_rfl) Try.func8 (by kernel_rfl)
    (of_decide_eq_true (by kernel_rfl)) (by unfold Func.isWrapper; first | (rw [if_pos (by decide +kernel)]; kernel_rfl) | (rw [if_neg (by decide +kernel)]; exact ⟨rfl, rfl⟩))
    (fun os started H enc _ => natPlays_lifted os started H enc)
#print axioms natPlays_holds

end Go.Proofs.Ythhbnjcebmhilaa
