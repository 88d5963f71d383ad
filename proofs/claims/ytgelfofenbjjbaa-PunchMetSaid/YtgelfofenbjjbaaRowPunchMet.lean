/- The law PunchMet holds of the program: for every input the call returns true, and each argument reads as it did. -/
import Derived.Test.YtgelfofenbjjbaaRows
import Derived.Test.YtgelfofenbjjbaaV
import Derived.Test.YtgelfofenbjjbaaEngR
import Derived.ProofKit
namespace Go.Proofs.Ytgelfofenbjjbaa
open Go Go.Eng Go.ChangeShapes Go.WideShapes Go.ChangeAt Go.RowKit
theorem Try.ownK : ownKnob Try.prog.godebug = none := by kernel_rfl
theorem Try.laidOutK : laidOutB Try.prog = true := by kernel_rfl
theorem flatA0_PunchMet : flatT Try.prog 24 22 = some [.sl 55] := by kernel_rfl
def ok55 (x : (Int × Int)) : Prop := inK .u32 x.1 ∧ inK .i64 x.2
theorem flat55 : flatT Try.prog 24 55 = some [.int .u32, .int .i64] := by kernel_rfl
theorem dec55 {H : Type} {enc : TypeId × Value → H} {w : World} (fuel : Nat) (cs : List Value) (x : DataW H × List MemPlace) (h : DataW.trod enc Try.prog w 0 (fun _ => true) true fuel 55 cs = some x) : ∃ y : (Int × Int), cs = enc55 y ∧ ok55 y := by
  obtain ⟨z0, _, rfl, ⟨a0, rfl, w0⟩, z1, _, rfl, ⟨a1, rfl, w1⟩, rfl⟩ := (trod_leaves 24).1 55 _ flat55 _ _ _ h
  exact ⟨(a0, a1), rfl, ⟨w0, w1⟩⟩
theorem flatA1_PunchMet : flatT Try.prog 24 4 = some [.bool] := by kernel_rfl
theorem flatA2_PunchMet : flatT Try.prog 24 45 = some [.sl 47] := by kernel_rfl
def ok52 (x : (Int)) : Prop := inK .u64 x
theorem flat52 : flatT Try.prog 24 52 = some [.int .u64] := by kernel_rfl
theorem dec52 {H : Type} {enc : TypeId × Value → H} {w : World} (fuel : Nat) (cs : List Value) (x : DataW H × List MemPlace) (h : DataW.trod enc Try.prog w 0 (fun _ => true) true fuel 52 cs = some x) : ∃ y : (Int), cs = enc52 y ∧ ok52 y := by
  obtain ⟨z0, _, rfl, ⟨a0, rfl, w0⟩, rfl⟩ := (trod_leaves 24).1 52 _ flat52 _ _ _ h
  exact ⟨a0, rfl, w0⟩
def ok5 (x : (Int)) : Prop := inK .u8 x
theorem flat5 : flatT Try.prog 24 5 = some [.int .u8] := by kernel_rfl
theorem dec5 {H : Type} {enc : TypeId × Value → H} {w : World} (fuel : Nat) (cs : List Value) (x : DataW H × List MemPlace) (h : DataW.trod enc Try.prog w 0 (fun _ => true) true fuel 5 cs = some x) : ∃ y : (Int), cs = enc5 y ∧ ok5 y := by
  obtain ⟨z0, _, rfl, ⟨a0, rfl, w0⟩, rfl⟩ := (trod_leaves 24).1 5 _ flat5 _ _ _ h
  exact ⟨a0, rfl, w0⟩
def ok47 (x : (Int × Int × Int × (List (Int)) × (List (Int × Int)) × (List (Int)))) : Prop := inK .i64 x.1 ∧ inK .i64 x.2.1 ∧ inK .i64 x.2.2.1 ∧ ((∀ a ∈ x.2.2.2.1, ok52 a) ∧ x.2.2.2.1.length ≤ 9223372036854775807) ∧ ((∀ a ∈ x.2.2.2.2.1, ok55 a) ∧ x.2.2.2.2.1.length ≤ 9223372036854775807) ∧ ((∀ a ∈ x.2.2.2.2.2, ok5 a) ∧ x.2.2.2.2.2.length ≤ 9223372036854775807)
theorem flat47 : flatT Try.prog 24 47 = some [.int .i64, .int .i64, .int .i64, .sl 52, .sl 55, .sl 5] := by kernel_rfl
theorem dec47 {H : Type} {enc : TypeId × Value → H} {w : World} (fuel : Nat) (cs : List Value) (x : DataW H × List MemPlace) (h : DataW.trod enc Try.prog w 0 (fun _ => true) true fuel 47 cs = some x) : ∃ y : (Int × Int × Int × (List (Int)) × (List (Int × Int)) × (List (Int))), encR47 [oldP w] y cs ∧ ok47 y := by
  obtain ⟨z0, _, rfl, ⟨a0, rfl, w0⟩, z1, _, rfl, ⟨a1, rfl, w1⟩, z2, _, rfl, ⟨a2, rfl, w2⟩, z3, _, rfl, s3, z4, _, rfl, s4, z5, _, rfl, s5, rfl⟩ := (trod_leaves 24).1 47 _ flat47 _ _ _ h
  obtain ⟨q3, a3, k3, e3, hk3, m3, o3, r3⟩ := L1_slice (z := 1) (en := enc52) (ok := ok52) (by kernel_rfl) (by decide) dec52 s3
  subst e3
  obtain ⟨q4, a4, k4, e4, hk4, m4, o4, r4⟩ := L1_slice (z := 2) (en := enc55) (ok := ok55) (by kernel_rfl) (by decide) dec55 s4
  subst e4
  obtain ⟨q5, a5, k5, e5, hk5, m5, o5, r5⟩ := L1_slice (z := 1) (en := enc5) (ok := ok5) (by kernel_rfl) (by decide) dec5 s5
  subst e5
  exact ⟨(a0, a1, a2, a3, a4, a5), ⟨q3, _, k3, q4, _, k4, q5, _, k5, rfl, rfl, hk3, rdOld r3, rfl, hk4, rdOld r4, rfl, hk5, rdOld r5⟩, ⟨w0, w1, w2, ⟨o3, m3⟩, ⟨o4, m4⟩, ⟨o5, m5⟩⟩⟩

set_option maxHeartbeats 2000000 in
set_option maxRecDepth 100000 in
theorem punchMet_lifted (os : Os) (started : os.Started) (H : Type) (enc : TypeId × Value → H) :
    ReturnsInHanded {} Try.checked os 6 .any (Rows.punchMetSpec.pre6 enc Try.prog Try.f6 Rows.punchMetRow.domain false) (Rows.punchMetSpec.post enc Try.prog Try.f6 false true false false) := by
  refine returnsInHanded_of_change (C := Try.checked) Try.ownK started (by kernel_rfl) Try.func6
    (ChangeSpec.witness6 (enc := enc) (C := Try.checked) false ⟨#[], #[(Value.slice none 0 0), (Value.bool false), (Value.slice none 0 0)], []⟩ 8 (by kernel_rfl) (by kernel_rfl) (by kernel_rfl) (by kernel_rfl)) ?_
  intro W base args ds gs before hval0 hW hcnd _
  have hval : ∀ (j : Nat) t v, Try.f6.params[j]? = some t → args[j]? = some v → Value.okWide Try.prog W .any base t v := hval0
  have hW' := hW
  obtain ⟨p, q, hA0, hV, rfl, hfz, hnd⟩ := hW
  have hA : DataW.TrodAll enc Try.prog W 0 (fun _ => true) true Try.f6.params.toList args.toList ds p := hA0
  have hAll := hA
  rw [Try.params6] at hA hval
  obtain ⟨v0, v1, v2, d0, d1, d2, pp0, pp1, pp2, rfl, rfl, rfl, h0, h1, h2⟩ := trodAll_three hA
  obtain ⟨rfl, rfl⟩ := trodVars_none hV
  clear hA0 hval0
  simp only [List.append_nil] at hW'
  obtain ⟨p0, l0, c0, rfl⟩ := okWide_slice (e := 55) Try.underlying22 (hval 0 22 _ rfl rfl)
  obtain ⟨f0, hf0⟩ := h0
  have lo0 := (trod_leaves 24).1 22 _ flatA0_PunchMet _ _ _ hf0
  obtain ⟨z0_0, _, ez0, sa0_0, _⟩ := lo0
  cases ez0
  obtain ⟨qa0_0, xsa0_0, ka0_0, ea0_0, hka0_0, hma0_0, oka0_0, rda0_0⟩ := L1_slice (z := 2) (en := enc55) (ok := ok55) (by kernel_rfl) (by decide) dec55 sa0_0
  cases ea0_0
  obtain ⟨n1, rfl⟩ := okWide_bool Try.underlying4 (hval 1 4 _ rfl rfl)
  obtain ⟨f1, hf1⟩ := h1
  have lo1 := (trod_leaves 24).1 4 _ flatA1_PunchMet _ _ _ hf1
  obtain ⟨_, _, ez1, ⟨a1_0, ea1_0⟩, _⟩ := lo1
  cases ez1
  cases ea1_0
  obtain ⟨p2, l2, c2, rfl⟩ := okWide_slice (e := 47) Try.underlying45 (hval 2 45 _ rfl rfl)
  obtain ⟨f2, hf2⟩ := h2
  have lo2 := (trod_leaves 24).1 45 _ flatA2_PunchMet _ _ _ hf2
  obtain ⟨z2_0, _, ez2, sa2_0, _⟩ := lo2
  cases ez2
  obtain ⟨qa2_0, xsa2_0, ka2_0, ea2_0, hka2_0, hma2_0, oka2_0, rda2_0⟩ := L1_sliceD (z := 6) (R := encR47 [oldP W]) (ok := ok47) (by kernel_rfl) (by decide) dec47 sa2_0
  cases ea2_0
  have hcall : CallV Try.prog 6 #[_, (Value.bool n1), _] W (fun v w' => v = .bool true ∧ Kept W w') :=
    embrasurelaw27_PunchMet_ok (rdOld rda0_0) rfl hka0_0 (rdOldD rda2_0) rfl hka2_0 (poolNil _ _ _ (poolNil _ _ _ (poolNil _ _ _ (oldP.start W)))) (punchMet_plain oka0_0 hma0_0 oka2_0 hma2_0) (fun r _ _ _ w h hr => ⟨by rw [hr], oldP.kept (h.drop 3)⟩)
  refine hcall.mono fun e W' ⟨v, he, hv, hk⟩ => ?_
  subst he; subst hv
  exact ⟨_, rfl, post_of_kept (pv := []) hW' (fun _ _ _ => trodAll_mk1 (shut_bool Try.underlying4 true))
    (fun sp hsp => hk.trodAll Try.laidOutK sp _ _ _ _ (by kernel_rfl) hAll (fun x hx => hW'.lt x (by simpa using hx)) (fun x hx => hsp x (by simpa using hx)))
    (fun _ _ => rfl) (by simp) hk (ok_one (by kernel_rfl) rfl (okWide_bool_mk Try.underlying4 true))⟩

theorem punchMet_holds : Rows.PunchMetSaid :=
  OpenClaim.holds_of_wide 6 Try.f6 rfl rfl rfl rfl rfl rfl rfl ⟨rfl, rfl, rfl, rfl, rfl⟩ rfl rfl rfl rfl rfl (by kernel_rfl) Try.func6 (by kernel_rfl)
    (of_decide_eq_true (by kernel_rfl)) (by unfold Func.isWrapper; first | (rw [if_pos (by decide +kernel)]; kernel_rfl) | (rw [if_neg (by decide +kernel)]; exact ⟨rfl, rfl⟩))
    (fun os started H enc _ => punchMet_lifted os started H enc)
#print axioms punchMet_holds

end Go.Proofs.Ytgelfofenbjjbaa
