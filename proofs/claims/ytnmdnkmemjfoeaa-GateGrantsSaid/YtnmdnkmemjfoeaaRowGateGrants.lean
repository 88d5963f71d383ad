/- The law GateGrants holds of the program: for every input the call returns true, and each argument reads as it did. -/
import Derived.Test.YtnmdnkmemjfoeaaRows
import Derived.Test.YtnmdnkmemjfoeaaV
import Derived.Test.YtnmdnkmemjfoeaaEngR
import Derived.ProofKit
namespace Go.Proofs.Ytnmdnkmemjfoeaa
open Go Go.Eng Go.ChangeShapes Go.WideShapes Go.ChangeAt Go.RowKit
theorem Try.ownK : ownKnob Try.prog.godebug = none := by kernel_rfl
theorem Try.laidOutK : laidOutB Try.prog = true := by kernel_rfl
theorem flatA0_GateGrants : flatT Try.prog 24 41 = some [.int .i64, .int .i64, .int .i64, .int .i64, .int .u64, .int .i64, .int .i64, .int .u32] := by kernel_rfl
theorem flatA1_GateGrants : flatT Try.prog 24 25 = some [.int .u32, .int .i64] := by kernel_rfl
theorem flatA2_GateGrants : flatT Try.prog 24 61 = some [.sl 63] := by kernel_rfl
def ok5 (x : (Int)) : Prop := inK .u8 x
theorem flat5 : flatT Try.prog 24 5 = some [.int .u8] := by kernel_rfl
theorem dec5 {H : Type} {enc : TypeId × Value → H} {w : World} (fuel : Nat) (cs : List Value) (x : DataW H × List MemPlace) (h : DataW.trod enc Try.prog w 0 (fun _ => true) true fuel 5 cs = some x) : ∃ y : (Int), cs = enc5 y ∧ ok5 y := by
  obtain ⟨z0, _, rfl, ⟨a0, rfl, w0⟩, rfl⟩ := (trod_leaves 24).1 5 _ flat5 _ _ _ h
  exact ⟨a0, rfl, w0⟩
def ok63 (x : (Int × Int × Int × Int × Int × Int × (List (Int)) × Int × Int × Int × Int × Int × Int × Int × Int × Int)) : Prop := inK .i64 x.1 ∧ inK .i64 x.2.1 ∧ inK .u32 x.2.2.1 ∧ inK .i64 x.2.2.2.1 ∧ inK .u32 x.2.2.2.2.1 ∧ inK .i64 x.2.2.2.2.2.1 ∧ ((∀ a ∈ x.2.2.2.2.2.2.1, ok5 a) ∧ x.2.2.2.2.2.2.1.length ≤ 9223372036854775807) ∧ inK .i64 x.2.2.2.2.2.2.2.1 ∧ inK .i64 x.2.2.2.2.2.2.2.2.1 ∧ inK .i64 x.2.2.2.2.2.2.2.2.2.1 ∧ inK .i64 x.2.2.2.2.2.2.2.2.2.2.1 ∧ inK .u64 x.2.2.2.2.2.2.2.2.2.2.2.1 ∧ inK .i64 x.2.2.2.2.2.2.2.2.2.2.2.2.1 ∧ inK .i64 x.2.2.2.2.2.2.2.2.2.2.2.2.2.1 ∧ inK .u32 x.2.2.2.2.2.2.2.2.2.2.2.2.2.2.1 ∧ inK .u32 x.2.2.2.2.2.2.2.2.2.2.2.2.2.2.2
theorem flat63 : flatT Try.prog 24 63 = some [.int .i64, .int .i64, .int .u32, .int .i64, .int .u32, .int .i64, .sl 5, .int .i64, .int .i64, .int .i64, .int .i64, .int .u64, .int .i64, .int .i64, .int .u32, .int .u32] := by kernel_rfl
theorem dec63 {H : Type} {enc : TypeId × Value → H} {w : World} (fuel : Nat) (cs : List Value) (x : DataW H × List MemPlace) (h : DataW.trod enc Try.prog w 0 (fun _ => true) true fuel 63 cs = some x) : ∃ y : (Int × Int × Int × Int × Int × Int × (List (Int)) × Int × Int × Int × Int × Int × Int × Int × Int × Int), encR63 [oldP w] y cs ∧ ok63 y := by
  obtain ⟨z0, _, rfl, ⟨a0, rfl, w0⟩, z1, _, rfl, ⟨a1, rfl, w1⟩, z2, _, rfl, ⟨a2, rfl, w2⟩, z3, _, rfl, ⟨a3, rfl, w3⟩, z4, _, rfl, ⟨a4, rfl, w4⟩, z5, _, rfl, ⟨a5, rfl, w5⟩, z6, _, rfl, s6, z7, _, rfl, ⟨a7, rfl, w7⟩, z8, _, rfl, ⟨a8, rfl, w8⟩, z9, _, rfl, ⟨a9, rfl, w9⟩, z10, _, rfl, ⟨a10, rfl, w10⟩, z11, _, rfl, ⟨a11, rfl, w11⟩, z12, _, rfl, ⟨a12, rfl, w12⟩, z13, _, rfl, ⟨a13, rfl, w13⟩, z14, _, rfl, ⟨a14, rfl, w14⟩, z15, _, rfl, ⟨a15, rfl, w15⟩, rfl⟩ := (trod_leaves 24).1 63 _ flat63 _ _ _ h
  obtain ⟨q6, a6, k6, e6, hk6, m6, o6, r6⟩ := L1_slice (z := 1) (en := enc5) (ok := ok5) (by kernel_rfl) (by decide) dec5 s6
  subst e6
  exact ⟨(a0, a1, a2, a3, a4, a5, a6, a7, a8, a9, a10, a11, a12, a13, a14, a15), ⟨q6, _, k6, rfl, rfl, hk6, rdOld r6⟩, ⟨w0, w1, w2, w3, w4, w5, ⟨o6, m6⟩, w7, w8, w9, w10, w11, w12, w13, w14, w15⟩⟩
set_option maxHeartbeats 2000000 in
set_option maxRecDepth 100000 in
theorem gateGrants_lifted (os : Os) (started : os.Started) (H : Type) (enc : TypeId × Value → H) :
    ReturnsInHanded {} Try.checked os 6 .any (Rows.gateGrantsSpec.pre6 enc Try.prog Try.f6 Rows.gateGrantsRow.domain false) (Rows.gateGrantsSpec.post enc Try.prog Try.f6 false true false false) := by
  refine returnsInHanded_of_change (C := Try.checked) Try.ownK started (by kernel_rfl) Try.func6
    (ChangeSpec.witness6 (enc := enc) (C := Try.checked) false ⟨#[], #[(Value.agg #[(Value.int .i64 0), (Value.int .i64 0), (Value.int .i64 0), (Value.int .i64 0), (Value.int .u64 0), (Value.int .i64 0), (Value.int .i64 0), (Value.int .u32 0)]), (Value.agg #[(Value.int .u32 0), (Value.int .i64 0)]), (Value.slice none 0 0)], []⟩ 8 (by kernel_rfl) (by kernel_rfl) (by kernel_rfl) (by kernel_rfl)) ?_
  intro W base args ds gs before hval0 hW hcnd _
  have hval : ∀ (j : Nat) t v, Try.f6.params[j]? = some t → args[j]? = some v → Value.okWide Try.prog W .any base t v := hval0
  have hW' := hW
  obtain ⟨p, q, hA0, hV, rfl, hfz, hnd⟩ := hW
  have hA : DataW.TrodAll enc Try.prog W 0 (fun _ => true) true Try.f6.params.toList args.toList ds p := hA0
  have hAll := hA
  rw [Try.params6] at hA hval
  obtain ⟨v0, v1, v2, d0, d1, d2, pp0, pp1, pp2, rfl, rfl, rfl, h0, h1, h2⟩ := trodAll_three hA
  obtain ⟨rfl, rfl⟩ := trodVars_none hV
  clear hA0 hval0
  simp only [List.append_nil] at hW'
  obtain ⟨cs0, rfl, hz0⟩ := okWide_struct Try.underlying41 (hval 0 41 _ rfl rfl)
  obtain ⟨f0, hf0⟩ := h0
  obtain ⟨cl0⟩ := cs0
  obtain ⟨z0_0, _, rfl, ⟨a0_0, rfl, wa0_0⟩, z0_1, _, rfl, ⟨a0_1, rfl, wa0_1⟩, z0_2, _, rfl, ⟨a0_2, rfl, wa0_2⟩, z0_3, _, rfl, ⟨a0_3, rfl, wa0_3⟩, z0_4, _, rfl, ⟨a0_4, rfl, wa0_4⟩, z0_5, _, rfl, ⟨a0_5, rfl, wa0_5⟩, z0_6, _, rfl, ⟨a0_6, rfl, wa0_6⟩, z0_7, _, rfl, ⟨a0_7, rfl, wa0_7⟩, rfl⟩ := (trod_leaves 24).1 41 _ flatA0_GateGrants _ _ _ hf0
  obtain ⟨cs1, rfl, hz1⟩ := okWide_struct Try.underlying25 (hval 1 25 _ rfl rfl)
  obtain ⟨f1, hf1⟩ := h1
  obtain ⟨cl1⟩ := cs1
  obtain ⟨z1_0, _, rfl, ⟨a1_0, rfl, wa1_0⟩, z1_1, _, rfl, ⟨a1_1, rfl, wa1_1⟩, rfl⟩ := (trod_leaves 24).1 25 _ flatA1_GateGrants _ _ _ hf1
  obtain ⟨p2, l2, c2, rfl⟩ := okWide_slice (e := 63) Try.underlying61 (hval 2 61 _ rfl rfl)
  obtain ⟨f2, hf2⟩ := h2
  have lo2 := (trod_leaves 24).1 61 _ flatA2_GateGrants _ _ _ hf2
  obtain ⟨z2_0, _, ez2, sa2_0, _⟩ := lo2
  cases ez2
  obtain ⟨qa2_0, xsa2_0, ka2_0, ea2_0, hka2_0, hma2_0, oka2_0, rda2_0⟩ := L1_sliceD (z := 16) (R := encR63 [oldP W]) (ok := ok63) (by kernel_rfl) (by decide) dec63 sa2_0
  cases ea2_0
  have hcall : CallV Try.prog 6 #[(Value.agg #[(Value.int .i64 a0_0), (Value.int .i64 a0_1), (Value.int .i64 a0_2), (Value.int .i64 a0_3), (Value.int .u64 a0_4), (Value.int .i64 a0_5), (Value.int .i64 a0_6), (Value.int .u32 a0_7)]), (Value.agg #[(Value.int .u32 a1_0), (Value.int .i64 a1_1)]), _] W (fun v w' => v = .bool true ∧ Kept W w') :=
    law_GateGrants_ok (rdOldD rda2_0) rfl hka2_0 (oldP.start W) (gateGrants_plain wa0_0 wa0_1 wa0_2 wa0_3 wa0_4 wa0_5 wa0_6 wa0_7 wa1_0 wa1_1 oka2_0 hma2_0) (fun r w h hr => ⟨by rw [hr], oldP.kept h⟩)
  refine hcall.mono fun e W' ⟨v, he, hv, hk⟩ => ?_
  subst he; subst hv
  exact ⟨_, rfl, post_of_kept (pv := []) hW' (fun _ _ _ => trodAll_mk1 (shut_bool Try.underlying4 true))
    (fun sp hsp => hk.trodAll Try.laidOutK sp _ _ _ _ (by kernel_rfl) hAll (fun x hx => hW'.lt x (by simpa using hx)) (fun x hx => hsp x (by simpa using hx)))
    (fun _ _ => rfl) (by simp) hk (ok_one (by kernel_rfl) rfl (okWide_bool_mk Try.underlying4 true))⟩
theorem gateGrants_holds : Rows.GateGrantsSaid :=
  OpenClaim.holds_of_wide 6 Try.f6 rfl rfl rfl rfl rfl rfl rfl ⟨rfl, rfl, rfl, rfl, rfl⟩ rfl rfl rfl rfl rfl (by kernel_rfl) Try.func6 (by kernel_rfl)
    (of_decide_eq_true (by kernel_rfl)) (by unfold Func.isWrapper; first | (rw [if_pos (by decide +kernel)]; kernel_rfl) | (rw [if_neg (by decide +kernel)]; exact ⟨rfl, rfl⟩))
    (fun os started H enc _ => gateGrants_lifted os started H enc)
#print axioms gateGrants_holds
end Go.Proofs.Ytnmdnkmemjfoeaa
