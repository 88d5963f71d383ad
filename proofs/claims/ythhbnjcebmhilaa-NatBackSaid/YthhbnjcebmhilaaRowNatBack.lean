/- The law NatBack holds of the program: for every input the call returns true, and each argument reads as it did. -/
import Derived.Test.YthhbnjcebmhilaaRows
import Derived.Test.YthhbnjcebmhilaaR5
import Derived.Test.YthhbnjcebmhilaaEngR
import Derived.ProofKit
namespace Go.Proofs.Ythhbnjcebmhilaa
open Go Go.Eng Go.ChangeShapes Go.WideShapes Go.ChangeAt Go.RowKit
theorem Try.ownK : ownKnob Try.prog.godebug = none := by kernel_rfl
theorem Try.laidOutK : laidOutB Try.prog = true := by kernel_rfl
theorem okWide_arrayE {P : Program} {w : World} {r : Reach} {base : Nat} {t e : TypeId} {n : Nat} {v : Value} (ht : P.underlying t = some (.array n e)) (h : Value.okWide P w r base t v) : ∃ cs, v = .agg cs ∧ cs.size = P.cellsOf t := by
  simp only [Value.okWide, ht] at h
  obtain ⟨cs, h1, h2, _⟩ := h
  exact ⟨cs, h1, h2⟩
theorem flatA0_NatBack : flatT Try.prog 24 5 = some [.int .u8] := by kernel_rfl
theorem flatA1_NatBack : flatT Try.prog 24 39 = some [.int .u32, .int .i64, .int .u32, .int .i64] := by kernel_rfl
theorem flatA2_NatBack : flatT Try.prog 24 45 = some [.sl 47] := by kernel_rfl
def ok47 (x : (Int × Int × Int × Int × Int × Int × Int × Int)) : Prop := inK .i64 x.1 ∧ inK .i64 x.2.1 ∧ inK .u32 x.2.2.1 ∧ inK .i64 x.2.2.2.1 ∧ inK .u32 x.2.2.2.2.1 ∧ inK .i64 x.2.2.2.2.2.1 ∧ inK .i64 x.2.2.2.2.2.2.1 ∧ inK .i64 x.2.2.2.2.2.2.2
theorem flat47 : flatT Try.prog 24 47 = some [.int .i64, .int .i64, .int .u32, .int .i64, .int .u32, .int .i64, .int .i64, .int .i64] := by kernel_rfl
theorem dec47 {H : Type} {enc : TypeId × Value → H} {w : World} (fuel : Nat) (cs : List Value) (x : DataW H × List MemPlace) (h : DataW.trod enc Try.prog w 0 (fun _ => true) true fuel 47 cs = some x) : ∃ y : (Int × Int × Int × Int × Int × Int × Int × Int), cs = enc47 y ∧ ok47 y := by
  obtain ⟨z0, _, rfl, ⟨a0, rfl, w0⟩, z1, _, rfl, ⟨a1, rfl, w1⟩, z2, _, rfl, ⟨a2, rfl, w2⟩, z3, _, rfl, ⟨a3, rfl, w3⟩, z4, _, rfl, ⟨a4, rfl, w4⟩, z5, _, rfl, ⟨a5, rfl, w5⟩, z6, _, rfl, ⟨a6, rfl, w6⟩, z7, _, rfl, ⟨a7, rfl, w7⟩, rfl⟩ := (trod_leaves 24).1 47 _ flat47 _ _ _ h
  exact ⟨(a0, a1, a2, a3, a4, a5, a6, a7), rfl, ⟨w0, w1, w2, w3, w4, w5, w6, w7⟩⟩

set_option maxHeartbeats 2000000 in
set_option maxRecDepth 100000 in
theorem natBack_lifted (os : Os) (started : os.Started) (H : Type) (enc : TypeId × Value → H) :
    ReturnsInHanded {} Try.checked os 6 .any (Rows.natBackSpec.pre6 enc Try.prog Try.f6 Rows.natBackRow.domain false) (Rows.natBackSpec.post enc Try.prog Try.f6 false true false false) := by
  refine returnsInHanded_of_change (C := Try.checked) Try.ownK started (by kernel_rfl) Try.func6
    (ChangeSpec.witness6 (enc := enc) (C := Try.checked) false ⟨#[], #[(Value.int .u8 0), (Value.agg #[(Value.int .u32 0), (Value.int .i64 0), (Value.int .u32 0), (Value.int .i64 0)]), (Value.slice none 0 0)], []⟩ 8 (by kernel_rfl) (by kernel_rfl) (by kernel_rfl) (by kernel_rfl)) ?_
  intro W base args ds gs before hval0 hW hcnd _
  have hval : ∀ (j : Nat) t v, Try.f6.params[j]? = some t → args[j]? = some v → Value.okWide Try.prog W .any base t v := hval0
  have hW' := hW
  obtain ⟨p, q, hA0, hV, rfl, hfz, hnd⟩ := hW
  have hA : DataW.TrodAll enc Try.prog W 0 (fun _ => true) true Try.f6.params.toList args.toList ds p := hA0
  have hAll := hA
  rw [Try.params6] at hA hval
  obtain ⟨v0, v1, v2, d0, d1, d2, pp0, pp1, pp2, rfl, rfl, rfl, h0, h1, h2⟩ := trodAll_three hA
  obtain ⟨rfl, rfl⟩ := trodVars_none hV
  clear hA0 hval0
  simp only [List.append_nil] at hW'
  obtain ⟨n0, rfl⟩ := okWide_int (k := .u8) Try.underlying5 (hval 0 5 _ rfl rfl)
  obtain ⟨f0, hf0⟩ := h0
  have lo0 := (trod_leaves 24).1 5 _ flatA0_NatBack _ _ _ hf0
  obtain ⟨_, _, ez0, ⟨a0_0, ea0_0, wa0_0⟩, _⟩ := lo0
  cases ez0
  cases ea0_0
  obtain ⟨cs1, rfl, hz1⟩ := okWide_arrayE Try.underlying39 (hval 1 39 _ rfl rfl)
  obtain ⟨f1, hf1⟩ := h1
  obtain ⟨cl1⟩ := cs1
  obtain ⟨z1_0, _, rfl, ⟨a1_0, rfl, wa1_0⟩, z1_1, _, rfl, ⟨a1_1, rfl, wa1_1⟩, z1_2, _, rfl, ⟨a1_2, rfl, wa1_2⟩, z1_3, _, rfl, ⟨a1_3, rfl, wa1_3⟩, rfl⟩ := (trod_leaves 24).1 39 _ flatA1_NatBack _ _ _ hf1
  obtain ⟨p2, l2, c2, rfl⟩ := okWide_slice (e := 47) Try.underlying45 (hval 2 45 _ rfl rfl)
  obtain ⟨f2, hf2⟩ := h2
  have lo2 := (trod_leaves 24).1 45 _ flatA2_NatBack _ _ _ hf2
  obtain ⟨z2_0, _, ez2, sa2_0, _⟩ := lo2
  cases ez2
  obtain ⟨qa2_0, xsa2_0, ka2_0, ea2_0, hka2_0, hma2_0, oka2_0, rda2_0⟩ := L1_slice (z := 8) (en := enc47) (ok := ok47) (by kernel_rfl) (by decide) dec47 sa2_0
  cases ea2_0
  have hcall : CallV Try.prog 6 #[_, (Value.agg #[(Value.int .u32 a1_0), (Value.int .i64 a1_1), (Value.int .u32 a1_2), (Value.int .i64 a1_3)]), _] W (fun v w' => v = .bool true ∧ Kept W w') :=
    embrasurelaw08_NatBack_ok (rdOld rda2_0) rfl hka2_0 (oldP.start W) (natBack_plain wa0_0 wa1_0 wa1_1 wa1_2 wa1_3 oka2_0 hma2_0) (fun r w h hr => ⟨by rw [hr], oldP.kept h⟩)
  refine hcall.mono fun e W' ⟨v, he, hv, hk⟩ => ?_
  subst he; subst hv
  exact ⟨_, rfl, post_of_kept (pv := []) hW' (fun _ _ _ => trodAll_mk1 (shut_bool Try.underlying4 true))
    (fun sp hsp => hk.trodAll Try.laidOutK sp _ _ _ _ (by kernel_rfl) hAll (fun x hx => hW'.lt x (by simpa using hx)) (fun x hx => hsp x (by simpa using hx)))
    (fun _ _ => rfl) (by simp) hk (ok_one (by kernel_rfl) rfl (okWide_bool_mk Try.underlying4 true))⟩

theorem natBack_holds : Rows.NatBackSaid :=
  OpenClaim.holds_of_wide 6 Try.f6 rfl rfl rfl rfl rfl rfl rfl ⟨rfl, rfl, rfl, rfl, rfl⟩ rfl rfl rfl rfl rfl (by kernel_rfl) Try.func6 (by kernel_rfl)
    (of_decide_eq_true (by kernel_rfl)) (by unfold Func.isWrapper; first | (rw [if_pos (by decide +kernel)]; kernel_rfl) | (rw [if_neg (by decide +kernel)]; exact ⟨rfl, rfl⟩))
    (fun os started H enc _ => natBack_lifted os started H enc)
#print axioms natBack_holds

end Go.Proofs.Ythhbnjcebmhilaa
