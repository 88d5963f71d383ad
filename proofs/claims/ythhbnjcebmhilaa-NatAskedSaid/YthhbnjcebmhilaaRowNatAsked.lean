/- The law NatAsked holds of the program: for every input the call returns true, and each argument reads as it did. -/
import Derived.Test.YthhbnjcebmhilaaRows
import Derived.Test.YthhbnjcebmhilaaR3
import Derived.Test.YthhbnjcebmhilaaEngR
import Derived.ProofKit
namespace Go.Proofs.Ythhbnjcebmhilaa
open Go Go.Eng Go.ChangeShapes Go.WideShapes Go.ChangeAt Go.RowKit
theorem Try.ownK : ownKnob Try.prog.godebug = none := by kernel_rfl
theorem Try.laidOutK : laidOutB Try.prog = true := by kernel_rfl
theorem flatA0_NatAsked : flatT Try.prog 24 5 = some [.int .u8] := by kernel_rfl
theorem flatA1_NatAsked : flatT Try.prog 24 24 = some [.int .u32, .int .i64] := by kernel_rfl
theorem flatA2_NatAsked : flatT Try.prog 24 25 = some [.sl 24] := by kernel_rfl
def ok24 (x : (Int × Int)) : Prop := inK .u32 x.1 ∧ inK .i64 x.2
theorem flat24 : flatT Try.prog 24 24 = some [.int .u32, .int .i64] := by kernel_rfl
theorem dec24 {H : Type} {enc : TypeId × Value → H} {w : World} (fuel : Nat) (cs : List Value) (x : DataW H × List MemPlace) (h : DataW.trod enc Try.prog w 0 (fun _ => true) true fuel 24 cs = some x) : ∃ y : (Int × Int), cs = enc24 y ∧ ok24 y := by
  obtain ⟨z0, _, rfl, ⟨a0, rfl, w0⟩, z1, _, rfl, ⟨a1, rfl, w1⟩, rfl⟩ := (trod_leaves 24).1 24 _ flat24 _ _ _ h
  exact ⟨(a0, a1), rfl, ⟨w0, w1⟩⟩

set_option maxHeartbeats 2000000 in
set_option maxRecDepth 100000 in
theorem natAsked_lifted (os : Os) (started : os.Started) (H : Type) (enc : TypeId × Value → H) :
    ReturnsInHanded {} Try.checked os 7 .any (Rows.natAskedSpec.pre6 enc Try.prog Try.f7 Rows.natAskedRow.domain false) (Rows.natAskedSpec.post enc Try.prog Try.f7 false true false false) := by
  refine returnsInHanded_of_change (C := Try.checked) Try.ownK started (by kernel_rfl) Try.func7
    (ChangeSpec.witness6 (enc := enc) (C := Try.checked) false ⟨#[], #[(Value.int .u8 0), (Value.agg #[(Value.int .u32 0), (Value.int .i64 0)]), (Value.slice none 0 0)], []⟩ 8 (by kernel_rfl) (by kernel_rfl) (by kernel_rfl) (by kernel_rfl)) ?_
  intro W base args ds gs before hval0 hW hcnd _
  have hval : ∀ (j : Nat) t v, Try.f7.params[j]? = some t → args[j]? = some v → Value.okWide Try.prog W .any base t v := hval0
  have hW' := hW
  obtain ⟨p, q, hA0, hV, rfl, hfz, hnd⟩ := hW
  have hA : DataW.TrodAll enc Try.prog W 0 (fun _ => true) true Try.f7.params.toList args.toList ds p := hA0
  have hAll := hA
  rw [Try.params7] at hA hval
  obtain ⟨v0, v1, v2, d0, d1, d2, pp0, pp1, pp2, rfl, rfl, rfl, h0, h1, h2⟩ := trodAll_three hA
  obtain ⟨rfl, rfl⟩ := trodVars_none hV
  clear hA0 hval0
  simp only [List.append_nil] at hW'
  obtain ⟨n0, rfl⟩ := okWide_int (k := .u8) Try.underlying5 (hval 0 5 _ rfl rfl)
  obtain ⟨f0, hf0⟩ := h0
  have lo0 := (trod_leaves 24).1 5 _ flatA0_NatAsked _ _ _ hf0
  obtain ⟨_, _, ez0, ⟨a0_0, ea0_0, wa0_0⟩, _⟩ := lo0
  cases ez0
  cases ea0_0
  obtain ⟨cs1, rfl, hz1⟩ := okWide_struct Try.underlying24 (hval 1 24 _ rfl rfl)
  obtain ⟨f1, hf1⟩ := h1
  obtain ⟨cl1⟩ := cs1
  obtain ⟨z1_0, _, rfl, ⟨a1_0, rfl, wa1_0⟩, z1_1, _, rfl, ⟨a1_1, rfl, wa1_1⟩, rfl⟩ := (trod_leaves 24).1 24 _ flatA1_NatAsked _ _ _ hf1
  obtain ⟨p2, l2, c2, rfl⟩ := okWide_slice (e := 24) Try.underlying25 (hval 2 25 _ rfl rfl)
  obtain ⟨f2, hf2⟩ := h2
  have lo2 := (trod_leaves 24).1 25 _ flatA2_NatAsked _ _ _ hf2
  obtain ⟨z2_0, _, ez2, sa2_0, _⟩ := lo2
  cases ez2
  obtain ⟨qa2_0, xsa2_0, ka2_0, ea2_0, hka2_0, hma2_0, oka2_0, rda2_0⟩ := L1_slice (z := 2) (en := enc24) (ok := ok24) (by kernel_rfl) (by decide) dec24 sa2_0
  cases ea2_0
  have hcall : CallV Try.prog 7 #[_, (Value.agg #[(Value.int .u32 a1_0), (Value.int .i64 a1_1)]), _] W (fun v w' => v = .bool true ∧ Kept W w') :=
    embrasurelaw08_NatAsked_ok (rdOld rda2_0) rfl hka2_0 (oldP.start W) (natAsked_plain wa0_0 wa1_0 wa1_1 oka2_0 hma2_0) (fun r w h hr => ⟨by rw [hr], oldP.kept h⟩)
  refine hcall.mono fun e W' ⟨v, he, hv, hk⟩ => ?_
  subst he; subst hv
  exact ⟨_, rfl, post_of_kept (pv := []) hW' (fun _ _ _ => trodAll_mk1 (shut_bool Try.underlying4 true))
    (fun sp hsp => hk.trodAll Try.laidOutK sp _ _ _ _ (by kernel_rfl) hAll (fun x hx => hW'.lt x (by simpa using hx)) (fun x hx => hsp x (by simpa using hx)))
    (fun _ _ => rfl) (by simp) hk (ok_one (by kernel_rfl) rfl (okWide_bool_mk Try.underlying4 true))⟩

theorem natAsked_holds : Rows.NatAskedSaid :=
  OpenClaim.holds_of_wide 7 Try.f7 rfl rfl rfl rfl rfl rfl rfl ⟨rfl, rfl, rfl, rfl, rfl⟩ rfl rfl rfl rfl rfl (by kernel_rfl) Try.func7 (by kernel_rfl)
    (of_decide_eq_true (by kernel_rfl)) (by unfold Func.isWrapper; first | (rw [if_pos (by decide +kernel)]; kernel_rfl) | (rw [if_neg (by decide +kernel)]; exact ⟨rfl, rfl⟩))
    (fun os started H enc _ => natAsked_lifted os started H enc)
#print axioms natAsked_holds

end Go.Proofs.Ythhbnjcebmhilaa
