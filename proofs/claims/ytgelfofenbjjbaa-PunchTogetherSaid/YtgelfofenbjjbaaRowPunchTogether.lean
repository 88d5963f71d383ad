/- The law PunchTogether holds of the program: for every input the call returns true, and each argument reads as it did. -/
import Derived.Test.YtgelfofenbjjbaaRows
import Derived.Test.YtgelfofenbjjbaaV
import Derived.Test.YtgelfofenbjjbaaEngR
import Derived.ProofKit
namespace Go.Proofs.Ytgelfofenbjjbaa
open Go Go.Eng Go.ChangeShapes Go.WideShapes Go.ChangeAt Go.RowKit
theorem Try.ownK : ownKnob Try.prog.godebug = none := by kernel_rfl
theorem Try.laidOutK : laidOutB Try.prog = true := by kernel_rfl
theorem okWide_arrayE {P : Program} {w : World} {r : Reach} {base : Nat} {t e : TypeId} {n : Nat} {v : Value} (ht : P.underlying t = some (.array n e)) (h : Value.okWide P w r base t v) : ∃ cs, v = .agg cs ∧ cs.size = P.cellsOf t := by
  simp only [Value.okWide, ht] at h
  obtain ⟨cs, h1, h2, _⟩ := h
  exact ⟨cs, h1, h2⟩
theorem flatA0_PunchTogether : flatT Try.prog 24 23 = some [.sl 55, .sl 55] := by kernel_rfl
def ok55 (x : (Int × Int)) : Prop := inK .u32 x.1 ∧ inK .i64 x.2
theorem flat55 : flatT Try.prog 24 55 = some [.int .u32, .int .i64] := by kernel_rfl
theorem dec55 {H : Type} {enc : TypeId × Value → H} {w : World} (fuel : Nat) (cs : List Value) (x : DataW H × List MemPlace) (h : DataW.trod enc Try.prog w 0 (fun _ => true) true fuel 55 cs = some x) : ∃ y : (Int × Int), cs = enc55 y ∧ ok55 y := by
  obtain ⟨z0, _, rfl, ⟨a0, rfl, w0⟩, z1, _, rfl, ⟨a1, rfl, w1⟩, rfl⟩ := (trod_leaves 24).1 55 _ flat55 _ _ _ h
  exact ⟨(a0, a1), rfl, ⟨w0, w1⟩⟩
theorem flatA1_PunchTogether : flatT Try.prog 24 5 = some [.int .u8] := by kernel_rfl
theorem flatA2_PunchTogether : flatT Try.prog 24 24 = some [.int .u16] := by kernel_rfl

set_option maxHeartbeats 2000000 in
set_option maxRecDepth 100000 in
theorem punchTogether_lifted (os : Os) (started : os.Started) (H : Type) (enc : TypeId × Value → H) :
    ReturnsInHanded {} Try.checked os 3 .any (Rows.punchTogetherSpec.pre6 enc Try.prog Try.f3 Rows.punchTogetherRow.domain false) (Rows.punchTogetherSpec.post enc Try.prog Try.f3 false true false false) := by
  refine returnsInHanded_of_change (C := Try.checked) Try.ownK started (by kernel_rfl) Try.func3
    (ChangeSpec.witness6 (enc := enc) (C := Try.checked) false ⟨#[], #[(Value.agg #[(Value.slice none 0 0), (Value.slice none 0 0)]), (Value.int .u8 0), (Value.int .u16 0)], []⟩ 8 (by kernel_rfl) (by kernel_rfl) (by kernel_rfl) (by kernel_rfl)) ?_
  intro W base args ds gs before hval0 hW hcnd _
  have hval : ∀ (j : Nat) t v, Try.f3.params[j]? = some t → args[j]? = some v → Value.okWide Try.prog W .any base t v := hval0
  have hW' := hW
  obtain ⟨p, q, hA0, hV, rfl, hfz, hnd⟩ := hW
  have hA : DataW.TrodAll enc Try.prog W 0 (fun _ => true) true Try.f3.params.toList args.toList ds p := hA0
  have hAll := hA
  rw [Try.params3] at hA hval
  obtain ⟨v0, v1, v2, d0, d1, d2, pp0, pp1, pp2, rfl, rfl, rfl, h0, h1, h2⟩ := trodAll_three hA
  obtain ⟨rfl, rfl⟩ := trodVars_none hV
  clear hA0 hval0
  simp only [List.append_nil] at hW'
  obtain ⟨cs0, rfl, hz0⟩ := okWide_arrayE Try.underlying23 (hval 0 23 _ rfl rfl)
  obtain ⟨f0, hf0⟩ := h0
  obtain ⟨cl0⟩ := cs0
  obtain ⟨z0_0, _, rfl, sa0_0, z0_1, _, rfl, sa0_1, rfl⟩ := (trod_leaves 24).1 23 _ flatA0_PunchTogether _ _ _ hf0
  obtain ⟨qa0_0, xsa0_0, ka0_0, ea0_0, hka0_0, hma0_0, oka0_0, rda0_0⟩ := L1_slice (z := 2) (en := enc55) (ok := ok55) (by kernel_rfl) (by decide) dec55 sa0_0
  subst ea0_0
  obtain ⟨qa0_1, xsa0_1, ka0_1, ea0_1, hka0_1, hma0_1, oka0_1, rda0_1⟩ := L1_slice (z := 2) (en := enc55) (ok := ok55) (by kernel_rfl) (by decide) dec55 sa0_1
  subst ea0_1
  obtain ⟨n1, rfl⟩ := okWide_int (k := .u8) Try.underlying5 (hval 1 5 _ rfl rfl)
  obtain ⟨f1, hf1⟩ := h1
  have lo1 := (trod_leaves 24).1 5 _ flatA1_PunchTogether _ _ _ hf1
  obtain ⟨_, _, ez1, ⟨a1_0, ea1_0, wa1_0⟩, _⟩ := lo1
  cases ez1
  cases ea1_0
  obtain ⟨n2, rfl⟩ := okWide_int (k := .u16) Try.underlying24 (hval 2 24 _ rfl rfl)
  obtain ⟨f2, hf2⟩ := h2
  have lo2 := (trod_leaves 24).1 24 _ flatA2_PunchTogether _ _ _ hf2
  obtain ⟨_, _, ez2, ⟨a2_0, ea2_0, wa2_0⟩, _⟩ := lo2
  cases ez2
  cases ea2_0
  have hcall : CallV Try.prog 3 #[(Value.agg #[_, _]), _, _] W (fun v w' => v = .bool true ∧ Kept W w') :=
    embrasurelaw27_PunchTogether_ok (rdOld rda0_0) rfl hka0_0 (rdOld rda0_1) rfl hka0_1 (oldP.start W) (punchTogether_plain oka0_0 hma0_0 oka0_1 hma0_1 wa1_0 wa2_0) (fun r w h hr => ⟨by rw [hr], oldP.kept h⟩)
  refine hcall.mono fun e W' ⟨v, he, hv, hk⟩ => ?_
  subst he; subst hv
  exact ⟨_, rfl, post_of_kept (pv := []) hW' (fun _ _ _ => trodAll_mk1 (shut_bool Try.underlying4 true))
    (fun sp hsp => hk.trodAll Try.laidOutK sp _ _ _ _ (by kernel_rfl) hAll (fun x hx => hW'.lt x (by simpa using hx)) (fun x hx => hsp x (by simpa using hx)))
    (fun _ _ => rfl) (by simp) hk (ok_one (by kernel_rfl) rfl (okWide_bool_mk Try.underlying4 true))⟩

theorem punchTogether_holds : Rows.PunchTogetherSaid :=
  OpenClaim.holds_of_wide 3 Try.f3 rfl rfl rfl rfl rfl rfl rfl ⟨rfl, rfl, rfl, rfl, rfl⟩ rfl rfl rfl rfl rfl (by kernel_rfl) Try.func3 (by kernel_rfl)
    (of_decide_eq_true (by kernel_rfl)) (by unfold Func.isWrapper; first | (rw [if_pos (by decide +kernel)]; kernel_rfl) | (rw [if_neg (by decide +kernel)]; exact ⟨rfl, rfl⟩))
    (fun os started H enc _ => punchTogether_lifted os started H enc)
#print axioms punchTogether_holds

end Go.Proofs.Ytgelfofenbjjbaa
