/- The law DueAgain holds of the program: for every input the call returns true, and each argument reads as it did. -/
import Derived.Test.YtdonkmbhlankiaaRows
import Derived.Test.YtdonkmbhlankiaaT
import Derived.Test.YtdonkmbhlankiaaEngR
import Derived.ProofKit
namespace Go.Proofs.Ytdonkmbhlankiaa
open Go Go.Eng Go.ChangeShapes Go.WideShapes Go.ChangeAt Go.RowKit
theorem Try.ownK : ownKnob Try.prog.godebug = none := by kernel_rfl
theorem Try.laidOutK : laidOutB Try.prog = true := by kernel_rfl
theorem flatA0_DueAgain : flatT Try.prog 24 30 = some [.sl 9] := by kernel_rfl
def ok9 (x : (ByteArray)) : Prop := x.size ≤ maxLen
theorem flat9 : flatT Try.prog 24 9 = some [.str] := by kernel_rfl
theorem dec9 {H : Type} {enc : TypeId × Value → H} {w : World} (fuel : Nat) (cs : List Value) (x : DataW H × List MemPlace) (h : DataW.trod enc Try.prog w 0 (fun _ => true) true fuel 9 cs = some x) : ∃ y : (ByteArray), cs = enc9 y ∧ ok9 y := by
  obtain ⟨z0, _, rfl, ⟨a0, rfl, w0⟩, rfl⟩ := (trod_leaves 24).1 9 _ flat9 _ _ _ h
  exact ⟨a0, rfl, w0⟩
theorem flatA1_DueAgain : flatT Try.prog 24 22 = some [.sl 26] := by kernel_rfl
def ok26 (x : (Int)) : Prop := inK .u16 x
theorem flat26 : flatT Try.prog 24 26 = some [.int .u16] := by kernel_rfl
theorem dec26 {H : Type} {enc : TypeId × Value → H} {w : World} (fuel : Nat) (cs : List Value) (x : DataW H × List MemPlace) (h : DataW.trod enc Try.prog w 0 (fun _ => true) true fuel 26 cs = some x) : ∃ y : (Int), cs = enc26 y ∧ ok26 y := by
  obtain ⟨z0, _, rfl, ⟨a0, rfl, w0⟩, rfl⟩ := (trod_leaves 24).1 26 _ flat26 _ _ _ h
  exact ⟨a0, rfl, w0⟩
theorem flatA2_DueAgain : flatT Try.prog 24 5 = some [.int .u8] := by kernel_rfl

set_option maxHeartbeats 2000000 in
set_option maxRecDepth 100000 in
theorem dueAgain_lifted (os : Os) (started : os.Started) (H : Type) (enc : TypeId × Value → H) :
    ReturnsInHanded {} Try.checked os 6 .any (Rows.dueAgainSpec.pre6 enc Try.prog Try.f6 Rows.dueAgainRow.domain false) (Rows.dueAgainSpec.post enc Try.prog Try.f6 false true false false) := by
  refine returnsInHanded_of_change (C := Try.checked) Try.ownK started (by kernel_rfl) Try.func6
    (ChangeSpec.witness6 (enc := enc) (C := Try.checked) false ⟨#[], #[(Value.slice none 0 0), (Value.slice none 0 0), (Value.int .u8 0)], []⟩ 8 (by kernel_rfl) (by kernel_rfl) (by kernel_rfl) (by kernel_rfl)) ?_
  intro W base args ds gs before hval0 hW hcnd _
  have hval : ∀ (j : Nat) t v, Try.f6.params[j]? = some t → args[j]? = some v → Value.okWide Try.prog W .any base t v := hval0
  have hW' := hW
  obtain ⟨p, q, hA0, hV, rfl, hfz, hnd⟩ := hW
  have hA : DataW.TrodAll enc Try.prog W 0 (fun _ => true) true Try.f6.params.toList args.toList ds p := hA0
  have hAll := hA
  rw [Try.params6] at hA hval
  obtain ⟨v0, v1, v2, d0, d1, d2, pp0, pp1, pp2, rfl, rfl, rfl, h0, h1, h2⟩ := trodAll_three hA
  obtain ⟨rfl, rfl⟩ := trodVars_none hV
  clear hA0 hval0
  simp only [List.append_nil] at hW'
  obtain ⟨p0, l0, c0, rfl⟩ := okWide_slice (e := 9) Try.underlying30 (hval 0 30 _ rfl rfl)
  obtain ⟨f0, hf0⟩ := h0
  have lo0 := (trod_leaves 24).1 30 _ flatA0_DueAgain _ _ _ hf0
  obtain ⟨z0_0, _, ez0, sa0_0, _⟩ := lo0
  cases ez0
  obtain ⟨qa0_0, xsa0_0, ka0_0, ea0_0, hka0_0, hma0_0, oka0_0, rda0_0⟩ := L1_slice (z := 1) (en := enc9) (ok := ok9) (by kernel_rfl) (by decide) dec9 sa0_0
  cases ea0_0
  obtain ⟨p1, l1, c1, rfl⟩ := okWide_slice (e := 26) Try.underlying22 (hval 1 22 _ rfl rfl)
  obtain ⟨f1, hf1⟩ := h1
  have lo1 := (trod_leaves 24).1 22 _ flatA1_DueAgain _ _ _ hf1
  obtain ⟨z1_0, _, ez1, sa1_0, _⟩ := lo1
  cases ez1
  obtain ⟨qa1_0, xsa1_0, ka1_0, ea1_0, hka1_0, hma1_0, oka1_0, rda1_0⟩ := L1_slice (z := 1) (en := enc26) (ok := ok26) (by kernel_rfl) (by decide) dec26 sa1_0
  cases ea1_0
  obtain ⟨n2, rfl⟩ := okWide_int (k := .u8) Try.underlying5 (hval 2 5 _ rfl rfl)
  obtain ⟨f2, hf2⟩ := h2
  have lo2 := (trod_leaves 24).1 5 _ flatA2_DueAgain _ _ _ hf2
  obtain ⟨_, _, ez2, ⟨a2_0, ea2_0, wa2_0⟩, _⟩ := lo2
  cases ez2
  cases ea2_0
  have hcall : CallV Try.prog 6 _ W (fun v w' => v = .bool true ∧ Kept W w') :=
    embrasurelaw06_DueAgain_ok (rdOld rda0_0) rfl hka0_0 (rdOld rda1_0) rfl hka1_0 (oldP.start W) (dueAgain_plain oka0_0 hma0_0 oka1_0 hma1_0 wa2_0) (fun r w h hr => ⟨by rw [hr], oldP.kept h⟩)
  refine hcall.mono fun e W' ⟨v, he, hv, hk⟩ => ?_
  subst he; subst hv
  exact ⟨_, rfl, post_of_kept (pv := []) hW' (fun _ _ _ => trodAll_mk1 (shut_bool Try.underlying4 true))
    (fun sp hsp => hk.trodAll Try.laidOutK sp _ _ _ _ (by kernel_rfl) hAll (fun x hx => hW'.lt x (by simpa using hx)) (fun x hx => hsp x (by simpa using hx)))
    (fun _ _ => rfl) (by simp) hk (ok_one (by kernel_rfl) rfl (okWide_bool_mk Try.underlying4 true))⟩

theorem dueAgain_holds : Rows.DueAgainSaid :=
  OpenClaim.holds_of_wide 6 Try.f6 rfl rfl rfl rfl rfl rfl rfl ⟨rfl, rfl, rfl, rfl, rfl⟩ rfl rfl rfl rfl rfl (by kernel_rfl) Try.func6 (by kernel_rfl)
    (of_decide_eq_true (by kernel_rfl)) (by unfold Func.isWrapper; first | (rw [if_pos (by decide +kernel)]; kernel_rfl) | (rw [if_neg (by decide +kernel)]; exact ⟨rfl, rfl⟩))
    (fun os started H enc _ => dueAgain_lifted os started H enc)
#print axioms dueAgain_holds

end Go.Proofs.Ytdonkmbhlankiaa
