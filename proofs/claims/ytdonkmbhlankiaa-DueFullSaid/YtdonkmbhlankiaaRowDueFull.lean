/- The law DueFull holds of the program: for every input the call returns true, and each argument reads as it did. -/
import Derived.Test.YtdonkmbhlankiaaRows
import Derived.Test.YtdonkmbhlankiaaF
import Derived.Test.YtdonkmbhlankiaaEngR
import Derived.ProofKit
namespace Go.Proofs.Ytdonkmbhlankiaa
open Go Go.Eng Go.ChangeShapes Go.WideShapes Go.ChangeAt Go.RowKit
theorem Try.ownK : ownKnob Try.prog.godebug = none := by kernel_rfl
theorem Try.laidOutK : laidOutB Try.prog = true := by kernel_rfl
theorem flatA0_DueFull : flatT Try.prog 24 22 = some [.sl 26] := by kernel_rfl
def ok26 (x : (Int)) : Prop := inK .u16 x
theorem flat26 : flatT Try.prog 24 26 = some [.int .u16] := by kernel_rfl
theorem dec26 {H : Type} {enc : TypeId × Value → H} {w : World} (fuel : Nat) (cs : List Value) (x : DataW H × List MemPlace) (h : DataW.trod enc Try.prog w 0 (fun _ => true) true fuel 26 cs = some x) : ∃ y : (Int), cs = enc26 y ∧ ok26 y := by
  obtain ⟨z0, _, rfl, ⟨a0, rfl, w0⟩, rfl⟩ := (trod_leaves 24).1 26 _ flat26 _ _ _ h
  exact ⟨a0, rfl, w0⟩
theorem flatA1_DueFull : flatT Try.prog 24 9 = some [.str] := by kernel_rfl

set_option maxHeartbeats 2000000 in
set_option maxRecDepth 100000 in
theorem dueFull_lifted (os : Os) (started : os.Started) (H : Type) (enc : TypeId × Value → H) :
    ReturnsInHanded {} Try.checked os 3 .any (Rows.dueFullSpec.pre6 enc Try.prog Try.f3 Rows.dueFullRow.domain false) (Rows.dueFullSpec.post enc Try.prog Try.f3 false true false false) := by
  refine returnsInHanded_of_change (C := Try.checked) Try.ownK started (by kernel_rfl) Try.func3
    (ChangeSpec.witness6 (enc := enc) (C := Try.checked) false ⟨#[], #[(Value.slice none 0 0), (Value.string ((ByteArray.mk ([]).toArray)))], []⟩ 8 (by kernel_rfl) (by kernel_rfl) (by kernel_rfl) (by kernel_rfl)) ?_
  intro W base args ds gs before hval0 hW hcnd _
  have hval : ∀ (j : Nat) t v, Try.f3.params[j]? = some t → args[j]? = some v → Value.okWide Try.prog W .any base t v := hval0
  have hW' := hW
  obtain ⟨p, q, hA0, hV, rfl, hfz, hnd⟩ := hW
  have hA : DataW.TrodAll enc Try.prog W 0 (fun _ => true) true Try.f3.params.toList args.toList ds p := hA0
  have hAll := hA
  rw [Try.params3] at hA hval
  obtain ⟨v0, v1, d0, d1, pp0, pp1, rfl, rfl, rfl, h0, h1⟩ := trodAll_two hA
  obtain ⟨rfl, rfl⟩ := trodVars_none hV
  clear hA0 hval0
  simp only [List.append_nil] at hW'
  obtain ⟨p0, l0, c0, rfl⟩ := okWide_slice (e := 26) Try.underlying22 (hval 0 22 _ rfl rfl)
  obtain ⟨f0, hf0⟩ := h0
  have lo0 := (trod_leaves 24).1 22 _ flatA0_DueFull _ _ _ hf0
  obtain ⟨z0_0, _, ez0, sa0_0, _⟩ := lo0
  cases ez0
  obtain ⟨qa0_0, xsa0_0, ka0_0, ea0_0, hka0_0, hma0_0, oka0_0, rda0_0⟩ := L1_slice (z := 1) (en := enc26) (ok := ok26) (by kernel_rfl) (by decide) dec26 sa0_0
  cases ea0_0
  obtain ⟨n1, rfl⟩ := okWide_string Try.underlying9 (hval 1 9 _ rfl rfl)
  obtain ⟨f1, hf1⟩ := h1
  have lo1 := (trod_leaves 24).1 9 _ flatA1_DueFull _ _ _ hf1
  obtain ⟨_, _, ez1, ⟨a1_0, ea1_0, wa1_0⟩, _⟩ := lo1
  cases ez1
  cases ea1_0
  have hcall : CallV Try.prog 3 _ W (fun v w' => v = .bool true ∧ Kept W w') :=
    embrasurelaw06_DueFull_ok (rdOld rda0_0) rfl hka0_0 (oldP.start W) (dueFull_plain oka0_0 hma0_0 wa1_0) (fun r w h hr => ⟨by rw [hr], oldP.kept h⟩)
  refine hcall.mono fun e W' ⟨v, he, hv, hk⟩ => ?_
  subst he; subst hv
  exact ⟨_, rfl, post_of_kept (pv := []) hW' (fun _ _ _ => trodAll_mk1 (shut_bool Try.underlying4 true))
    (fun sp hsp => hk.trodAll Try.laidOutK sp _ _ _ _ (by kernel_rfl) hAll (fun x hx => hW'.lt x (by simpa using hx)) (fun x hx => hsp x (by simpa using hx)))
    (fun _ _ => rfl) (by simp) hk (ok_one (by kernel_rfl) rfl (okWide_bool_mk Try.underlying4 true))⟩

theorem dueFull_holds : Rows.DueFullSaid :=
  OpenClaim.holds_of_wide 3 Try.f3 rfl rfl rfl rfl rfl rfl rfl ⟨rfl, rfl, rfl, rfl, rfl⟩ rfl rfl rfl rfl rfl (by kernel_rfl) Try.func3 (by kernel_rfl)
    (of_decide_eq_true (by kernel_rfl)) (by unfold Func.isWrapper; first | (rw [if_pos (by decide +kernel)]; kernel_rfl) | (rw [if_neg (by decide +kernel)]; exact ⟨rfl, rfl⟩))
    (fun os started H enc _ => dueFull_lifted os started H enc)
#print axioms dueFull_holds

end Go.Proofs.Ytdonkmbhlankiaa
