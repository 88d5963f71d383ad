/- The law DuePlays holds of the program: for every input the call returns true, and each argument reads as it did. -/
import Derived.Test.YtdonkmbhlankiaaRows
import Derived.Test.YtdonkmbhlankiaaV
import Derived.Test.YtdonkmbhlankiaaEngR
import Derived.ProofKit
namespace Go.Proofs.Ytdonkmbhlankiaa
open Go Go.Eng Go.ChangeShapes Go.WideShapes Go.ChangeAt Go.RowKit
theorem Try.ownK : ownKnob Try.prog.godebug = none := by kernel_rfl
theorem Try.laidOutK : laidOutB Try.prog = true := by kernel_rfl
theorem flatA0_DuePlays : flatT Try.prog 24 41 = some [.sl 48] := by kernel_rfl
def ok48 (x : (Int × ByteArray × Int × Int × Int)) : Prop := inK .i64 x.1 ∧ x.2.1.size ≤ maxLen ∧ inK .i64 x.2.2.1 ∧ inK .i64 x.2.2.2.1 ∧ inK .i64 x.2.2.2.2
theorem flat48 : flatT Try.prog 24 48 = some [.int .i64, .str, .int .i64, .int .i64, .int .i64] := by kernel_rfl
theorem dec48 {H : Type} {enc : TypeId × Value → H} {w : World} (fuel : Nat) (cs : List Value) (x : DataW H × List MemPlace) (h : DataW.trod enc Try.prog w 0 (fun _ => true) true fuel 48 cs = some x) : ∃ y : (Int × ByteArray × Int × Int × Int), cs = enc48 y ∧ ok48 y := by
  obtain ⟨z0, _, rfl, ⟨a0, rfl, w0⟩, z1, _, rfl, ⟨a1, rfl, w1⟩, z2, _, rfl, ⟨a2, rfl, w2⟩, z3, _, rfl, ⟨a3, rfl, w3⟩, z4, _, rfl, ⟨a4, rfl, w4⟩, rfl⟩ := (trod_leaves 24).1 48 _ flat48 _ _ _ h
  exact ⟨(a0, a1, a2, a3, a4), rfl, ⟨w0, w1, w2, w3, w4⟩⟩

set_option maxHeartbeats 2000000 in
set_option maxRecDepth 100000 in
theorem duePlays_lifted (os : Os) (started : os.Started) (H : Type) (enc : TypeId × Value → H) :
    ReturnsInHanded {} Try.checked os 5 .any (Rows.duePlaysSpec.pre6 enc Try.prog Try.f5 Rows.duePlaysRow.domain false) (Rows.duePlaysSpec.post enc Try.prog Try.f5 false true false false) := by
  refine returnsInHanded_of_change (C := Try.checked) Try.ownK started (by kernel_rfl) Try.func5
    (ChangeSpec.witness6 (enc := enc) (C := Try.checked) false ⟨#[], #[(Value.slice none 0 0)], []⟩ 8 (by kernel_rfl) (by kernel_rfl) (by kernel_rfl) (by kernel_rfl)) ?_
  intro W base args ds gs before hval0 hW hcnd _
  have hval : ∀ (j : Nat) t v, Try.f5.params[j]? = some t → args[j]? = some v → Value.okWide Try.prog W .any base t v := hval0
  have hW' := hW
  obtain ⟨p, q, hA0, hV, rfl, hfz, hnd⟩ := hW
  have hA : DataW.TrodAll enc Try.prog W 0 (fun _ => true) true Try.f5.params.toList args.toList ds p := hA0
  have hAll := hA
  rw [Try.params5] at hA hval
  obtain ⟨v0, d0, rfl, rfl, h0⟩ := trodAll_one hA
  obtain ⟨rfl, rfl⟩ := trodVars_none hV
  clear hA0 hval0
  simp only [List.append_nil] at hW'
  obtain ⟨p0, l0, c0, rfl⟩ := okWide_slice (e := 48) Try.underlying41 (hval 0 41 _ rfl rfl)
  obtain ⟨f0, hf0⟩ := h0
  have lo0 := (trod_leaves 24).1 41 _ flatA0_DuePlays _ _ _ hf0
  obtain ⟨z0_0, _, ez0, sa0_0, _⟩ := lo0
  cases ez0
  obtain ⟨qa0_0, xsa0_0, ka0_0, ea0_0, hka0_0, hma0_0, oka0_0, rda0_0⟩ := L1_slice (z := 5) (en := enc48) (ok := ok48) (by kernel_rfl) (by decide) dec48 sa0_0
  cases ea0_0
  have hcall : CallV Try.prog 5 _ W (fun v w' => v = .bool true ∧ Kept W w') :=
    embrasurelaw06_DuePlays_ok (rdOld rda0_0) rfl hka0_0 (oldP.start W) (duePlays_plain oka0_0 hma0_0) (fun r w h hr => ⟨by rw [hr], oldP.kept h⟩)
  refine hcall.mono fun e W' ⟨v, he, hv, hk⟩ => ?_
  subst he; subst hv
  exact ⟨_, rfl, post_of_kept (pv := []) hW' (fun _ _ _ => trodAll_mk1 (shut_bool Try.underlying4 true))
    (fun sp hsp => hk.trodAll Try.laidOutK sp _ _ _ _ (by kernel_rfl) hAll (fun x hx => hW'.lt x (by simpa using hx)) (fun x hx => hsp x (by simpa using hx)))
    (fun _ _ => rfl) (by simp) hk (ok_one (by kernel_rfl) rfl (okWide_bool_mk Try.underlying4 true))⟩

theorem duePlays_holds : Rows.DuePlaysSaid :=
  OpenClaim.holds_of_wide 5 Try.f5 rfl rfl rfl rfl rfl rfl rfl ⟨rfl, rfl, rfl, rfl, rfl⟩ rfl rfl rfl rfl rfl (by kernel_rfl) Try.func5 (by kernel_rfl)
    (of_decide_eq_true (by kernel_rfl)) (by unfold Func.isWrapper; first | (rw [if_pos (by decide +kernel)]; kernel_rfl) | (rw [if_neg (by decide +kernel)]; exact ⟨rfl, rfl⟩))
    (fun os started H enc _ => duePlays_lifted os started H enc)
#print axioms duePlays_holds

end Go.Proofs.Ytdonkmbhlankiaa
