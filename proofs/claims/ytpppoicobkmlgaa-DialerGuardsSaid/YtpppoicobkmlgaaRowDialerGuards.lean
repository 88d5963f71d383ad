/- The law DialerGuards holds of the program: for every input the call returns true, and each argument reads as it did. -/
import Derived.Test.YtpppoicobkmlgaaRows
import Derived.Test.YtpppoicobkmlgaaQ
import Derived.Test.YtpppoicobkmlgaaEngR
import Derived.ProofKit
namespace Go.Proofs.Ytpppoicobkmlgaa
open Go Go.Eng Go.ChangeShapes Go.WideShapes Go.ChangeAt Go.RowKit
theorem Try.ownK : ownKnob Try.prog.godebug = none := by kernel_rfl
theorem Try.laidOutK : laidOutB Try.prog = true := by kernel_rfl
theorem flatA0_DialerGuards : flatT Try.prog 8 22 = some [.sl 31] := by kernel_rfl
def ok33 (x : (Int × Int)) : Prop := inK .u32 x.1 ∧ inK .i64 x.2
theorem flat33 : flatT Try.prog 8 33 = some [.int .u32, .int .i64] := by kernel_rfl
theorem dec33 {H : Type} {enc : TypeId × Value → H} {w : World} (fuel : Nat) (cs : List Value) (x : DataW H × List MemPlace) (h : DataW.trod enc Try.prog w 0 (fun _ => true) true fuel 33 cs = some x) : ∃ y : (Int × Int), cs = enc33 y ∧ ok33 y := by
  obtain ⟨z0, _, rfl, ⟨a0, rfl, w0⟩, z1, _, rfl, ⟨a1, rfl, w1⟩, rfl⟩ := (trod_leaves 8).1 33 _ flat33 _ _ _ h
  exact ⟨(a0, a1), rfl, ⟨w0, w1⟩⟩
def ok31 (x : (Int × Int × (List (Int × Int)) × Int)) : Prop := inK .i64 x.1 ∧ inK .u32 x.2.1 ∧ ((∀ a ∈ x.2.2.1, ok33 a) ∧ x.2.2.1.length ≤ 9223372036854775807) ∧ inK .i64 x.2.2.2
theorem flat31 : flatT Try.prog 8 31 = some [.int .i64, .int .u32, .sl 33, .int .i64] := by kernel_rfl
theorem dec31 {H : Type} {enc : TypeId × Value → H} {w : World} (fuel : Nat) (cs : List Value) (x : DataW H × List MemPlace) (h : DataW.trod enc Try.prog w 0 (fun _ => true) true fuel 31 cs = some x) : ∃ y : (Int × Int × (List (Int × Int)) × Int), encR31 [oldP w] y cs ∧ ok31 y := by
  obtain ⟨z0, _, rfl, ⟨a0, rfl, w0⟩, z1, _, rfl, ⟨a1, rfl, w1⟩, z2, _, rfl, s2, z3, _, rfl, ⟨a3, rfl, w3⟩, rfl⟩ := (trod_leaves 8).1 31 _ flat31 _ _ _ h
  obtain ⟨q2, a2, k2, e2, hk2, m2, o2, r2⟩ := L1_slice (z := 2) (en := enc33) (ok := ok33) (by kernel_rfl) (by decide) dec33 s2
  subst e2
  exact ⟨(a0, a1, a2, a3), ⟨q2, _, k2, rfl, rfl, hk2, rdOld r2⟩, ⟨w0, w1, ⟨o2, m2⟩, w3⟩⟩

set_option maxHeartbeats 2000000 in
set_option maxRecDepth 100000 in
theorem dialerGuards_lifted (os : Os) (started : os.Started) (H : Type) (enc : TypeId × Value → H) :
    ReturnsInHanded {} Try.checked os 3 .any (Rows.dialerGuardsSpec.pre6 enc Try.prog Try.f3 Rows.dialerGuardsRow.domain false) (Rows.dialerGuardsSpec.post enc Try.prog Try.f3 false true false false) := by
  refine returnsInHanded_of_change (C := Try.checked) Try.ownK started (by kernel_rfl) Try.func3
    (ChangeSpec.witness6 (enc := enc) (C := Try.checked) false ⟨#[], #[(Value.slice none 0 0)], []⟩ 8 (by kernel_rfl) (by kernel_rfl) (by kernel_rfl) (by kernel_rfl)) ?_
  intro W base args ds gs before hval0 hW hcnd _
  have hval : ∀ (j : Nat) t v, Try.f3.params[j]? = some t → args[j]? = some v → Value.okWide Try.prog W .any base t v := hval0
  have hW' := hW
  obtain ⟨p, q, hA0, hV, rfl, hfz, hnd⟩ := hW
  have hA : DataW.TrodAll enc Try.prog W 0 (fun _ => true) true Try.f3.params.toList args.toList ds p := hA0
  have hAll := hA
  rw [Try.params3] at hA hval
  obtain ⟨v0, d0, rfl, rfl, h0⟩ := trodAll_one hA
  obtain ⟨rfl, rfl⟩ := trodVars_none hV
  clear hA0 hval0
  simp only [List.append_nil] at hW'
  obtain ⟨p0, l0, c0, rfl⟩ := okWide_slice (e := 31) Try.underlying22 (hval 0 22 _ rfl rfl)
  obtain ⟨f0, hf0⟩ := h0
  have lo0 := (trod_leaves 8).1 22 _ flatA0_DialerGuards _ _ _ hf0
  obtain ⟨z0_0, _, ez0, sa0_0, _⟩ := lo0
  cases ez0
  obtain ⟨qa0_0, xsa0_0, ka0_0, ea0_0, hka0_0, hma0_0, oka0_0, rda0_0⟩ := L1_sliceD (z := 4) (R := encR31 [oldP W]) (ok := ok31) (by kernel_rfl) (by decide) dec31 sa0_0
  cases ea0_0
  have hcall : CallV Try.prog 3 _ W (fun v w' => v = .bool true ∧ Kept W w') :=
    embrasurelaw20_DialerGuards_ok (rdOldD rda0_0) rfl hka0_0 (oldP.start W) (dialerGuards_plain oka0_0 hma0_0) (fun r w h hr => ⟨by rw [hr], oldP.kept h⟩)
  refine hcall.mono fun e W' ⟨v, he, hv, hk⟩ => ?_
  subst he; subst hv
  exact ⟨_, rfl, post_of_kept (pv := []) hW' (fun _ _ _ => trodAll_mk1 (shut_bool Try.underlying4 true))
    (fun sp hsp => hk.trodAll Try.laidOutK sp _ _ _ _ (by kernel_rfl) hAll (fun x hx => hW'.lt x (by simpa using hx)) (fun x hx => hsp x (by simpa using hx)))
    (fun _ _ => rfl) (by simp) hk (ok_one (by kernel_rfl) rfl (okWide_bool_mk Try.underlying4 true))⟩

theorem dialerGuards_holds : Rows.DialerGuardsSaid :=
  OpenClaim.holds_of_wide 3 Try.f3 rfl rfl rfl rfl rfl rfl rfl ⟨rfl, rfl, rfl, rfl, rfl⟩ rfl rfl rfl rfl rfl (by kernel_rfl) Try.func3 (by kernel_rfl)
    (of_decide_eq_true (by kernel_rfl)) (by unfold Func.isWrapper; first | (rw [if_pos (by decide +kernel)]; kernel_rfl) | (rw [if_neg (by decide +kernel)]; exact ⟨rfl, rfl⟩))
    (fun os started H enc _ => dialerGuards_lifted os started H enc)
#print axioms dialerGuards_holds

end Go.Proofs.Ytpppoicobkmlgaa
