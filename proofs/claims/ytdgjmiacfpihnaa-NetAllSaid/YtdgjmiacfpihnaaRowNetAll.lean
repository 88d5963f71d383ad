/- The law NetAll holds of the program: for every input the call returns true, and each argument reads as it did. -/
import Derived.Test.YtdgjmiacfpihnaaRows
import Derived.Test.YtdgjmiacfpihnaaS
import Derived.Test.YtdgjmiacfpihnaaEngR
import Derived.ProofKit
namespace Go.Proofs.Ytdgjmiacfpihnaa
open Go Go.Eng Go.ChangeShapes Go.WideShapes Go.ChangeAt Go.RowKit
theorem Try.ownK : ownKnob Try.prog.godebug = none := by kernel_rfl
theorem Try.laidOutK : laidOutB Try.prog = true := by kernel_rfl
theorem flatA0_NetAll : flatT Try.prog 24 55 = some [.sl 22] := by kernel_rfl
def ok5 (x : (Int)) : Prop := inK .u8 x
theorem flat5 : flatT Try.prog 24 5 = some [.int .u8] := by kernel_rfl
theorem dec5 {H : Type} {enc : TypeId × Value → H} {w : World} (fuel : Nat) (cs : List Value) (x : DataW H × List MemPlace) (h : DataW.trod enc Try.prog w 0 (fun _ => true) true fuel 5 cs = some x) : ∃ y : (Int), cs = enc5 y ∧ ok5 y := by
  obtain ⟨z0, _, rfl, ⟨a0, rfl, w0⟩, rfl⟩ := (trod_leaves 24).1 5 _ flat5 _ _ _ h
  exact ⟨a0, rfl, w0⟩
def ok22 (x : ((List (Int)))) : Prop := ((∀ a ∈ x, ok5 a) ∧ x.length ≤ 9223372036854775807)
theorem flat22 : flatT Try.prog 24 22 = some [.sl 5] := by kernel_rfl
theorem dec22 {H : Type} {enc : TypeId × Value → H} {w : World} (fuel : Nat) (cs : List Value) (x : DataW H × List MemPlace) (h : DataW.trod enc Try.prog w 0 (fun _ => true) true fuel 22 cs = some x) : ∃ y : ((List (Int))), encR22 [oldP w] y cs ∧ ok22 y := by
  obtain ⟨z0, _, rfl, s0, rfl⟩ := (trod_leaves 24).1 22 _ flat22 _ _ _ h
  obtain ⟨q0, a0, k0, e0, hk0, m0, o0, r0⟩ := L1_slice (z := 1) (en := enc5) (ok := ok5) (by kernel_rfl) (by decide) dec5 s0
  subst e0
  exact ⟨a0, ⟨q0, _, k0, rfl, rfl, hk0, rdOld r0⟩, ⟨o0, m0⟩⟩
theorem flatA1_NetAll : flatT Try.prog 24 5 = some [.int .u8] := by kernel_rfl

set_option maxHeartbeats 2000000 in
set_option maxRecDepth 100000 in
theorem netAll_lifted (os : Os) (started : os.Started) (H : Type) (enc : TypeId × Value → H) :
    ReturnsInHanded {} Try.checked os 6 .any (Rows.netAllSpec.pre6 enc Try.prog Try.f6 Rows.netAllRow.domain false) (Rows.netAllSpec.post enc Try.prog Try.f6 false true false false) := by
  refine returnsInHanded_of_change (C := Try.checked) Try.ownK started (by kernel_rfl) Try.func6
    (ChangeSpec.witness6 (enc := enc) (C := Try.checked) false ⟨#[], #[(Value.slice none 0 0), (Value.int .u8 0)], []⟩ 8 (by kernel_rfl) (by kernel_rfl) (by kernel_rfl) (by kernel_rfl)) ?_
  intro W base args ds gs before hval0 hW hcnd _
  have hval : ∀ (j : Nat) t v, Try.f6.params[j]? = some t → args[j]? = some v → Value.okWide Try.prog W .any base t v := hval0
  have hW' := hW
  obtain ⟨p, q, hA0, hV, rfl, hfz, hnd⟩ := hW
  have hA : DataW.TrodAll enc Try.prog W 0 (fun _ => true) true Try.f6.params.toList args.toList ds p := hA0
  have hAll := hA
  rw [Try.params6] at hA hval
  obtain ⟨v0, v1, d0, d1, pp0, pp1, rfl, rfl, rfl, h0, h1⟩ := trodAll_two hA
  obtain ⟨rfl, rfl⟩ := trodVars_none hV
  clear hA0 hval0
  simp only [List.append_nil] at hW'
  obtain ⟨p0, l0, c0, rfl⟩ := okWide_slice (e := 22) Try.underlying55 (hval 0 55 _ rfl rfl)
  obtain ⟨f0, hf0⟩ := h0
  have lo0 := (trod_leaves 24).1 55 _ flatA0_NetAll _ _ _ hf0
  obtain ⟨z0_0, _, ez0, sa0_0, _⟩ := lo0
  cases ez0
  obtain ⟨qa0_0, xsa0_0, ka0_0, ea0_0, hka0_0, hma0_0, oka0_0, rda0_0⟩ := L1_sliceD (z := 1) (R := encR22 [oldP W]) (ok := ok22) (by kernel_rfl) (by decide) dec22 sa0_0
  cases ea0_0
  obtain ⟨n1, rfl⟩ := okWide_int (k := .u8) Try.underlying5 (hval 1 5 _ rfl rfl)
  obtain ⟨f1, hf1⟩ := h1
  have lo1 := (trod_leaves 24).1 5 _ flatA1_NetAll _ _ _ hf1
  obtain ⟨_, _, ez1, ⟨a1_0, ea1_0, wa1_0⟩, _⟩ := lo1
  cases ez1
  cases ea1_0
  have hcall : CallV Try.prog 6 _ W (fun v w' => v = .bool true ∧ Kept W w') :=
    embrasurelaw13_NetAll_ok (rdOldD rda0_0) rfl hka0_0 (oldP.start W) (netAll_plain oka0_0 hma0_0 wa1_0) (fun r w h hr => ⟨by rw [hr], oldP.kept h⟩)
  refine hcall.mono fun e W' ⟨v, he, hv, hk⟩ => ?_
  subst he; subst hv
  exact ⟨_, rfl, post_of_kept (pv := []) hW' (fun _ _ _ => trodAll_mk1 (shut_bool Try.underlying4 true))
    (fun sp hsp => hk.trodAll Try.laidOutK sp _ _ _ _ (by kernel_rfl) hAll (fun x hx => hW'.lt x (by simpa using hx)) (fun x hx => hsp x (by simpa using hx)))
    (fun _ _ => rfl) (by simp) hk (ok_one (by kernel_rfl) rfl (okWide_bool_mk Try.underlying4 true))⟩

theorem netAll_holds : Rows.NetAllSaid :=
  OpenClaim.holds_of_wide 6 Try.f6 rfl rfl rfl rfl rfl rfl rfl ⟨rfl, rfl, rfl, rfl, rfl⟩ rfl rfl rfl rfl rfl (by kernel_rfl) Try.func6 (by kernel_rfl)
    (of_decide_eq_true (by kernel_rfl)) (by unfold Func.isWrapper; first | (rw [if_pos (by decide +kernel)]; kernel_rfl) | (rw [if_neg (by decide +kernel)]; exact ⟨rfl, rfl⟩))
    (fun os started H enc _ => netAll_lifted os started H enc)
#print axioms netAll_holds

end Go.Proofs.Ytdgjmiacfpihnaa
