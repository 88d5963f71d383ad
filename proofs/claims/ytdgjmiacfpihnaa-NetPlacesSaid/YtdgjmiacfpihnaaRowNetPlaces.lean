/- The law NetPlaces holds of the program: for every input the call returns true, and each argument reads as it did. -/
import Derived.Test.YtdgjmiacfpihnaaRows
import Derived.Test.YtdgjmiacfpihnaaP
import Derived.Test.YtdgjmiacfpihnaaEngR
import Derived.ProofKit
namespace Go.Proofs.Ytdgjmiacfpihnaa
open Go Go.Eng Go.ChangeShapes Go.WideShapes Go.ChangeAt Go.RowKit
theorem Try.ownK : ownKnob Try.prog.godebug = none := by kernel_rfl
theorem Try.laidOutK : laidOutB Try.prog = true := by kernel_rfl
theorem flatA0_NetPlaces : flatT Try.prog 24 5 = some [.int .u8] := by kernel_rfl
theorem flatA1_NetPlaces : flatT Try.prog 24 34 = some [.sl 3] := by kernel_rfl
def ok3 (x : (Int)) : Prop := inK .i64 x
theorem flat3 : flatT Try.prog 24 3 = some [.int .i64] := by kernel_rfl
theorem dec3 {H : Type} {enc : TypeId × Value → H} {w : World} (fuel : Nat) (cs : List Value) (x : DataW H × List MemPlace) (h : DataW.trod enc Try.prog w 0 (fun _ => true) true fuel 3 cs = some x) : ∃ y : (Int), cs = enc3 y ∧ ok3 y := by
  obtain ⟨z0, _, rfl, ⟨a0, rfl, w0⟩, rfl⟩ := (trod_leaves 24).1 3 _ flat3 _ _ _ h
  exact ⟨a0, rfl, w0⟩

set_option maxHeartbeats 2000000 in
set_option maxRecDepth 100000 in
theorem netPlaces_lifted (os : Os) (started : os.Started) (H : Type) (enc : TypeId × Value → H) :
    ReturnsInHanded {} Try.checked os 4 .any (Rows.netPlacesSpec.pre6 enc Try.prog Try.f4 Rows.netPlacesRow.domain false) (Rows.netPlacesSpec.post enc Try.prog Try.f4 false true false false) := by
  refine returnsInHanded_of_change (C := Try.checked) Try.ownK started (by kernel_rfl) Try.func4
    (ChangeSpec.witness6 (enc := enc) (C := Try.checked) false ⟨#[], #[(Value.int .u8 0), (Value.slice none 0 0)], []⟩ 8 (by kernel_rfl) (by kernel_rfl) (by kernel_rfl) (by kernel_rfl)) ?_
  intro W base args ds gs before hval0 hW hcnd _
  have hval : ∀ (j : Nat) t v, Try.f4.params[j]? = some t → args[j]? = some v → Value.okWide Try.prog W .any base t v := hval0
  have hW' := hW
  obtain ⟨p, q, hA0, hV, rfl, hfz, hnd⟩ := hW
  have hA : DataW.TrodAll enc Try.prog W 0 (fun _ => true) true Try.f4.params.toList args.toList ds p := hA0
  have hAll := hA
  rw [Try.params4] at hA hval
  obtain ⟨v0, v1, d0, d1, pp0, pp1, rfl, rfl, rfl, h0, h1⟩ := trodAll_two hA
  obtain ⟨rfl, rfl⟩ := trodVars_none hV
  clear hA0 hval0
  simp only [List.append_nil] at hW'
  obtain ⟨n0, rfl⟩ := okWide_int (k := .u8) Try.underlying5 (hval 0 5 _ rfl rfl)
  obtain ⟨f0, hf0⟩ := h0
  have lo0 := (trod_leaves 24).1 5 _ flatA0_NetPlaces _ _ _ hf0
  obtain ⟨_, _, ez0, ⟨a0_0, ea0_0, wa0_0⟩, _⟩ := lo0
  cases ez0
  cases ea0_0
  obtain ⟨p1, l1, c1, rfl⟩ := okWide_slice (e := 3) Try.underlying34 (hval 1 34 _ rfl rfl)
  obtain ⟨f1, hf1⟩ := h1
  have lo1 := (trod_leaves 24).1 34 _ flatA1_NetPlaces _ _ _ hf1
  obtain ⟨z1_0, _, ez1, sa1_0, _⟩ := lo1
  cases ez1
  obtain ⟨qa1_0, xsa1_0, ka1_0, ea1_0, hka1_0, hma1_0, oka1_0, rda1_0⟩ := L1_slice (z := 1) (en := enc3) (ok := ok3) (by kernel_rfl) (by decide) dec3 sa1_0
  cases ea1_0
  have hcall : CallV Try.prog 4 _ W (fun v w' => v = .bool true ∧ Kept W w') :=
    embrasurelaw13_NetPlaces_ok (rdOld rda1_0) rfl hka1_0 (oldP.start W) (netPlaces_plain wa0_0 oka1_0 hma1_0) (fun r w h hr => ⟨by rw [hr], oldP.kept h⟩)
  refine hcall.mono fun e W' ⟨v, he, hv, hk⟩ => ?_
  subst he; subst hv
  exact ⟨_, rfl, post_of_kept (pv := []) hW' (fun _ _ _ => trodAll_mk1 (shut_bool Try.underlying4 true))
    (fun sp hsp => hk.trodAll Try.laidOutK sp _ _ _ _ (by kernel_rfl) hAll (fun x hx => hW'.lt x (by simpa using hx)) (fun x hx => hsp x (by simpa using hx)))
    (fun _ _ => rfl) (by simp) hk (ok_one (by kernel_rfl) rfl (okWide_bool_mk Try.underlying4 true))⟩

theorem netPlaces_holds : Rows.NetPlacesSaid :=
  OpenClaim.holds_of_wide 4 Try.f4 rfl rfl rfl rfl rfl rfl rfl ⟨rfl, rfl, rfl, rfl, rfl⟩ rfl rfl rfl rfl rfl (by kernel_rfl) Try.func4 (by kernel_rfl)
    (of_decide_eq_true (by kernel_rfl)) (by unfold Func.isWrapper; first | (rw [if_pos (by decide +kernel)]; kernel_rfl) | (rw [if_neg (by decide +kernel)]; exact ⟨rfl, rfl⟩))
    (fun os started H enc _ => netPlaces_lifted os started H enc)
#print axioms netPlaces_holds

end Go.Proofs.Ytdgjmiacfpihnaa
