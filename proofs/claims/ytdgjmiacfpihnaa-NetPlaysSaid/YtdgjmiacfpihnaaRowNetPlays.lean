/- The law NetPlays holds of the program: for every input the call returns true, and each argument reads as it did. -/
import Derived.Test.YtdgjmiacfpihnaaRows
import Derived.Test.YtdgjmiacfpihnaaR
import Derived.Test.YtdgjmiacfpihnaaEngR
import Derived.ProofKit
namespace Go.Proofs.Ytdgjmiacfpihnaa
open Go Go.Eng Go.ChangeShapes Go.WideShapes Go.ChangeAt Go.RowKit
theorem Try.ownK : ownKnob Try.prog.godebug = none := by kernel_rfl
theorem Try.laidOutK : laidOutB Try.prog = true := by kernel_rfl
theorem flatA0_NetPlays : flatT Try.prog 24 23 = some [.sl 37] := by kernel_rfl
def ok5 (x : (Int)) : Prop := inK .u8 x
theorem flat5 : flatT Try.prog 24 5 = some [.int .u8] := by kernel_rfl
theorem dec5 {H : Type} {enc : TypeId × Value → H} {w : World} (fuel : Nat) (cs : List Value) (x : DataW H × List MemPlace) (h : DataW.trod enc Try.prog w 0 (fun _ => true) true fuel 5 cs = some x) : ∃ y : (Int), cs = enc5 y ∧ ok5 y := by
  obtain ⟨z0, _, rfl, ⟨a0, rfl, w0⟩, rfl⟩ := (trod_leaves 24).1 5 _ flat5 _ _ _ h
  exact ⟨a0, rfl, w0⟩
def ok37 (x : (Int × Int × Int × Int × Int × Int × (List (Int)))) : Prop := inK .i64 x.1 ∧ inK .i64 x.2.1 ∧ inK .u32 x.2.2.1 ∧ inK .i64 x.2.2.2.1 ∧ inK .u32 x.2.2.2.2.1 ∧ inK .i64 x.2.2.2.2.2.1 ∧ ((∀ a ∈ x.2.2.2.2.2.2, ok5 a) ∧ x.2.2.2.2.2.2.length ≤ 9223372036854775807)
theorem flat37 : flatT Try.prog 24 37 = some [.int .i64, .int .i64, .int .u32, .int .i64, .int .u32, .int .i64, .sl 5] := by kernel_rfl
theorem dec37 {H : Type} {enc : TypeId × Value → H} {w : World} (fuel : Nat) (cs : List Value) (x : DataW H × List MemPlace) (h : DataW.trod enc Try.prog w 0 (fun _ => true) true fuel 37 cs = some x) : ∃ y : (Int × Int × Int × Int × Int × Int × (List (Int))), encR37 [oldP w] y cs ∧ ok37 y := by
  obtain ⟨z0, _, rfl, ⟨a0, rfl, w0⟩, z1, _, rfl, ⟨a1, rfl, w1⟩, z2, _, rfl, ⟨a2, rfl, w2⟩, z3, _, rfl, ⟨a3, rfl, w3⟩, z4, _, rfl, ⟨a4, rfl, w4⟩, z5, _, rfl, ⟨a5, rfl, w5⟩, z6, _, rfl, s6, rfl⟩ := (trod_leaves 24).1 37 _ flat37 _ _ _ h
  obtain ⟨q6, a6, k6, e6, hk6, m6, o6, r6⟩ := L1_slice (z := 1) (en := enc5) (ok := ok5) (by kernel_rfl) (by decide) dec5 s6
  subst e6
  exact ⟨(a0, a1, a2, a3, a4, a5, a6), ⟨q6, _, k6, rfl, rfl, hk6, rdOld r6⟩, ⟨w0, w1, w2, w3, w4, w5, ⟨o6, m6⟩⟩⟩

set_option maxHeartbeats 2000000 in
set_option maxRecDepth 100000 in
theorem netPlays_lifted (os : Os) (started : os.Started) (H : Type) (enc : TypeId × Value → H) :
    ReturnsInHanded {} Try.checked os 5 .any (Rows.netPlaysSpec.pre6 enc Try.prog Try.f5 Rows.netPlaysRow.domain false) (Rows.netPlaysSpec.post enc Try.prog Try.f5 false true false false) := by
  refine returnsInHanded_of_change (C := Try.checked) Try.ownK started (by kernel_rfl) Try.func5
    (ChangeSpec.witness6 (enc := enc) (C := Try.checked) false ⟨#[], #[(Value.slice none 0 0)], []⟩ 8 (by kernel_rfl) (by kernel_rfl) (by kernel_rfl) (by kernel_rfl)) ?_
  intro W base args ds gs before hval0 hW hcnd _
  have hval : ∀ (j : Nat) t v, Try.f5.params[j]? = some t → args[j]? = some v → Value.okWide Try.prog W .any base t v := hval0
  have hW' := hW
  obtain ⟨p, q, hA0, hV, rfl, hfz, hnd⟩ := hW
  have hA : DataW.TrodAll enc Try.prog W 0 (fun _ => true) true Try.f5.params.toList args.toList ds p := hA0
  have hAll := hA
  rw [Try.params5] at hA hval
  obtain ⟨v0, d0, rfl, rfl, h0⟩ := trodAll_one hA
  obtain ⟨rfl, rfl⟩ := trodVars_none hV
  clear hA0 hval0
  simp only [List.append_nil] at hW'
  obtain ⟨p0, l0, c0, rfl⟩ := okWide_slice (e := 37) Try.underlying23 (hval 0 23 _ rfl rfl)
  obtain ⟨f0, hf0⟩ := h0
  have lo0 := (trod_leaves 24).1 23 _ flatA0_NetPlays _ _ _ hf0
  obtain ⟨z0_0, _, ez0, sa0_0, _⟩ := lo0
  cases ez0
  obtain ⟨qa0_0, xsa0_0, ka0_0, ea0_0, hka0_0, hma0_0, oka0_0, rda0_0⟩ := L1_sliceD (z := 7) (R := encR37 [oldP W]) (ok := ok37) (by kernel_rfl) (by decide) dec37 sa0_0
  cases ea0_0
  have hcall : CallV Try.prog 5 _ W (fun v w' => v = .bool true ∧ Kept W w') :=
    embrasurelaw13_NetPlays_ok (rdOldD rda0_0) rfl hka0_0 (oldP.start W) (netPlays_plain oka0_0 hma0_0) (fun r w h hr => ⟨by rw [hr], oldP.kept h⟩)
  refine hcall.mono fun e W' ⟨v, he, hv, hk⟩ => ?_
  subst he; subst hv
  exact ⟨_, rfl, post_of_kept (pv := []) hW' (fun _ _ _ => trodAll_mk1 (shut_bool Try.underlying4 true))
    (fun sp hsp => hk.trodAll Try.laidOutK sp _ _ _ _ (by kernel_rfl) hAll (fun x hx => hW'.lt x (by simpa using hx)) (fun x hx => hsp x (by simpa using hx)))
    (fun _ _ => rfl) (by simp) hk (ok_one (by kernel_rfl) rfl (okWide_bool_mk Try.underlying4 true))⟩

theorem netPlays_holds : Rows.NetPlaysSaid :=
  OpenClaim.holds_of_wide 5 Try.f5 rfl rfl rfl rfl rfl rfl rfl ⟨rfl, rfl, rfl, rfl, rfl⟩ rfl rfl rfl rfl rfl (by kernel_rfl) Try.func5 (by kernel_rfl)
    (of_decide_eq_true (by kernel_rfl)) (by unfold Func.isWrapper; first | (rw [if_pos (by decide +kernel)]; kernel_rfl) | (rw [if_neg (by decide +kernel)]; exact ⟨rfl, rfl⟩))
    (fun os started H enc _ => netPlays_lifted os started H enc)
#print axioms netPlays_holds

end Go.Proofs.Ytdgjmiacfpihnaa
