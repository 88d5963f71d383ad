/- The law WorldBack holds of the program: for every input the call returns true, and each argument reads as it did. -/
import Derived.Test.YtbjodidajacilaaRows
import Derived.Test.YtbjodidajacilaaR5
import Derived.Test.YtbjodidajacilaaEngR
import Derived.ProofKit
namespace Go.Proofs.Ytbjodidajacilaa
open Go Go.Eng Go.ChangeShapes Go.WideShapes Go.ChangeAt Go.RowKit
theorem Try.ownK : ownKnob Try.prog.godebug = none := by kernel_rfl
theorem Try.laidOutK : laidOutB Try.prog = true := by kernel_rfl
theorem flatA0_WorldBack : flatT Try.prog 24 26 = some [.sl 55, .sl 3, .sl 42] := by kernel_rfl
def ok55 (x : (Int × Int × Int × Int × Int × Int × Int)) : Prop := inK .u32 x.1 ∧ inK .i64 x.2.1 ∧ inK .i64 x.2.2.1 ∧ inK .i64 x.2.2.2.1 ∧ inK .i64 x.2.2.2.2.1 ∧ inK .i64 x.2.2.2.2.2.1 ∧ inK .i64 x.2.2.2.2.2.2
theorem flat55 : flatT Try.prog 24 55 = some [.int .u32, .int .i64, .int .i64, .int .i64, .int .i64, .int .i64, .int .i64] := by kernel_rfl
theorem dec55 {H : Type} {enc : TypeId × Value → H} {w : World} (fuel : Nat) (cs : List Value) (x : DataW H × List MemPlace) (h : DataW.trod enc Try.prog w 0 (fun _ => true) true fuel 55 cs = some x) : ∃ y : (Int × Int × Int × Int × Int × Int × Int), cs = enc55 y ∧ ok55 y := by
  obtain ⟨z0, _, rfl, ⟨a0, rfl, w0⟩, z1, _, rfl, ⟨a1, rfl, w1⟩, z2, _, rfl, ⟨a2, rfl, w2⟩, z3, _, rfl, ⟨a3, rfl, w3⟩, z4, _, rfl, ⟨a4, rfl, w4⟩, z5, _, rfl, ⟨a5, rfl, w5⟩, z6, _, rfl, ⟨a6, rfl, w6⟩, rfl⟩ := (trod_leaves 24).1 55 _ flat55 _ _ _ h
  exact ⟨(a0, a1, a2, a3, a4, a5, a6), rfl, ⟨w0, w1, w2, w3, w4, w5, w6⟩⟩
def ok3 (x : (Int)) : Prop := inK .i64 x
theorem flat3 : flatT Try.prog 24 3 = some [.int .i64] := by kernel_rfl
theorem dec3 {H : Type} {enc : TypeId × Value → H} {w : World} (fuel : Nat) (cs : List Value) (x : DataW H × List MemPlace) (h : DataW.trod enc Try.prog w 0 (fun _ => true) true fuel 3 cs = some x) : ∃ y : (Int), cs = enc3 y ∧ ok3 y := by
  obtain ⟨z0, _, rfl, ⟨a0, rfl, w0⟩, rfl⟩ := (trod_leaves 24).1 3 _ flat3 _ _ _ h
  exact ⟨a0, rfl, w0⟩
def ok42 (x : (Int × Int)) : Prop := inK .u32 x.1 ∧ inK .i64 x.2
theorem flat42 : flatT Try.prog 24 42 = some [.int .u32, .int .i64] := by kernel_rfl
theorem dec42 {H : Type} {enc : TypeId × Value → H} {w : World} (fuel : Nat) (cs : List Value) (x : DataW H × List MemPlace) (h : DataW.trod enc Try.prog w 0 (fun _ => true) true fuel 42 cs = some x) : ∃ y : (Int × Int), cs = enc42 y ∧ ok42 y := by
  obtain ⟨z0, _, rfl, ⟨a0, rfl, w0⟩, z1, _, rfl, ⟨a1, rfl, w1⟩, rfl⟩ := (trod_leaves 24).1 42 _ flat42 _ _ _ h
  exact ⟨(a0, a1), rfl, ⟨w0, w1⟩⟩
theorem flatA1_WorldBack : flatT Try.prog 24 27 = some [.sl 38] := by kernel_rfl
def ok38 (x : (Int × Int × Int × Int × Int × Bool)) : Prop := inK .i64 x.1 ∧ inK .i64 x.2.1 ∧ inK .i64 x.2.2.1 ∧ inK .u32 x.2.2.2.1 ∧ inK .i64 x.2.2.2.2.1 ∧ True
theorem flat38 : flatT Try.prog 24 38 = some [.int .i64, .int .i64, .int .i64, .int .u32, .int .i64, .bool] := by kernel_rfl
theorem dec38 {H : Type} {enc : TypeId × Value → H} {w : World} (fuel : Nat) (cs : List Value) (x : DataW H × List MemPlace) (h : DataW.trod enc Try.prog w 0 (fun _ => true) true fuel 38 cs = some x) : ∃ y : (Int × Int × Int × Int × Int × Bool), cs = enc38 y ∧ ok38 y := by
  obtain ⟨z0, _, rfl, ⟨a0, rfl, w0⟩, z1, _, rfl, ⟨a1, rfl, w1⟩, z2, _, rfl, ⟨a2, rfl, w2⟩, z3, _, rfl, ⟨a3, rfl, w3⟩, z4, _, rfl, ⟨a4, rfl, w4⟩, z5, _, rfl, ⟨a5, rfl⟩, rfl⟩ := (trod_leaves 24).1 38 _ flat38 _ _ _ h
  exact ⟨(a0, a1, a2, a3, a4, a5), rfl, ⟨w0, w1, w2, w3, w4, trivial⟩⟩

set_option maxHeartbeats 2000000 in
set_option maxRecDepth 100000 in
theorem worldBack_lifted (os : Os) (started : os.Started) (H : Type) (enc : TypeId × Value → H) :
    ReturnsInHanded {} Try.checked os 3 .any (Rows.worldBackSpec.pre6 enc Try.prog Try.f3 Rows.worldBackRow.domain false) (Rows.worldBackSpec.post enc Try.prog Try.f3 false true false false) := by
  refine returnsInHanded_of_change (C := Try.checked) Try.ownK started (by kernel_rfl) Try.func3
    (ChangeSpec.witness6 (enc := enc) (C := Try.checked) false ⟨#[], #[(Value.agg #[(Value.slice none 0 0), (Value.slice none 0 0), (Value.slice none 0 0)]), (Value.slice none 0 0)], []⟩ 8 (by kernel_rfl) (by kernel_rfl) (by kernel_rfl) (by kernel_rfl)) ?_
  intro W base args ds gs before hval0 hW hcnd _
  have hval : ∀ (j : Nat) t v, Try.f3.params[j]? = some t → args[j]? = some v → Value.okWide Try.prog W .any base t v := hval0
  have hW' := hW
  obtain ⟨p, q, hA0, hV, rfl, hfz, hnd⟩ := hW
  have hA : DataW.TrodAll enc Try.prog W 0 (fun _ => true) true Try.f3.params.toList args.toList ds p := hA0
  have hAll := hA
  rw [Try.params3] at hA hval
  obtain ⟨v0, v1, d0, d1, pp0, pp1, rfl, rfl, rfl, h0, h1⟩ := trodAll_two hA
  obtain ⟨rfl, rfl⟩ := trodVars_none hV
  clear hA0 hval0
  simp only [List.append_nil] at hW'
  obtain ⟨cs0, rfl, hz0⟩ := okWide_struct Try.underlying26 (hval 0 26 _ rfl rfl)
  obtain ⟨f0, hf0⟩ := h0
  obtain ⟨cl0⟩ := cs0
  obtain ⟨z0_0, _, rfl, sa0_0, z0_1, _, rfl, sa0_1, z0_2, _, rfl, sa0_2, rfl⟩ := (trod_leaves 24).1 26 _ flatA0_WorldBack _ _ _ hf0
  obtain ⟨qa0_0, xsa0_0, ka0_0, ea0_0, hka0_0, hma0_0, oka0_0, rda0_0⟩ := L1_slice (z := 7) (en := enc55) (ok := ok55) (by kernel_rfl) (by decide) dec55 sa0_0
  subst ea0_0
  obtain ⟨qa0_1, xsa0_1, ka0_1, ea0_1, hka0_1, hma0_1, oka0_1, rda0_1⟩ := L1_slice (z := 1) (en := enc3) (ok := ok3) (by kernel_rfl) (by decide) dec3 sa0_1
  subst ea0_1
  obtain ⟨qa0_2, xsa0_2, ka0_2, ea0_2, hka0_2, hma0_2, oka0_2, rda0_2⟩ := L1_slice (z := 2) (en := enc42) (ok := ok42) (by kernel_rfl) (by decide) dec42 sa0_2
  subst ea0_2
  obtain ⟨p1, l1, c1, rfl⟩ := okWide_slice (e := 38) Try.underlying27 (hval 1 27 _ rfl rfl)
  obtain ⟨f1, hf1⟩ := h1
  have lo1 := (trod_leaves 24).1 27 _ flatA1_WorldBack _ _ _ hf1
  obtain ⟨z1_0, _, ez1, sa1_0, _⟩ := lo1
  cases ez1
  obtain ⟨qa1_0, xsa1_0, ka1_0, ea1_0, hka1_0, hma1_0, oka1_0, rda1_0⟩ := L1_slice (z := 6) (en := enc38) (ok := ok38) (by kernel_rfl) (by decide) dec38 sa1_0
  cases ea1_0
  have hcall : CallV Try.prog 3 #[(Value.agg #[_, _, _]), _] W (fun v w' => v = .bool true ∧ Kept W w') :=
    embrasurelaw14_WorldBack_ok (rdOld rda0_0) rfl hka0_0 (rdOld rda0_1) rfl hka0_1 (rdOld rda0_2) rfl hka0_2 (rdOld rda1_0) rfl hka1_0 (oldP.start W) (worldBack_plain oka0_0 hma0_0 oka0_1 hma0_1 oka0_2 hma0_2 oka1_0 hma1_0) (fun r w h hr => ⟨by rw [hr], oldP.kept h⟩)
  refine hcall.mono fun e W' ⟨v, he, hv, hk⟩ => ?_
  subst he; subst hv
  exact ⟨_, rfl, post_of_kept (pv := []) hW' (fun _ _ _ => trodAll_mk1 (shut_bool Try.underlying4 true))
    (fun sp hsp => hk.trodAll Try.laidOutK sp _ _ _ _ (by kernel_rfl) hAll (fun x hx => hW'.lt x (by simpa using hx)) (fun x hx => hsp x (by simpa using hx)))
    (fun _ _ => rfl) (by simp) hk (ok_one (by kernel_rfl) rfl (okWide_bool_mk Try.underlying4 true))⟩

theorem worldBack_holds : Rows.WorldBackSaid :=
  OpenClaim.holds_of_wide 3 Try.f3 rfl rfl rfl rfl rfl rfl rfl ⟨rfl, rfl, rfl, rfl, rfl⟩ rfl rfl rfl rfl rfl (by kernel_rfl) Try.func3 (by kernel_rfl)
    (of_decide_eq_true (by kernel_rfl)) (by unfold Func.isWrapper; first | (rw [if_pos (by decide +kernel)]; kernel_rfl) | (rw [if_neg (by decide +kernel)]; exact ⟨rfl, rfl⟩))
    (fun os started H enc _ => worldBack_lifted os started H enc)
#print axioms worldBack_holds

end Go.Proofs.Ytbjodidajacilaa
