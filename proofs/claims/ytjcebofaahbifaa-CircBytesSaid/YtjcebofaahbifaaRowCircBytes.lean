/- The law CircBytes holds of the program: for every input the call returns true, and each argument reads as it did. -/
import Derived.Test.YtjcebofaahbifaaRows
import Derived.Test.YtjcebofaahbifaaR1
import Derived.Test.YtjcebofaahbifaaEngR
import Derived.ProofKit
namespace Go.Proofs.Ytjcebofaahbifaa
open Go Go.Eng Go.ChangeShapes Go.WideShapes Go.ChangeAt Go.RowKit
theorem Try.ownK : ownKnob Try.prog.godebug = none := by kernel_rfl
theorem Try.laidOutK : laidOutB Try.prog = true := by kernel_rfl
theorem flatA0_CircBytes : flatT Try.prog 24 23 = some [.int .i64, .int .i64, .int .i64, .int .i64, .int .i64, .int .i64] := by kernel_rfl
theorem flatA1_CircBytes : flatT Try.prog 24 24 = some [.sl 5] := by kernel_rfl
def ok5 (x : (Int)) : Prop := inK .u8 x
theorem flat5 : flatT Try.prog 24 5 = some [.int .u8] := by kernel_rfl
theorem dec5 {H : Type} {enc : TypeId × Value → H} {w : World} (fuel : Nat) (cs : List Value) (x : DataW H × List MemPlace) (h : DataW.trod enc Try.prog w 0 (fun _ => true) true fuel 5 cs = some x) : ∃ y : (Int), cs = enc5 y ∧ ok5 y := by
  obtain ⟨z0, _, rfl, ⟨a0, rfl, w0⟩, rfl⟩ := (trod_leaves 24).1 5 _ flat5 _ _ _ h
  exact ⟨a0, rfl, w0⟩
theorem flatA2_CircBytes : flatT Try.prog 24 25 = some [.sl 4] := by kernel_rfl
def ok4 (x : (Bool)) : Prop := True
theorem flat4 : flatT Try.prog 24 4 = some [.bool] := by kernel_rfl
theorem dec4 {H : Type} {enc : TypeId × Value → H} {w : World} (fuel : Nat) (cs : List Value) (x : DataW H × List MemPlace) (h : DataW.trod enc Try.prog w 0 (fun _ => true) true fuel 4 cs = some x) : ∃ y : (Bool), cs = enc4 y ∧ ok4 y := by
  obtain ⟨z0, _, rfl, ⟨a0, rfl⟩, rfl⟩ := (trod_leaves 24).1 4 _ flat4 _ _ _ h
  exact ⟨a0, rfl, trivial⟩

set_option maxHeartbeats 2000000 in
set_option maxRecDepth 100000 in
theorem circBytes_lifted (os : Os) (started : os.Started) (H : Type) (enc : TypeId × Value → H) :
    ReturnsInHanded {} Try.checked os 3 .any (Rows.circBytesSpec.pre6 enc Try.prog Try.f3 Rows.circBytesRow.domain false) (Rows.circBytesSpec.post enc Try.prog Try.f3 false true false false) := by
  refine returnsInHanded_of_change (C := Try.checked) Try.ownK started (by kernel_rfl) Try.func3
    (ChangeSpec.witness6 (enc := enc) (C := Try.checked) false ⟨#[], #[(Value.agg #[(Value.int .i64 0), (Value.int .i64 0), (Value.int .i64 0), (Value.int .i64 0), (Value.int .i64 0), (Value.int .i64 0)]), (Value.slice none 0 0), (Value.slice none 0 0)], []⟩ 8 (by kernel_rfl) (by kernel_rfl) (by kernel_rfl) (by kernel_rfl)) ?_
  intro W base args ds gs before hval0 hW hcnd _
  have hval : ∀ (j : Nat) t v, Try.f3.params[j]? = some t → args[j]? = some v → Value.okWide Try.prog W .any base t v := hval0
  have hW' := hW
  obtain ⟨p, q, hA0, hV, rfl, hfz, hnd⟩ := hW
  have hA : DataW.TrodAll enc Try.prog W 0 (fun _ => true) true Try.f3.params.toList args.toList ds p := hA0
  have hAll := hA
  rw [Try.params3] at hA hval
  obtain ⟨v0, v1, v2, d0, d1, d2, pp0, pp1, pp2, rfl, rfl, rfl, h0, h1, h2⟩ := trodAll_three hA
  obtain ⟨rfl, rfl⟩ := trodVars_none hV
  clear hA0 hval0
  simp only [List.append_nil] at hW'
  obtain ⟨cs0, rfl, hz0⟩ := okWide_struct Try.underlying23 (hval 0 23 _ rfl rfl)
  obtain ⟨f0, hf0⟩ := h0
  obtain ⟨cl0⟩ := cs0
  obtain ⟨z0_0, _, rfl, ⟨a0_0, rfl, wa0_0⟩, z0_1, _, rfl, ⟨a0_1, rfl, wa0_1⟩, z0_2, _, rfl, ⟨a0_2, rfl, wa0_2⟩, z0_3, _, rfl, ⟨a0_3, rfl, wa0_3⟩, z0_4, _, rfl, ⟨a0_4, rfl, wa0_4⟩, z0_5, _, rfl, ⟨a0_5, rfl, wa0_5⟩, rfl⟩ := (trod_leaves 24).1 23 _ flatA0_CircBytes _ _ _ hf0
  obtain ⟨p1, l1, c1, rfl⟩ := okWide_slice (e := 5) Try.underlying24 (hval 1 24 _ rfl rfl)
  obtain ⟨f1, hf1⟩ := h1
  have lo1 := (trod_leaves 24).1 24 _ flatA1_CircBytes _ _ _ hf1
  obtain ⟨z1_0, _, ez1, sa1_0, _⟩ := lo1
  cases ez1
  obtain ⟨qa1_0, xsa1_0, ka1_0, ea1_0, hka1_0, hma1_0, oka1_0, rda1_0⟩ := L1_slice (z := 1) (en := enc5) (ok := ok5) (by kernel_rfl) (by decide) dec5 sa1_0
  cases ea1_0
  obtain ⟨p2, l2, c2, rfl⟩ := okWide_slice (e := 4) Try.underlying25 (hval 2 25 _ rfl rfl)
  obtain ⟨f2, hf2⟩ := h2
  have lo2 := (trod_leaves 24).1 25 _ flatA2_CircBytes _ _ _ hf2
  obtain ⟨z2_0, _, ez2, sa2_0, _⟩ := lo2
  cases ez2
  obtain ⟨qa2_0, xsa2_0, ka2_0, ea2_0, hka2_0, hma2_0, oka2_0, rda2_0⟩ := L1_slice (z := 1) (en := enc4) (ok := ok4) (by kernel_rfl) (by decide) dec4 sa2_0
  cases ea2_0
  have hcall : CallV Try.prog 3 #[(Value.agg #[(Value.int .i64 a0_0), (Value.int .i64 a0_1), (Value.int .i64 a0_2), (Value.int .i64 a0_3), (Value.int .i64 a0_4), (Value.int .i64 a0_5)]), _, _] W (fun v w' => v = .bool true ∧ Kept W w') :=
    embrasurelaw24_CircBytes_ok (rdOld rda1_0) rfl hka1_0 (rdOld rda2_0) rfl hka2_0 (oldP.start W) (circBytes_plain wa0_0 wa0_1 wa0_2 wa0_3 wa0_4 wa0_5 oka1_0 hma1_0 oka2_0 hma2_0) (fun r w h hr => ⟨by rw [hr], oldP.kept h⟩)
  refine hcall.mono fun e W' ⟨v, he, hv, hk⟩ => ?_
  subst he; subst hv
  exact ⟨_, rfl, post_of_kept (pv := []) hW' (fun _ _ _ => trodAll_mk1 (shut_bool Try.underlying4 true))
    (fun sp hsp => hk.trodAll Try.laidOutK sp _ _ _ _ (by kernel_rfl) hAll (fun x hx => hW'.lt x (by simpa using hx)) (fun x hx => hsp x (by simpa using hx)))
    (fun _ _ => rfl) (by simp) hk (ok_one (by kernel_rfl) rfl (okWide_bool_mk Try.underlying4 true))⟩

theorem circBytes_holds : Rows.CircBytesSaid :=
  OpenClaim.holds_of_wide 3 Try.f3 rfl rfl rfl rfl rfl rfl rfl ⟨rfl, rfl, rfl, rfl, rfl⟩ rfl rfl rfl rfl rfl (by kernel_rfl) Try.func3 (by kernel_rfl)
    (of_decide_eq_true (by kernel_rfl)) (by unfold Func.isWrapper; first | (rw [if_pos (by decide +kernel)]; kernel_rfl) | (rw [if_neg (by decide +kernel)]; exact ⟨rfl, rfl⟩))
    (fun os started H enc _ => circBytes_lifted os started H enc)
#print axioms circBytes_holds

end Go.Proofs.Ytjcebofaahbifaa
