/- The law NatLasts holds of the program: for every input the call returns true, and each argument reads as it did. -/
import Derived.Test.YthhbnjcebmhilaaRows
import Derived.Test.YthhbnjcebmhilaaQ
import Derived.Test.YthhbnjcebmhilaaEngR
import Derived.ProofKit
namespace Go.Proofs.Ythhbnjcebmhilaa
open Go Go.Eng Go.ChangeShapes Go.WideShapes Go.ChangeAt Go.RowKit
theorem Try.ownK : ownKnob Try.prog.godebug = none := by kernel_rfl
theorem Try.laidOutK : laidOutB Try.prog = true := by kernel_rfl
theorem okWide_arrayE {P : Program} {w : World} {r : Reach} {base : Nat} {t e : TypeId} {n : Nat} {v : Value} (ht : P.underlying t = some (.array n e)) (h : Value.okWide P w r base t v) : ∃ cs, v = .agg cs ∧ cs.size = P.cellsOf t := by
  simp only [Value.okWide, ht] at h
  obtain ⟨cs, h1, h2, _⟩ := h
  exact ⟨cs, h1, h2⟩
theorem flatA0_NatLasts : flatT Try.prog 24 5 = some [.int .u8] := by kernel_rfl
theorem flatA1_NatLasts : flatT Try.prog 24 38 = some [.sl 5] := by kernel_rfl
def ok5 (x : (Int)) : Prop := inK .u8 x
theorem flat5 : flatT Try.prog 24 5 = some [.int .u8] := by kernel_rfl
theorem dec5 {H : Type} {enc : TypeId × Value → H} {w : World} (fuel : Nat) (cs : List Value) (x : DataW H × List MemPlace) (h : DataW.trod enc Try.prog w 0 (fun _ => true) true fuel 5 cs = some x) : ∃ y : (Int), cs = enc5 y ∧ ok5 y := by
  obtain ⟨z0, _, rfl, ⟨a0, rfl, w0⟩, rfl⟩ := (trod_leaves 24).1 5 _ flat5 _ _ _ h
  exact ⟨a0, rfl, w0⟩
theorem flatA2_NatLasts : flatT Try.prog 24 39 = some [.int .u32, .int .i64, .int .u32, .int .i64] := by kernel_rfl

set_option maxHeartbeats 2000000 in
set_option maxRecDepth 100000 in
theorem natLasts_lifted (os : Os) (started : os.Started) (H : Type) (enc : TypeId × Value → H) :
    ReturnsInHanded {} Try.checked os 4 .any (Rows.natLastsSpec.pre6 enc Try.prog Try.f4 Rows.natLastsRow.domain false) (Rows.natLastsSpec.post enc Try.prog Try.f4 false true false false) := by
  refine returnsInHanded_of_change (C := Try.checked) Try.ownK started (by kernel_rfl) Try.func4
    (ChangeSpec.witness6 (enc := enc) (C := Try.checked) false ⟨#[], #[(Value.int .u8 0), (Value.slice none 0 0), (Value.agg #[(Value.int .u32 0), (Value.int .i64 0), (Value.int .u32 0), (Value.int .i64 0)])], []⟩ 8 (by kernel_rfl) (by kernel_rfl) (by kernel_rfl) (by kernel_rfl)) ?_
  intro W base args ds gs before hval0 hW hcnd _
  have hval : ∀ (j : Nat) t v, Try.f4.params[j]? = some t → args[j]? = some v → Value.okWide Try.prog W .any base t v := hval0
  have hW' := hW
  obtain ⟨p, q, hA0, hV, rfl, hfz, hnd⟩ := hW
  have hA : DataW.TrodAll enc Try.prog W 0 (fun _ => true) true Try.f4.params.toList args.toList ds p := hA0
  have hAll := hA
  rw [Try.params4] at hA hval
  obtain ⟨v0, v1, v2, d0, d1, d2, pp0, pp1, pp2, rfl, rfl, rfl, h0, h1, h2⟩ := trodAll_three hA
  obtain ⟨rfl, rfl⟩ := trodVars_none hV
  clear hA0 hval0
  simp only [List.append_nil] at hW'
  obtain ⟨n0, rfl⟩ := okWide_int (k := .u8) Try.underlying5 (hval 0 5 _ rfl rfl)
  obtain ⟨f0, hf0⟩ := h0
  have lo0 := (trod_leaves 24).1 5 _ flatA0_NatLasts _ _ _ hf0
  obtain ⟨_, _, ez0, ⟨a0_0, ea0_0, wa0_0⟩, _⟩ := lo0
  cases ez0
  cases ea0_0
  obtain ⟨p1, l1, c1, rfl⟩ := okWide_slice (e := 5) Try.underlying38 (hval 1 38 _ rfl rfl)
  obtain ⟨f1, hf1⟩ := h1
  have lo1 := (trod_leaves 24).1 38 _ flatA1_NatLasts _ _ _ hf1
  obtain ⟨z1_0, _, ez1, sa1_0, _⟩ := lo1
  cases ez1
  obtain ⟨qa1_0, xsa1_0, ka1_0, ea1_0, hka1_0, hma1_0, oka1_0, rda1_0⟩ := L1_slice (z := 1) (en := enc5) (ok := ok5) (by kernel_rfl) (by decide) dec5 sa1_0
  cases ea1_0
  obtain ⟨cs2, rfl, hz2⟩ := okWide_arrayE Try.underlying39 (hval 2 39 _ rfl rfl)
  obtain ⟨f2, hf2⟩ := h2
  obtain ⟨cl2⟩ := cs2
  obtain ⟨z2_0, _, rfl, ⟨a2_0, rfl, wa2_0⟩, z2_1, _, rfl, ⟨a2_1, rfl, wa2_1⟩, z2_2, _, rfl, ⟨a2_2, rfl, wa2_2⟩, z2_3, _, rfl, ⟨a2_3, rfl, wa2_3⟩, rfl⟩ := (trod_leaves 24).1 39 _ flatA2_NatLasts _ _ _ hf2
  have hcall : CallV Try.prog 4 #[_, _, (Value.agg #[(Value.int .u32 a2_0), (Value.int .i64 a2_1), (Value.int .u32 a2_2), (Value.int .i64 a2_3)])] W (fun v w' => v = .bool true ∧ Kept W w') :=
    embrasurelaw08_NatLasts_ok (rdOld rda1_0) rfl hka1_0 (oldP.start W) (natLasts_plain wa0_0 oka1_0 hma1_0 wa2_0 wa2_1 wa2_2 wa2_3) (fun r w h hr => ⟨by rw [hr], oldP.kept h⟩)
  refine hcall.mono fun e W' ⟨v, he, hv, hk⟩ => ?_
  subst he; subst hv
  exact ⟨_, rfl, post_of_kept (pv := []) hW' (fun _ _ _ => trodAll_mk1 (shut_bool Try.underlying4 true))
    (fun sp hsp => hk.trodAll Try.laidOutK sp _ _ _ _ (by kernel_rfl) hAll (fun x hx => hW'.lt x (by simpa using hx)) (fun x hx => hsp x (by simpa using hx)))
    (fun _ _ => rfl) (by simp) hk (ok_one (by kernel_rfl) rfl (okWide_bool_mk Try.underlying4 true))⟩

theorem natLasts_holds : Rows.NatLastsSaid :=
  OpenClaim.holds_of_wide 4 Try.f4 rfl rfl rfl rfl rfl rfl rfl ⟨rfl, rfl, rfl, rfl, rfl⟩ rfl rfl rfl rfl rfl (by kernel_rfl) Try.func4 (by kernel_rfl)
    (of_decide_eq_true (by kernel_rfl)) (by unfold Func.isWrapper; first | (rw [if_pos (by decide +kernel)]; kernel_rfl) | (rw [if_neg (by decide +kernel)]; exact ⟨rfl, rfl⟩))
    (fun os started H enc _ => natLasts_lifted os started H enc)
#print axioms natLasts_holds

end Go.Proofs.Ythhbnjcebmhilaa
