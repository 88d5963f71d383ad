/- The plain side: PathOff. -/
import Derived.Test.YtjlmpfoaiaolhaaA
namespace Go.Proofs.Ytjlmpfoaiaolhaa
open Go Go.Eng

theorem pathOff_plain {own now : Int} {places : List Pl} (_ : inK .u32 own) (_ : ∀ x ∈ places, inK .u32 x.1 ∧ inK .i64 x.2.1 ∧ inK .i64 x.2.2.1 ∧ True) (_ : places.length ≤ 9223372036854775807)
    (_ : inK .i64 now) : embrasurelaw29_PathOff_wp own places now (· = true) := by
  unfold embrasurelaw29_PathOff_wp
  refine awake_wp (cond_f rfl (cond_d (fun _ => rfl) (fun hlen => new_wp (by omega) ?_)))
  have hw : ∀ K : List Pl → Prop, K (ways own places) → path_Ways_wp own places K := fun K hK => ways_wp (by omega) hK
  generalize ways own places = W at hw ⊢
  refine open_wp (fun h => absurd h.2 (by decide)) (fun _ => ?_)
  refine punched_wp (by decide) (fun h => absurd h.2.1 (by decide)) (fun _ => ?_)
  refine lost_wp ⟨fun h => absurd h.2 (by decide), fun _ => ?_⟩
  refine tick_wp (by decide) (by decide) ⟨fun h => absurd h.2.1 (by decide), fun _ => ?_⟩
  unfold path_Walker_State_wp
  refine joinP1.i (cond_f rfl (cond_f rfl (cond_f rfl (cond_f rfl (cond_f rfl ?_)))))
  by_cases hn : 0 ≤ now ∧ now ≤ 1099511627776
  · refine start_wp ⟨fun _ => ⟨fun h0 => ?_, fun x hlt hx => ?_⟩, fun h => absurd ⟨hn, .inl rfl⟩ h⟩
    · refine ⟨fun t => t = false, fun t ht => cond_f ht (hw _ (cond_t (by simp only [beq_iff_eq]; omega) (cond_t rfl (cond_t rfl (open_wp (fun h => absurd h.2 (by decide)) (fun _ => rfl)))))), cond_d (fun h => absurd h (by omega)) (fun h => ?_)⟩
      show decide _ = false
      simp only [decide_eq_false_iff_not]; omega
    · refine ⟨fun t => t = false, fun t ht => cond_f ht (hw _ (cond_f (by simp only [beq_eq_false_iff_ne, ne_eq]; omega) ?_)), cond_d (fun h => absurd h (by omega)) (fun h => ?_)⟩
      · refine start_wp ⟨fun h => absurd h.2 (by decide), fun _ => cond_t rfl (hw _ ⟨by decide, hlt, fun y hy => ?_⟩)⟩
        obtain rfl : x = y := Option.some.inj (hx.symm.trans hy)
        rw [wrap_i64 (by omega) (by omega)]
        exact cond_t (by simp) (cond_t rfl (by simp))
      · show decide _ = false
        simp only [decide_eq_false_iff_not]; omega
  · refine start_wp ⟨fun h => absurd h.1 hn, fun _ => ?_⟩
    refine ⟨fun t => t = true, fun t ht => cond_t ht (cond_t rfl rfl), cond_d (fun h => rfl) (fun h => ?_)⟩
    show decide _ = true
    simp only [decide_eq_true_eq]; omega

end Go.Proofs.Ytjlmpfoaiaolhaa
