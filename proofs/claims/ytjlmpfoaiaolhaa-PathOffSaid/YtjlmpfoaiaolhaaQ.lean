/- The plain side: the ways. -/
import Derived.Test.YtjlmpfoaiaolhaaP
namespace Go.Proofs.Ytjlmpfoaiaolhaa
open Go Go.Eng

theorem eqpl (a b : Pl) : ((((a.1 : Int) == b.1) && (((a.2.1 : Int) == b.2.1) && true)) && (((a.2.2.1 : Int) == b.2.2.1) && ((a.2.2.2 == b.2.2.2) && true))) = decide (a = b) := by
  obtain ⟨a1, a2, a3, a4⟩ := a
  obtain ⟨b1, b2, b3, b4⟩ := b
  by_cases h : ((a1, a2, a3, a4) : Pl) = (b1, b2, b3, b4)
  · cases h; simp
  · rw [decide_eq_false h]
    simp only [Prod.mk.injEq] at h
    by_cases h1 : a1 = b1 <;> by_cases h2 : a2 = b2 <;> by_cases h3 : a3 = b3 <;> by_cases h4 : a4 = b4 <;> simp_all

theorem contains_wp {s : List Pl} {x : Pl} {K : Bool → Prop} (hl : s.length ≤ 9223372036854775000) (hK : K (decide (x ∈ s))) : slices_Contains_sl_api_Place_api_Place_wp s x.1 x.2.1 x.2.2.1 x.2.2.2 K := by
  unfold slices_Contains_sl_api_Place_api_Place_wp slices_Index_sl_api_Place_api_Place_wp
  refine ⟨fun n i => 0 ≤ i ∧ i ≤ s.length ∧ n = s.length - i.toNat ∧ ∀ j, j < i.toNat → s[j]? ≠ some x, ⟨_, by omega, by omega, rfl, by omega⟩, ?_⟩
  rintro n i ⟨h0, h1, rfl, hj⟩
  refine cond_d (fun hlt => ⟨h0, hlt, fun y hy => ?_⟩) (fun hge => ?_)
  · rw [eqpl x y]
    refine cond_d (fun he => ?_) (fun he => ?_)
    · subst he
      refine dec_key hK _ ?_
      simp only [decide_eq_true_eq]
      exact ⟨fun _ => List.mem_of_getElem? hy, fun _ => by omega⟩
    · rw [wrap_i64 (by omega) (by omega)]
      refine ⟨_, ?_, by omega, by omega, rfl, ?_⟩
      · omega
      · intro j hj2
        by_cases e : j = i.toNat
        · subst e; rw [hy]; exact fun h => he (Option.some.inj h).symm
        · exact hj j (by omega)
  · refine dec_key hK _ ?_
    simp only [decide_eq_true_eq]
    refine ⟨fun h => by omega, fun h => ?_⟩
    obtain ⟨j, hjl, he⟩ := List.getElem_of_mem h
    exact absurd (by rw [List.getElem?_eq_getElem hjl, he]) (hj j (by omega))

theorem fold8 {out : List Pl} (h : out.length = 8) : ∀ (l : List Pl), l.foldl step out = out
  | [] => rfl
  | x :: l => by
    rw [List.foldl_cons]
    have : step out x = out := by unfold step; rw [if_pos h]
    rw [this]
    exact fold8 h l

theorem step_le {out : List Pl} {x : Pl} (h : out.length ≤ 8) : (step out x).length ≤ 8 := by
  unfold step
  split
  · omega
  · split
    · omega
    · rw [List.length_append, List.length_singleton]; omega

theorem fold_le : ∀ (l : List Pl) {out : List Pl}, out.length ≤ 8 → (l.foldl step out).length ≤ 8
  | [], _, h => h
  | _ :: l, _, h => fold_le l (step_le h)

def rf (s : Nat × List Pl) (x : Pl) : Bool × (Nat × List Pl) :=
  if s.2.length = 8 then (false, (1, s.2)) else if x ∈ s.2 then (true, (0, s.2)) else (true, (0, s.2 ++ [x]))

theorem run_rf (good : Pl → Bool) : ∀ (l : List Pl) (out : List Pl), out.length ≤ 8 →
    (run good rf l (0, out)).2 = (l.filter good).foldl step out ∧ ((run good rf l (0, out)).1 = 0 ∨ ((run good rf l (0, out)).1 ≠ 0 ∧ ((l.filter good).foldl step out).length = 8))
  | [], out, _ => ⟨rfl, .inl rfl⟩
  | x :: l, out, h => by
    rw [run]
    by_cases hg : good x = true
    · rw [if_pos hg, List.filter_cons_of_pos hg, List.foldl_cons]
      by_cases h8 : out.length = 8
      · have e : rf (0, out) x = (false, (1, out)) := by unfold rf; rw [if_pos h8]
        have e2 : step out x = out := by unfold step; rw [if_pos h8]
        rw [e, e2, fold8 h8]
        exact ⟨rfl, .inr ⟨by simp, h8⟩⟩
      · by_cases hm : x ∈ out
        · have e : rf (0, out) x = (true, (0, out)) := by unfold rf; rw [if_neg h8, if_pos hm]
          have e2 : step out x = out := by unfold step; rw [if_neg h8, if_pos hm]
          rw [e, e2]
          exact run_rf good l out h
        · have e : rf (0, out) x = (true, (0, out ++ [x])) := by unfold rf; rw [if_neg h8, if_neg hm]
          have e2 : step out x = out ++ [x] := by unfold step; rw [if_neg h8, if_neg hm]
          rw [e, e2]
          refine run_rf good l _ ?_
          rw [List.length_append, List.length_singleton]; omega
    · rw [if_neg hg, List.filter_cons_of_neg hg]
      exact run_rf good l out h

theorem yield_wp {s : Nat × List Pl} {x : Pl} {K : Bool → Nat × List Pl → Prop} (hs : s.1 = 0) (hl : s.2.length ≤ 8) (hK : K (rf s x).1 (rf s x).2) :
    s.1 = 0 ∧ (cond ((((s.2.length : Nat) : Int) : Int) == 8) (K false (1, s.2)) (slices_Contains_sl_api_Place_api_Place_wp s.2 x.1 x.2.1 x.2.2.1 x.2.2.2 (fun (r : Bool) => cond (!r) ((s.2.length + [x].length) * 32 ≤ 140737488355328 ∧ (K true (0, (s.2 ++ [x])))) (K true (0, s.2))))) := by
  refine ⟨hs, cond_e (fun h => ?_) (fun h => contains_wp (by omega) (cond_b (fun a => ?_) (fun a => ?_)))⟩
  · have e : rf s x = (false, (1, s.2)) := by unfold rf; rw [if_pos (by omega)]
    rw [e] at hK; exact hK
  · have hm : ¬ x ∈ s.2 := by simpa using a
    have e : rf s x = (true, (0, s.2 ++ [x])) := by unfold rf; rw [if_neg (by omega), if_neg hm]
    rw [e] at hK
    exact ⟨by simp; omega, hK⟩
  · have hm : x ∈ s.2 := by simpa using a
    have e : rf s x = (true, (0, s.2)) := by unfold rf; rw [if_neg (by omega), if_pos hm]
    rw [e] at hK; exact hK

theorem rf_inv (s : Nat × List Pl) (x : Pl) (h : s.1 = 0 ∧ s.2.length ≤ 8) (hc : (rf s x).1 = true) : (rf s x).2.1 = 0 ∧ (rf s x).2.2.length ≤ 8 := by
  unfold rf at *
  split at hc
  · cases hc
  · rename_i h8
    rw [if_neg h8]
    split
    · exact ⟨rfl, h.2⟩
    · refine ⟨rfl, ?_⟩
      rw [List.length_append, List.length_singleton]; have := h.2; omega

end Go.Proofs.Ytjlmpfoaiaolhaa
