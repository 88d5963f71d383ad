/- The plain side: CircBytes, CircTwo. -/
import Derived.Test.YtjcebofaahbifaaP
namespace Go.Proofs.Ytjcebofaahbifaa
open Go Go.Eng

theorem filt1 {n : Int} {c : Ci} (h : n < c.2.2.2.1) : ([c].filter fun c => !over n c) = [c] ∧ [c].filter (over n) = [] := by
  have e : over n c = false := by unfold over; simp; omega
  simp [e]

theorem filt0 {n : Int} {c : Ci} (h : c.2.2.2.1 ≤ n) : ([c].filter fun c => !over n c) = [] ∧ [c].filter (over n) = [c] := by
  have e : over n c = true := by unfold over; simp; omega
  simp [e]

theorem fwd_one {data no fr size n : Int} {c : Ci} {G : List Ci} {K : Int → Int → List Ci → List Ci → Int → Prop} (hno : c.1 = no) (hin : c.2.1 = fr ∨ c.2.2.1 = fr) (hs : 0 ≤ size)
    (hB : fr = c.2.2.1 → (data - c.2.2.2.2.2 < size → K 0 4 [] G n) ∧ (size ≤ data - c.2.2.2.2.2 → K c.2.1 0 [(c.1, c.2.1, c.2.2.1, c.2.2.2.1, c.2.2.2.2.1, c.2.2.2.2.2 + size)] G n))
    (hA : fr ≠ c.2.2.1 → (data - c.2.2.2.2.1 < size → K 0 4 [] G n) ∧ (size ≤ data - c.2.2.2.2.1 → K c.2.2.1 0 [(c.1, c.2.1, c.2.2.1, c.2.2.2.1, c.2.2.2.2.1 + size, c.2.2.2.2.2)] G n)) : fwdK data no fr size [c] G n K := by
  refine ⟨fun h => absurd hno (h c (by simp)), fun i d hi hd _ => ?_⟩
  cases i with
  | succ i => simp at hi
  | zero =>
    simp at hi
    subst hi
    exact ⟨fun h1 h2 => by rcases hin with h | h; exact absurd h h1; exact absurd h h2, fun _ => ⟨fun h => absurd h (by omega), fun _ => ⟨hB, hA⟩⟩⟩

theorem awake_wp {K : Bool → Prop} (hK : K true) : embrasurelaw24_awake_wp K := by
  unfold embrasurelaw24_awake_wp
  refine new_wp (fun h => absurd (by decide) h) (fun _ => joinP1.i (cond_f rfl ?_))
  refine open_wp (by simp) (by omega) (by omega) (by omega) (fun h => absurd (by unfold mayO; omega) h) (fun _ h => absurd h (by decide)) (fun _ _ h => absurd h (by decide)) (fun _ _ _ => ?_)
  have e1 : nowOn 1 2 = 2 := by decide
  have f1 : (((([] : List Ci).filter fun c => !over 1 c) ++ [(0 + 1, 7, 8, if (1 : Int) + 10 < 100 then 1 + 10 else 100, 0, 0)]).filter fun c => !over (nowOn 1 2) c) = [(1, 7, 8, 11, 0, 0)] := by decide
  have f2 : (([] : List Ci) ++ ([] : List Ci).filter (over 1)) ++ (((([] : List Ci).filter fun c => !over 1 c) ++ [(0 + 1, 7, 8, if (1 : Int) + 10 < 100 then 1 + 10 else 100, 0, 0)]).filter (over (nowOn 1 2))) = [] := by decide
  refine forward_wp (by decide) (by omega) (by unfold okB; decide) ?_
  rw [f1, f2, e1]
  refine fwd_one rfl (.inl rfl) (by omega) (fun h => absurd h (by decide)) (fun _ => ⟨fun h => absurd h (by decide), fun _ => ?_⟩)
  have f3 : ([(1, 7, 8, 11, 0 + 6, 0)] : List Ci).filter (fun c => !over 2 c) = [(1, 7, 8, 11, 6, 0)] := by decide
  have f4 : ([] : List Ci) ++ ([(1, 7, 8, 11, 0 + 6, 0)] : List Ci).filter (over 2) = [] := by decide
  refine open_wp (by simp) (by omega) (by omega) (by omega) (fun h => absurd (by unfold mayO; omega) h) (fun _ _ => ?_) (fun _ h => absurd h (by decide)) (fun _ h => absurd h (by decide))
  rw [f3, f4]
  have e2 : nowOn 2 2 = 2 := by decide
  have f5 : ([(1, 7, 8, 11, 6, 0)] : List Ci).filter (fun c => !over (nowOn 2 2) c) = [(1, 7, 8, 11, 6, 0)] := by decide
  have f6 : ([] : List Ci) ++ ([(1, 7, 8, 11, 6, 0)] : List Ci).filter (over (nowOn 2 2)) = [] := by decide
  refine forward_wp (by simp) (by omega) (by unfold okB; decide) ?_
  rw [f5, f6, e2]
  refine fwd_one rfl (.inl rfl) (by omega) (fun h => absurd h (by decide)) (fun _ => ⟨fun _ => ?_, fun h => absurd h (by decide)⟩)
  refine cond_t rfl (cond_t rfl (cond_t rfl (cond_t rfl (cond_t rfl (cond_t rfl (all_wp (by simp) ?_))))))
  simpa using hK

end Go.Proofs.Ytjcebofaahbifaa
