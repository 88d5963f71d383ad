/- The plain side: the ways, told by the program and by the document. -/
import Derived.Test.YtjlmpfoaiaolhaaQ
namespace Go.Proofs.Ytjlmpfoaiaolhaa
open Go Go.Eng

/-- The kinds without the question whether a place may be. -/
def isB (own : Int) : Nat → Pl → Bool
  | 0, x => !x.2.2.2 && !decide (insideP x.1)
  | 1, x => !x.2.2.2 && (decide (insideP x.1) && decide (x.1 / 256 = own / 256))
  | _, x => x.2.2.2

theorem c1_wp {own : Int} {x : Pl} {K : Bool → Prop} (hK : K (isB own 0 x)) : path_Ways_c1_wp x.1 x.2.1 x.2.2.1 x.2.2.2 K := by
  unfold path_Ways_c1_wp
  replace hK : K (!x.2.2.2 && !decide (insideP x.1)) := hK
  refine cond_b (fun a => inside_wp ?_) (fun a => ?_)
  · rw [a] at hK; simpa using hK
  · rw [a] at hK; simpa using hK

theorem c2_wp {own : Int} {x : Pl} {K : Bool → Prop} (hK : K (isB own 1 x)) : path_Ways_c2_wp x.1 x.2.1 x.2.2.1 x.2.2.2 own K := by
  unfold path_Ways_c2_wp
  replace hK : K (!x.2.2.2 && (decide (insideP x.1) && decide (x.1 / 256 = own / 256))) := hK
  have e1 : ∀ h : Int, Int.fdiv h (2 ^ (min (Int.toNat 8) (IntKind.bits .u32))) = h / 256 := fun h => fdiv_pow h 8
  rw [e1, e1]
  refine cond_b (fun a => inside_wp (cond_b (fun b => ?_) (fun b => ?_))) (fun a => ?_)
  · rw [a, b] at hK
    have : (x.1 / 256 == own / 256) = decide (x.1 / 256 = own / 256) := by
      by_cases h : x.1 / 256 = own / 256 <;> simp [h]
    rw [this]
    simpa using hK
  · rw [a, b] at hK; simpa using hK
  · rw [a] at hK; simpa using hK

theorem c3_wp {own : Int} {x : Pl} {K : Bool → Prop} (hK : K (isB own 2 x)) : path_Ways_c3_wp x.1 x.2.1 x.2.2.1 x.2.2.2 K := hK

theorem kindB_is (own : Int) (k : Nat) (hk : k ≤ 2) : (fun x => decide (plP x) && isB own k x) = kindB own k := by
  funext x
  have : k = 0 ∨ k = 1 ∨ k = 2 := by omega
  rcases this with rfl | rfl | rfl <;> rfl

/-- So far. -/
def upto (own : Int) (l : List Pl) : Nat → List Pl
  | 0 => []
  | k + 1 => (l.filter (kindB own k)).foldl step (upto own l k)

theorem upto_le (own : Int) (l : List Pl) : ∀ k, (upto own l k).length ≤ 8
  | 0 => by simp [upto]
  | k + 1 => fold_le _ (upto_le own l k)

theorem ways_upto (own : Int) (l : List Pl) : ways own l = upto own l 3 := by
  simp only [ways, upto, List.foldl_append]

theorem upto_full (own : Int) (l : List Pl) {k : Nat} (h : (upto own l (k + 1)).length = 8) (hk : k ≤ 2) : upto own l (k + 1) = ways own l := by
  rw [ways_upto]
  have : k = 0 ∨ k = 1 ∨ k = 2 := by omega
  rcases this with rfl | rfl | rfl
  · show _ = (l.filter (kindB own 2)).foldl step ((l.filter (kindB own 1)).foldl step (upto own l 1))
    rw [fold8 h, fold8 h]
  · show _ = (l.filter (kindB own 2)).foldl step (upto own l 2)
    rw [fold8 h]
  · rfl

theorem ways_wp {own : Int} {l : List Pl} {K : List Pl → Prop} (hl : l.length ≤ 9223372036854775000) (hK : K (ways own l)) : path_Ways_wp own l K := by
  unfold path_Ways_wp
  refine joinP1.i ⟨fun n out t => 0 ≤ t ∧ t ≤ 3 ∧ n = 3 - t.toNat ∧ out = upto own l t.toNat, ⟨_, by omega, by omega, rfl, rfl⟩, ?_⟩
  rintro n out t ⟨h0, h1, rfl, rfl⟩
  refine cond_d (fun hlt => ⟨h0, hlt, ?_⟩) (fun hge => ?_)
  · have main : ∀ (k : Nat) (Y1 : Pl → Unit → (Bool → Unit → Prop) → Prop), k ≤ 2 → t = (k : Int) → (∀ x (K : Bool → Unit → Prop), K (isB own k x) () → Y1 x () K) →
        path_some_c1_wp (0, upto own l t.toNat) (fun (x_6 : Pl) (s_2 : Nat × (List Pl)) K_3 => s_2.1 = 0 ∧ (cond ((((s_2.2.length : Nat) : Int) : Int) == 8) (K_3 false (1, s_2.2)) (slices_Contains_sl_api_Place_api_Place_wp s_2.2 x_6.1 x_6.2.1 x_6.2.2.1 x_6.2.2.2 (fun (r : Bool) => cond (!r) ((s_2.2.length + [x_6].length) * 32 ≤ 140737488355328 ∧ (K_3 true (0, (s_2.2 ++ [x_6])))) (K_3 true (0, s_2.2)))))) l () Y1
          (fun (s_3 : (Nat × (List Pl))) (s_4 : (Unit)) => (s_3.1 = 0 ∧ (∃ (n_6 : Nat), n_6 < 3 - t.toNat ∧ 0 ≤ IntKind.wrap .i64 (t + 1) ∧ IntKind.wrap .i64 (t + 1) ≤ 3 ∧ n_6 = 3 - (IntKind.wrap .i64 (t + 1)).toNat ∧ s_3.2 = upto own l (IntKind.wrap .i64 (t + 1)).toNat)) ∨ (s_3.1 ≠ 0 ∧ (K s_3.2))) := by
      intro k Y1 hk ht hY
      have et : t.toNat = k := by omega
      refine some_wp (fun s => s.1 = 0 ∧ s.2.length ≤ 8) (isB own k) rf hl hY (fun x s K hs h => yield_wp hs.1 hs.2 h) rf_inv ⟨rfl, upto_le _ _ _⟩ ?_
      rw [kindB_is own k hk]
      obtain ⟨e1, e2⟩ := run_rf (kindB own k) l (upto own l t.toNat) (upto_le _ _ _)
      have e3 : (l.filter (kindB own k)).foldl step (upto own l t.toNat) = upto own l (k + 1) := by rw [et]; rfl
      rw [e3] at e1 e2
      rcases e2 with e2 | ⟨e2, e4⟩
      · left
        refine ⟨e2, ?_⟩
        rw [wrap_i64 (by omega) (by omega), e1, show (t + 1).toNat = k + 1 by omega]
        exact ⟨_, by omega, by omega, by omega, rfl, rfl⟩
      · right
        refine ⟨e2, ?_⟩
        rw [e1, upto_full own l e4 hk]
        exact hK
    refine ⟨fun h => ?_, fun h => ?_, fun h => ?_⟩
    · exact main 0 _ (by omega) h (fun x K hx => c1_wp (own := own) hx)
    · exact main 1 _ (by omega) h (fun x K hx => c2_wp hx)
    · exact main 2 _ (by omega) h (fun x K hx => c3_wp (own := own) hx)
  · rw [show t.toNat = 3 by omega, ← ways_upto]
    exact hK

end Go.Proofs.Ytjlmpfoaiaolhaa
