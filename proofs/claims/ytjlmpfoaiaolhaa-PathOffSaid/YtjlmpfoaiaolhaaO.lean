/- The plain side: the walkers. -/
import Derived.Test.YtjlmpfoaiaolhaaN
namespace Go.Proofs.Ytjlmpfoaiaolhaa
open Go Go.Eng

abbrev KW := Int → Int → Int → Bool → Bool → Int → Int → Int → Int → Int → Bool → Int → Prop

theorem time_wp {now : Int} {K : Bool → Prop} (hK : K (decide (0 ≤ now ∧ now ≤ 1099511627776))) : path_mayTime_wp now K := by
  unfold path_mayTime_wp
  refine cond_d (fun a => ?_) (fun a => ?_)
  all_goals refine dec_key hK _ ?_
  all_goals simp only [decide_eq_true_eq, Bool.false_eq_true]
  all_goals constructor <;> intro hh <;> first | omega | exact hh.elim

theorem rtime_wp {now : Int} {K : Bool → Prop} (hK : K (decide (0 ≤ now ∧ now ≤ 1099511627776))) : embrasureref29_time_wp now K := time_wp hK

/-- What a try answers and leaves. -/
def tryK (L : List Pl) (now i : Int) (K : KW) : Prop :=
  (i ≥ L.length → K 0 0 0 false false i 4 0 0 0 false 0) ∧ (∀ x : Pl, i < L.length → L[i.toNat]? = some x → K x.1 x.2.1 x.2.2.1 x.2.2.2 true i 1 x.1 x.2.1 x.2.2.1 x.2.2.2 (now + 10))

theorem try_wp {L : List Pl} {a b c d e now i : Int} {v : Bool} {f : Int} {K : KW} (h0 : 0 ≤ i) (hn : 0 ≤ now ∧ now ≤ 1099511627776) (hK : tryK L now i K) : path_Walker_try_wp L a b c d e v f now i K := by
  unfold path_Walker_try_wp
  refine cond_d (fun h => hK.1 h) (fun h => ⟨h0, by omega, fun x hx => ⟨h0, by omega, fun y hy => ?_⟩⟩)
  rw [hx] at hy
  cases hy
  rw [wrap_i64 (by omega) (by omega)]
  exact hK.2 x (by omega) hx

theorem rtry_wp {L : List Pl} {a b c d e now i : Int} {v : Bool} {f : Int} {K : KW} (h0 : 0 ≤ i) (hn : 0 ≤ now ∧ now ≤ 1099511627776) (hK : tryK L now i K) : embrasureref29_Walker_try_wp L a b c d e v f now i K := by
  unfold embrasureref29_Walker_try_wp
  refine cond_d (fun h => hK.1 h) (fun h => ⟨h0, by omega, fun x hx => ⟨h0, by omega, fun y hy => ?_⟩⟩)
  rw [hx] at hy
  cases hy
  rw [wrap_i64 (by omega) (by omega)]
  exact hK.2 x (by omega) hx

section
variable {L : List Pl} {at_ s b0 b1 b2 nx now : Int} {bv : Bool} {K : KW}

/-- Start, told by cases. -/
def startK (L : List Pl) (at_ s b0 b1 b2 : Int) (bv : Bool) (nx now : Int) (K : KW) : Prop :=
  ((0 ≤ now ∧ now ≤ 1099511627776) ∧ (s = 0 ∨ s = 4) → tryK L now 0 K) ∧ (¬ ((0 ≤ now ∧ now ≤ 1099511627776) ∧ (s = 0 ∨ s = 4)) → K 0 0 0 false false at_ s b0 b1 b2 bv nx)
def tickK (L : List Pl) (at_ s b0 b1 b2 : Int) (bv : Bool) (nx now : Int) (K : KW) : Prop :=
  ((0 ≤ now ∧ now ≤ 1099511627776) ∧ s = 1 ∧ nx ≤ now → tryK L now (at_ + 1) K) ∧ (¬ ((0 ≤ now ∧ now ≤ 1099511627776) ∧ s = 1 ∧ nx ≤ now) → K 0 0 0 false false at_ s b0 b1 b2 bv nx)
def lostK (L : List Pl) (at_ s b0 b1 b2 : Int) (bv : Bool) (nx now : Int) (K : KW) : Prop :=
  ((0 ≤ now ∧ now ≤ 1099511627776) ∧ (s = 2 ∨ s = 3) → tryK L now 0 K) ∧ (¬ ((0 ≤ now ∧ now ≤ 1099511627776) ∧ (s = 2 ∨ s = 3)) → K 0 0 0 false false at_ s b0 b1 b2 bv nx)

theorem start_wp (hK : startK L at_ s b0 b1 b2 bv nx now K) : path_Walker_Start_wp L at_ s b0 b1 b2 bv nx now K := by
  unfold path_Walker_Start_wp
  refine ⟨fun t => (t = true ↔ ¬ ((0 ≤ now ∧ now ≤ 1099511627776) ∧ (s = 0 ∨ s = 4))), fun t ht => ?_, ?_⟩
  · by_cases hq : (0 ≤ now ∧ now ≤ 1099511627776) ∧ (s = 0 ∨ s = 4)
    · exact cond_f (by cases t with | false => rfl | true => exact absurd hq (ht.1 rfl)) (try_wp (by omega) hq.1 (hK.1 hq))
    · exact cond_t (ht.2 hq) (hK.2 hq)
  · refine time_wp (cond_b (fun a => ?_) (fun a => cond_n (fun b => ?_) (fun b => ?_)))
    all_goals simp only [Bool.not_eq_true', decide_eq_false_iff_not, Bool.not_eq_false', decide_eq_true_eq, true_iff, bne_iff_ne, ne_eq, Bool.false_eq_true, false_iff] at *
    all_goals omega

theorem rstart_wp (hK : startK L at_ s b0 b1 b2 bv nx now K) : embrasureref29_Walker_Start_wp L at_ s b0 b1 b2 bv nx now K := by
  unfold embrasureref29_Walker_Start_wp
  refine ⟨fun t => (t = true ↔ ¬ ((0 ≤ now ∧ now ≤ 1099511627776) ∧ (s = 0 ∨ s = 4))), fun t ht => ?_, ?_⟩
  · by_cases hq : (0 ≤ now ∧ now ≤ 1099511627776) ∧ (s = 0 ∨ s = 4)
    · exact cond_f (by cases t with | false => rfl | true => exact absurd hq (ht.1 rfl)) (rtry_wp (by omega) hq.1 (hK.1 hq))
    · exact cond_t (ht.2 hq) (hK.2 hq)
  · refine rtime_wp (cond_b (fun a => ?_) (fun a => cond_n (fun b => ?_) (fun b => ?_)))
    all_goals simp only [Bool.not_eq_true', decide_eq_false_iff_not, Bool.not_eq_false', decide_eq_true_eq, true_iff, bne_iff_ne, ne_eq, Bool.false_eq_true, false_iff] at *
    all_goals omega

theorem tick_wp (h0 : 0 ≤ at_) (h1 : at_ ≤ 1000000) (hK : tickK L at_ s b0 b1 b2 bv nx now K) : path_Walker_Tick_wp L at_ s b0 b1 b2 bv nx now K := by
  unfold path_Walker_Tick_wp
  refine ⟨fun t => (t = true ↔ ¬ ((0 ≤ now ∧ now ≤ 1099511627776) ∧ s = 1 ∧ nx ≤ now)), fun t ht => ?_, ?_⟩
  · by_cases hq : (0 ≤ now ∧ now ≤ 1099511627776) ∧ s = 1 ∧ nx ≤ now
    · rw [wrap_i64 (x := at_ + 1) (by omega) (by omega)]
      exact cond_f (by cases t with | false => rfl | true => exact absurd hq (ht.1 rfl)) (try_wp (by omega) hq.1 (hK.1 hq))
    · exact cond_t (ht.2 hq) (hK.2 hq)
  · refine time_wp (cond_b (fun a => ?_) (fun a => cond_n (fun b => ?_) (fun b => ?_)))
    all_goals simp only [Bool.not_eq_true', decide_eq_false_iff_not, Bool.not_eq_false', decide_eq_true_eq, true_iff, bne_iff_ne, ne_eq, Bool.false_eq_true, false_iff] at *
    all_goals omega

theorem rtick_wp (h0 : 0 ≤ at_) (h1 : at_ ≤ 1000000) (hK : tickK L at_ s b0 b1 b2 bv nx now K) : embrasureref29_Walker_Tick_wp L at_ s b0 b1 b2 bv nx now K := by
  unfold embrasureref29_Walker_Tick_wp
  refine ⟨fun t => (t = true ↔ ¬ ((0 ≤ now ∧ now ≤ 1099511627776) ∧ s = 1 ∧ nx ≤ now)), fun t ht => ?_, ?_⟩
  · by_cases hq : (0 ≤ now ∧ now ≤ 1099511627776) ∧ s = 1 ∧ nx ≤ now
    · rw [wrap_i64 (x := at_ + 1) (by omega) (by omega)]
      exact cond_f (by cases t with | false => rfl | true => exact absurd hq (ht.1 rfl)) (rtry_wp (by omega) hq.1 (hK.1 hq))
    · exact cond_t (ht.2 hq) (hK.2 hq)
  · refine rtime_wp (cond_b (fun a => ?_) (fun a => cond_n (fun b => ?_) (fun b => ?_)))
    all_goals simp only [Bool.not_eq_true', decide_eq_false_iff_not, Bool.not_eq_false', decide_eq_true_eq, true_iff, bne_iff_ne, ne_eq, Bool.false_eq_true, false_iff] at *
    all_goals omega

theorem lost_wp (hK : lostK L at_ s b0 b1 b2 bv nx now K) : path_Walker_Lost_wp L at_ s b0 b1 b2 bv nx now K := by
  unfold path_Walker_Lost_wp
  refine ⟨fun t => (t = true ↔ ¬ ((0 ≤ now ∧ now ≤ 1099511627776) ∧ (s = 2 ∨ s = 3))), fun t ht => ?_, ?_⟩
  · by_cases hq : (0 ≤ now ∧ now ≤ 1099511627776) ∧ (s = 2 ∨ s = 3)
    · exact cond_f (by cases t with | false => rfl | true => exact absurd hq (ht.1 rfl)) (try_wp (by omega) hq.1 (hK.1 hq))
    · exact cond_t (ht.2 hq) (hK.2 hq)
  · refine time_wp (cond_b (fun a => ?_) (fun a => cond_n (fun b => ?_) (fun b => ?_)))
    all_goals simp only [Bool.not_eq_true', decide_eq_false_iff_not, Bool.not_eq_false', decide_eq_true_eq, true_iff, bne_iff_ne, ne_eq, Bool.false_eq_true, false_iff] at *
    all_goals omega

theorem rlost_wp (hK : lostK L at_ s b0 b1 b2 bv nx now K) : embrasureref29_Walker_Lost_wp L at_ s b0 b1 b2 bv nx now K := by
  unfold embrasureref29_Walker_Lost_wp
  refine ⟨fun t => (t = true ↔ ¬ ((0 ≤ now ∧ now ≤ 1099511627776) ∧ (s = 2 ∨ s = 3))), fun t ht => ?_, ?_⟩
  · by_cases hq : (0 ≤ now ∧ now ≤ 1099511627776) ∧ (s = 2 ∨ s = 3)
    · exact cond_f (by cases t with | false => rfl | true => exact absurd hq (ht.1 rfl)) (rtry_wp (by omega) hq.1 (hK.1 hq))
    · exact cond_t (ht.2 hq) (hK.2 hq)
  · refine rtime_wp (cond_b (fun a => ?_) (fun a => cond_n (fun b => ?_) (fun b => ?_)))
    all_goals simp only [Bool.not_eq_true', decide_eq_false_iff_not, Bool.not_eq_false', decide_eq_true_eq, true_iff, bne_iff_ne, ne_eq, Bool.false_eq_true, false_iff] at *
    all_goals omega

theorem open_wp {K : Bool → Int → Int → Prop} (h1 : (0 ≤ now ∧ now ≤ 1099511627776) ∧ s = 1 → K true (if bv then 3 else 2) 0) (h2 : ¬ ((0 ≤ now ∧ now ≤ 1099511627776) ∧ s = 1) → K false s nx) : path_Walker_Open_wp at_ s b0 b1 b2 bv nx now K := by
  unfold path_Walker_Open_wp
  refine ⟨fun t => (t = true ↔ ¬ ((0 ≤ now ∧ now ≤ 1099511627776) ∧ s = 1)), fun t ht => ?_, ?_⟩
  · by_cases hq : (0 ≤ now ∧ now ≤ 1099511627776) ∧ s = 1
    · have h1 := h1 hq
      refine cond_f (by cases t with | false => rfl | true => exact absurd hq (ht.1 rfl)) (cond_b (fun b => ?_) (fun b => ?_))
      · rw [b] at h1; exact h1
      · rw [b] at h1; exact h1
    · exact cond_t (ht.2 hq) (h2 hq)
  · refine time_wp (cond_b (fun a => ?_) (fun a => ?_))
    all_goals simp only [Bool.not_eq_true', decide_eq_false_iff_not, Bool.not_eq_false', decide_eq_true_eq, true_iff, bne_iff_ne, ne_eq, Bool.false_eq_true, false_iff] at *
    all_goals omega

theorem punched_wp {h p : Int} {K : Bool → Int → Int → Int → Int → Bool → Int → Prop} (h0 : 0 ≤ h) (h1 : (0 ≤ now ∧ now ≤ 1099511627776) ∧ s = 3 ∧ mayP h p → K true 2 h p 0 false 0) (h2 : ¬ ((0 ≤ now ∧ now ≤ 1099511627776) ∧ s = 3 ∧ mayP h p) → K false s b0 b1 b2 bv nx) :
    path_Walker_Punched_wp at_ s b0 b1 b2 bv nx now h p K := by
  unfold path_Walker_Punched_wp
  refine ⟨fun t => (t = true ↔ ¬ ((0 ≤ now ∧ now ≤ 1099511627776) ∧ s = 3 ∧ mayP h p)), fun t ht => ?_, ?_⟩
  · by_cases hq : (0 ≤ now ∧ now ≤ 1099511627776) ∧ s = 3 ∧ mayP h p
    · exact cond_f (by cases t with | false => rfl | true => exact absurd hq (ht.1 rfl)) (h1 hq)
    · exact cond_t (ht.2 hq) (h2 hq)
  · refine time_wp (cond_b (fun a => ?_) (fun a => cond_n (fun b => ?_) (fun b => may_wp ?_)))
    all_goals simp only [Bool.not_eq_true', decide_eq_false_iff_not, Bool.not_eq_false', decide_eq_true_eq, true_iff, bne_iff_ne, ne_eq] at *
    · exact fun q => a q.1
    · exact fun q => b q.2.1
    · exact ⟨fun z q => z q.2.2, fun z q => z ⟨a, b, q⟩⟩

theorem ropen_wp {K : Bool → Int → Int → Prop} (h1 : (0 ≤ now ∧ now ≤ 1099511627776) ∧ s = 1 → K true (if bv then 3 else 2) 0) (h2 : ¬ ((0 ≤ now ∧ now ≤ 1099511627776) ∧ s = 1) → K false s nx) : embrasureref29_Walker_Open_wp at_ s b0 b1 b2 bv nx now K := by
  unfold embrasureref29_Walker_Open_wp
  refine ⟨fun t => (t = true ↔ ¬ ((0 ≤ now ∧ now ≤ 1099511627776) ∧ s = 1)), fun t ht => ?_, ?_⟩
  · by_cases hq : (0 ≤ now ∧ now ≤ 1099511627776) ∧ s = 1
    · have h1 := h1 hq
      refine cond_f (by cases t with | false => rfl | true => exact absurd hq (ht.1 rfl)) (cond_b (fun b => ?_) (fun b => ?_))
      · rw [b] at h1; exact h1
      · rw [b] at h1; exact h1
    · exact cond_t (ht.2 hq) (h2 hq)
  · refine rtime_wp (cond_b (fun a => ?_) (fun a => ?_))
    all_goals simp only [Bool.not_eq_true', decide_eq_false_iff_not, Bool.not_eq_false', decide_eq_true_eq, true_iff, bne_iff_ne, ne_eq, Bool.false_eq_true, false_iff] at *
    all_goals omega

theorem rpunched_wp {h p : Int} {K : Bool → Int → Int → Int → Int → Bool → Int → Prop} (h0 : 0 ≤ h) (h1 : (0 ≤ now ∧ now ≤ 1099511627776) ∧ s = 3 ∧ mayP h p → K true 2 h p 0 false 0) (h2 : ¬ ((0 ≤ now ∧ now ≤ 1099511627776) ∧ s = 3 ∧ mayP h p) → K false s b0 b1 b2 bv nx) :
    embrasureref29_Walker_Punched_wp at_ s b0 b1 b2 bv nx now h p K := by
  unfold embrasureref29_Walker_Punched_wp
  refine ⟨fun t => (t = true ↔ ¬ ((0 ≤ now ∧ now ≤ 1099511627776) ∧ s = 3 ∧ mayP h p)), fun t ht => ?_, ?_⟩
  · by_cases hq : (0 ≤ now ∧ now ≤ 1099511627776) ∧ s = 3 ∧ mayP h p
    · exact cond_f (by cases t with | false => rfl | true => exact absurd hq (ht.1 rfl)) (h1 hq)
    · exact cond_t (ht.2 hq) (h2 hq)
  · refine rtime_wp (cond_b (fun a => ?_) (fun a => cond_n (fun b => ?_) (fun b => rmay_wp h0 ?_)))
    all_goals simp only [Bool.not_eq_true', decide_eq_false_iff_not, Bool.not_eq_false', decide_eq_true_eq, true_iff, bne_iff_ne, ne_eq] at *
    · exact fun q => a q.1
    · exact fun q => b q.2.1
    · exact ⟨fun z q => z q.2.2, fun z q => z ⟨a, b, q⟩⟩

end
end Go.Proofs.Ytjlmpfoaiaolhaa
