/- The plain side: requests and answers, told and read. -/
import Derived.Test.YtlmkgmgbgjlmcaaP
namespace Go.Proofs.Ytlmkgmgbgjlmcaa
open Go Go.Eng

theorem dec_key {P : Prop} [Decidable P] {K : Bool → Prop} (hK : K (decide P)) (b : Bool) (h : b = true ↔ P) : K b := by
  have : b = decide P := by
    cases b with
    | true => exact (decide_eq_true (h.1 rfl)).symm
    | false => exact (decide_eq_false (fun hp => by have := h.2 hp; cases this)).symm
  rwa [this]

def fitsP (i p s r e : Int) : Prop := (0 ≤ i ∧ i ≤ 65535) ∧ (0 ≤ p ∧ p ≤ 65535) ∧ (0 ≤ s ∧ s ≤ 4294967295) ∧ (0 ≤ r ∧ r ≤ 65535) ∧ (0 ≤ e ∧ e ≤ 4294967295)
instance (i p s r e : Int) : Decidable (fitsP i p s r e) := by unfold fitsP; infer_instance

theorem fits_wp {v i p s n r e h : Int} {K : Bool → Prop} (hK : K (decide (fitsP i p s r e))) : pmp_fits_wp v i p s n r e h K := by
  unfold pmp_fits_wp
  refine cond_d (fun h1 => cond_d (fun h2 => cond_d (fun h3 => cond_d (fun h4 => cond_d (fun h5 => cond_d (fun h6 => cond_d (fun h7 => cond_d (fun h8 => cond_d (fun h9 => ?_) (fun h9 => ?_)) (fun h8 => ?_)) (fun h7 => ?_)) (fun h6 => ?_)) (fun h5 => ?_)) (fun h4 => ?_)) (fun h3 => ?_)) (fun h2 => ?_)) (fun h1 => ?_)
  all_goals refine dec_key hK _ ?_
  all_goals simp only [fitsP, decide_eq_true_eq, Bool.false_eq_true]
  all_goals constructor <;> intro hh <;> first | omega | exact hh.elim

def zeroP (v n r e h : Int) : Prop := v = 0 ∧ n = 0 ∧ r = 0 ∧ e = 0 ∧ h = 0
def askP (v i p s n r e h : Int) (host : Bool) : Prop := fitsP i p s r e ∧ (v = 0 ∧ n = 0 ∧ r = 0 ∧ e = 0 ∧ h = 0) ∧ (host = true → i = 0 ∧ p = 0 ∧ s = 0)
instance (v i p s n r e h : Int) (host : Bool) : Decidable (askP v i p s n r e h host) := by unfold askP; infer_instance

theorem mayAsk_wp {v i p s n r e h : Int} {host : Bool} {K : Bool → Prop} (hK : K (decide (askP v i p s n r e h host))) : pmp_mayAsk_wp v i p s n r e h host K := by
  unfold pmp_mayAsk_wp
  refine fits_wp ?_
  refine cond_b (fun h1 => cond_b (fun h2 => cond_b (fun h3 => ?_) (fun h3 => ?_)) (fun h2 => ?_)) (fun h1 => ?_)
  all_goals refine dec_key hK _ ?_
  all_goals simp [askP] at *
  · exact ⟨h1, h2, by simp [h3]⟩
  · subst h3
    constructor
    · intro h; exact ⟨h1, by omega, by omega⟩
    · intro h; have := h.2.1; have := h.2.2 rfl; omega
  · intro _ a b c d e; exfalso; simp_all
  · intro h; exact absurd h h1

def askF (v i p s n r e h : Int) (host : Bool) : List Int :=
  if askP v i p s n r e h host then (if host then [0, 0] else [0, 1, 0, 0] ++ bigF i 2 ++ bigF p 2 ++ bigF s 4) else []

theorem ask_wp {v i p s n r e h : Int} {host : Bool} {K : List Int → Prop} (hK : K (askF v i p s n r e h host)) : pmp_Ask_wp v i p s n r e h host K := by
  unfold pmp_Ask_wp
  refine mayAsk_wp ?_
  unfold askF at hK
  refine cond_b (fun h1 => ?_) (fun h1 => ?_)
  · have : ¬ askP v i p s n r e h host := by simpa using h1
    rwa [if_neg this] at hK
  · have : askP v i p s n r e h host := by simpa using h1
    rw [if_pos this] at hK
    refine cond_b (fun h2 => ?_) (fun h2 => ?_)
    · rw [if_pos h2] at hK
      exact row_wp (by omega) (by omega) (by simp) (by simp) (by simpa using hK)
    · rw [if_neg (by simp [h2])] at hK
      refine short_wp (short_wp (short_wp (long_wp (row_wp (by omega) (by omega) (by simp) (by simp [bigF_len]) ?_))))
      simpa [bigF] using hK

theorem rfits_wp {v i p s n r e h : Int} {K : Bool → Prop} (hK : K (decide (v = 0 ∧ n = 0 ∧ fitsP i p s r e))) : embrasureref09_fits_wp v i p s n r e h K := by
  unfold embrasureref09_fits_wp embrasureref09_in_wp
  refine cond_e (fun a1 => cond_e (fun a2 => ?_) (fun a2 => ?_)) (fun a1 => ?_)
  · refine cond_d (fun b1 => cond_b (fun c1 => ?_) (fun c1 => ?_)) (fun b1 => cond_f rfl ?_)
    · refine cond_d (fun b2 => cond_b (fun c2 => ?_) (fun c2 => ?_)) (fun b2 => cond_f rfl ?_)
      · refine cond_d (fun b3 => cond_b (fun c3 => ?_) (fun c3 => ?_)) (fun b3 => cond_f rfl ?_)
        · refine cond_d (fun b4 => cond_b (fun c4 => ?_) (fun c4 => ?_)) (fun b4 => cond_f rfl ?_)
          · refine cond_d (fun b5 => ?_) (fun b5 => ?_)
            all_goals refine dec_key hK _ ?_
            all_goals simp [fitsP] at *
            all_goals omega
          all_goals refine dec_key hK _ ?_
          all_goals simp [fitsP] at *
          all_goals omega
        all_goals refine dec_key hK _ ?_
        all_goals simp [fitsP] at *
        all_goals omega
      all_goals refine dec_key hK _ ?_
      all_goals simp [fitsP] at *
      all_goals omega
    all_goals refine dec_key hK _ ?_
    all_goals simp [fitsP] at *
    all_goals omega
  all_goals refine dec_key hK _ ?_
  all_goals simp [fitsP] at *
  all_goals omega

theorem none_wp {v i p s n r e h : Int} {K : Bool → Prop} (hK : K (decide (i = 0 ∧ p = 0 ∧ s = 0))) : embrasureref09_none_wp v i p s n r e h K := by
  unfold embrasureref09_none_wp
  refine cond_e (fun a1 => cond_e (fun a2 => ?_) (fun a2 => ?_)) (fun a1 => ?_)
  all_goals refine dec_key hK _ ?_
  all_goals simp at *
  all_goals omega

theorem rask_wp {v i p s n r e h : Int} {host : Bool} {K : List Int → Prop} (hK : K (askF v i p s n r e h host)) : embrasureref09_Ask_wp v i p s n r e h host K := by
  unfold embrasureref09_Ask_wp
  refine ⟨askP v i p s n r e h host, fun hq => ?_, joinP1.i ?_⟩
  · unfold askF at hK
    rw [if_pos hq] at hK
    refine cond_b (fun h2 => ?_) (fun h2 => ?_)
    · rwa [if_pos h2] at hK
    · rw [if_neg (by simp [h2])] at hK
      have hf := hq.1
      unfold fitsP at hf
      constructor
      all_goals
        refine big_wp (k := 2) (by omega) (by omega) (by omega) ⟨by simp [bigF_len], big_wp (k := 2) (by omega) (by omega) (by omega) ⟨by simp [bigF_len], big_wp (k := 4) (by omega) (by omega) (by omega) ⟨by simp [bigF_len], hK⟩⟩⟩
  · refine rfits_wp ?_
    have hN : ¬ askP v i p s n r e h host → K [] := fun h => by unfold askF at hK; rwa [if_neg h] at hK
    refine cond_b (fun h1 => cond_t rfl (hN fun hq => ?_)) (fun h1 => ?_)
    · have h1 : ¬ v = 0 ∨ ¬ n = 0 ∨ ¬ fitsP i p s r e := by simpa using h1
      rcases h1 with a | a | a
      · exact a hq.2.1.1
      · exact a hq.2.1.2.1
      · exact a hq.1
    · refine cond_n (fun h2 => cond_t rfl (hN fun hq => ?_)) (fun h2 => ?_)
      · exact h2 hq.2.1.2.2.1
      refine cond_n (fun h3 => cond_t rfl (hN fun hq => ?_)) (fun h3 => ?_)
      · exact h3 hq.2.1.2.2.2.1
      refine cond_n (fun h4 => cond_t rfl (hN fun hq => ?_)) (fun h4 => ?_)
      · exact h4 hq.2.1.2.2.2.2
      simp at h1
      refine cond_b (fun h5 => none_wp ?_) (fun h5 => cond_f rfl ?_)
      · refine cond_b (fun h6 => hN fun hq => ?_) (fun h6 => ?_)
        · have := hq.2.2 h5; simp at h6; omega
        · simp at h6
          exact ⟨h1.2.2, ⟨h1.1, h1.2.1, h2, h3, h4⟩, fun _ => h6⟩
      · exact ⟨h1.2.2, ⟨h1.1, h1.2.1, h2, h3, h4⟩, fun h => by rw [h5] at h; cases h⟩

/-! ### Answers -/

def ansP (v i p s n r e h : Int) (host : Bool) : Prop := fitsP i p s r e ∧ (v = 0 ∧ n = 0) ∧ (host = true → i = 0 ∧ p = 0 ∧ s = 0) ∧ (host = false → h = 0)
instance (v i p s n r e h : Int) (host : Bool) : Decidable (ansP v i p s n r e h host) := by unfold ansP; infer_instance

theorem mayAnswer_wp {v i p s n r e h : Int} {host : Bool} {K : Bool → Prop} (hK : K (decide (ansP v i p s n r e h host))) : pmp_mayAnswer_wp v i p s n r e h host K := by
  unfold pmp_mayAnswer_wp
  refine joinP4.i ?_
  refine cond_b (fun h0 => ?_) (fun h0 => ?_)
  all_goals subst h0; refine fits_wp (cond_b (fun h1 => ?_) (fun h1 => ?_))
  all_goals refine dec_key hK _ ?_
  all_goals simp [ansP] at *
  · constructor
    · intro h; exact ⟨h1, by omega, by omega⟩
    · intro h; omega
  · intro h; exact absurd h h1
  · constructor
    · intro h; exact ⟨h1, by omega, by omega⟩
    · intro h; omega
  · intro h; exact absurd h h1

def ansF (v i p s n r e h : Int) (host : Bool) : List Int :=
  if ansP v i p s n r e h host then (if host then [0, 128] ++ bigF r 2 ++ bigF e 4 ++ bigF h 4 else [0, 129] ++ bigF r 2 ++ bigF e 4 ++ bigF i 2 ++ bigF p 2 ++ bigF s 4) else []

theorem answer_wp {v i p s n r e h : Int} {host : Bool} {K : List Int → Prop} (h0 : 0 ≤ h) (h1 : h ≤ 4294967295) (hK : K (ansF v i p s n r e h host)) : pmp_Answer_wp v i p s n r e h host K := by
  unfold pmp_Answer_wp
  refine mayAnswer_wp ?_
  unfold ansF at hK
  refine cond_b (fun h1 => ?_) (fun h1 => ?_)
  · have : ¬ ansP v i p s n r e h host := by simpa using h1
    rwa [if_neg this] at hK
  · have : ansP v i p s n r e h host := by simpa using h1
    rw [if_pos this] at hK
    refine cond_b (fun h2 => ?_) (fun h2 => ?_)
    · rw [if_pos h2] at hK
      rw [wrap_i64 (x := h) (by omega) (by omega)]
      refine short_wp (long_wp (long_wp (row_wp (by omega) (by omega) (by simp) (by simp [bigF_len]) ?_)))
      simpa using hK
    · rw [if_neg (by simp [h2])] at hK
      refine short_wp (long_wp (short_wp (short_wp (long_wp (row_wp (by omega) (by omega) (by simp) (by simp [bigF_len]) ?_)))))
      simpa using hK

theorem ranswer_wp {v i p s n r e h : Int} {host : Bool} {K : List Int → Prop} (h0 : 0 ≤ h) (h1 : h ≤ 4294967295) (hK : K (ansF v i p s n r e h host)) : embrasureref09_Answer_wp v i p s n r e h host K := by
  unfold embrasureref09_Answer_wp
  refine ⟨ansP v i p s n r e h host, fun hq => ?_, joinP1.i ?_⟩
  · unfold ansF at hK
    rw [if_pos hq] at hK
    have hf := hq.1
    unfold fitsP at hf
    rw [wrap_i64 (x := h) (by omega) (by omega)]
    refine cond_b (fun h2 => ?_) (fun h2 => ?_)
    · rw [if_pos h2] at hK
      constructor
      all_goals
        refine big_wp (k := 2) (by omega) (by omega) (by omega) ⟨by simp [bigF_len], big_wp (k := 4) (by omega) (by omega) (by omega) ⟨by simp [bigF_len], big_wp (k := 4) (by omega) (by omega) (by omega) ⟨by simp [bigF_len], hK⟩⟩⟩
    · rw [if_neg (by simp [h2])] at hK
      refine joinP1.i ?_
      constructor
      all_goals
        refine big_wp (k := 2) (by omega) (by omega) (by omega) ⟨by simp [bigF_len], big_wp (k := 4) (by omega) (by omega) (by omega) ⟨by simp [bigF_len], big_wp (k := 2) (by omega) (by omega) (by omega) ⟨by simp [bigF_len], ?_⟩⟩⟩
        refine big_wp (k := 2) (by omega) (by omega) (by omega) ⟨by simp [bigF_len], big_wp (k := 4) (by omega) (by omega) (by omega) ⟨by simp [bigF_len], hK⟩⟩
  · refine rfits_wp ?_
    have hN : ¬ ansP v i p s n r e h host → K [] := fun h => by unfold ansF at hK; rwa [if_neg h] at hK
    refine cond_b (fun h1 => cond_t rfl (hN fun hq => ?_)) (fun h1 => ?_)
    · have h1 : ¬ v = 0 ∨ ¬ n = 0 ∨ ¬ fitsP i p s r e := by simpa using h1
      rcases h1 with a | a | a
      · exact a hq.2.1.1
      · exact a hq.2.1.2
      · exact a hq.1
    · simp at h1
      refine cond_b (fun h5 => none_wp ?_) (fun h5 => ?_)
      · refine cond_b (fun h6 => cond_t rfl (hN fun hq => ?_)) (fun h6 => ?_)
        · have := hq.2.2.1 h5; simp at h6; omega
        · simp at h6
          refine cond_f (by simp [h5]) (cond_f rfl ?_)
          exact ⟨h1.2.2, ⟨h1.1, h1.2.1⟩, fun _ => h6, fun h => by rw [h5] at h; cases h⟩
      · refine cond_t (by simp [h5]) ?_
        refine cond_n (fun h6 => hN fun hq => h6 (hq.2.2.2 h5)) (fun h6 => ?_)
        exact ⟨h1.2.2, ⟨h1.1, h1.2.1⟩, fun h => (by rw [h5] at h; cases h), fun _ => h6⟩

end Go.Proofs.Ytlmkgmgbgjlmcaa
