/- The plain side: datagrams read; the statements. -/
import Derived.Test.YtlmkgmgbgjlmcaaQ
namespace Go.Proofs.Ytlmkgmgbgjlmcaa
open Go Go.Eng

def seg (b : List Int) (l h : Nat) : List Int := (b.take h).drop l

theorem seg_bytes {b : List Int} {l h : Nat} (hb : isBytes b) : isBytes (seg b l h) := isBytes_drop _ (isBytes_take _ hb)
theorem seg_len {b : List Int} {l h : Nat} (hl : h ≤ b.length) : (seg b l h).length = h - l := by unfold seg; rw [List.length_drop, List.length_take]; omega
theorem seg_le {b : List Int} {l h : Nat} (hd : h - l ≤ 7) : (seg b l h).length ≤ 7 := by unfold seg; rw [List.length_drop, List.length_take]; omega
theorem num4 {xs : List Int} (hl : xs.length ≤ 4) (hb : isBytes xs) : 0 ≤ num xs ∧ num xs ≤ 4294967295 := by
  have h := num_bound _ xs rfl hb
  revert h
  have : xs.length = 0 ∨ xs.length = 1 ∨ xs.length = 2 ∨ xs.length = 3 ∨ xs.length = 4 := by omega
  rcases this with e | e | e | e | e <;> rw [e] <;> intro h <;> simp at h <;> omega

def rI (b : List Int) : Int := if b.length = 12 then num (seg b 4 6) else 0
def rP (b : List Int) : Int := if b.length = 12 then num (seg b 6 8) else 0
def rS (b : List Int) : Int := if b.length = 12 then num (seg b 8 12) else 0
def raOK (b : List Int) : Prop := (b.length = 2 ∨ b.length = 12) ∧ askF 0 (rI b) (rP b) (rS b) 0 0 0 0 (decide (b.length = 2)) = b

theorem eq_len (b : List Int) (k : Nat) : ((((b.length : Nat) : Int) : Int) == (k : Int)) = decide (b.length = k) := by
  by_cases h : b.length = k
  · subst h; simp
  · rw [decide_eq_false h]; simp; omega

theorem askF_len (v i p s n r e h : Int) (host : Bool) : (askF v i p s n r e h host).length ≤ 12 := by
  unfold askF
  split
  · split <;> simp [bigF_len]
  · simp
theorem ansF_len (v i p s n r e h : Int) (host : Bool) : (ansF v i p s n r e h host).length ≤ 16 := by
  unfold ansF
  split
  · split <;> simp [bigF_len]
  · simp

section
variable {b : List Int} {K : Int → Int → Int → Int → Int → Int → Int → Int → Bool → Int → Prop}

theorem readAsk_wp (hb : isBytes b) (h1 : raOK b → K 0 (rI b) (rP b) (rS b) 0 0 0 0 (decide (b.length = 2)) 0) (h2 : ¬ raOK b → K 0 0 0 0 0 0 0 0 false 3) : pmp_ReadAsk_wp b K := by
  unfold pmp_ReadAsk_wp pmp_read_wp
  have hend : (b.length = 2 ∨ b.length = 12) → slices_Equal_sl_byte_byte_wp (askF 0 (rI b) (rP b) (rS b) 0 0 0 0 (decide (b.length = 2))) b (fun r => cond (!r) (K 0 0 0 0 0 0 0 0 false 3) (K 0 (rI b) (rP b) (rS b) 0 0 0 0 (decide (b.length = 2)) 0)) := by
    intro hl
    refine equal_wp (Nat.le_trans (askF_len _ _ _ _ _ _ _ _ _) (by omega)) (cond_b (fun h => ?_) (fun h => ?_))
    · refine h2 fun hq => ?_
      simp at h
      exact h hq.2
    · refine h1 ⟨hl, ?_⟩
      simpa using h
  refine ⟨b.length = 2 ∨ b.length = 12, fun hq => ?_, joinP1.i ?_⟩
  · have e2 : ((((b.length : Nat) : Int) : Int) == 2) = decide (b.length = 2) := eq_len b 2
    rw [e2]
    dsimp only
    unfold pmp_ReadAsk_c1_wp
    refine cond_b (fun h => ?_) (fun h => ?_)
    · have hl : b.length = 2 := by simpa using h
      refine ask_wp ?_
      have e := hend (.inl hl)
      simp only [rI, rP, rS, hl] at e ⊢
      exact e
    · have hl : b.length = 12 := by rcases hq with h' | h'; · simp [h'] at h
                                    · exact h'
      refine ⟨by omega, by omega, by omega, by omega, by omega, by omega, by omega, by omega, by omega, by omega, by omega, by omega, ?_⟩
      refine get_wp (b := seg b 4 6) (seg_le (by omega)) (seg_bytes hb) (get_wp (b := seg b 6 8) (seg_le (by omega)) (seg_bytes hb) (get_wp (b := seg b 8 12) (seg_le (by omega)) (seg_bytes hb) ?_))
      refine ask_wp ?_
      have e := hend (.inr hl)
      simp only [rI, rP, rS, hl, if_true] at e ⊢
      exact e
  · refine cond_n (fun h => ?_) (fun h => ?_)
    · refine cond_n (fun h' => h2 fun hq => ?_) (fun h' => ?_)
      · rcases hq.1 with a | a <;> omega
      · right; omega
    · refine cond_f rfl ?_
      left; omega

theorem rreadAsk_wp (hb : isBytes b) (h1 : raOK b → K 0 (rI b) (rP b) (rS b) 0 0 0 0 (decide (b.length = 2)) 0) (h2 : ¬ raOK b → K 0 0 0 0 0 0 0 0 false 3) : embrasureref09_ReadAsk_wp b K := by
  unfold embrasureref09_ReadAsk_wp
  refine ⟨fun i p s => i = rI b ∧ p = rP b ∧ s = rS b, ?_, ?_⟩
  · rintro i p s ⟨rfl, rfl, rfl⟩
    have e2 : ((((b.length : Nat) : Int) : Int) == 2) = decide (b.length = 2) := eq_len b 2
    rw [e2]
    refine ⟨fun t => (t = true ↔ ¬ raOK b), ?_, ?_⟩
    · intro t ht
      refine cond_b (fun h => h2 (ht.1 h)) (fun h => h1 ?_)
      by_cases hq : raOK b
      · exact hq
      · have := ht.2 hq; rw [h] at this; cases this
    · have hend : (b.length = 2 ∨ b.length = 12) → embrasureref01_Same_wp (askF 0 (rI b) (rP b) (rS b) 0 0 0 0 (decide (b.length = 2))) b (fun r => ((!r) = true ↔ ¬ raOK b)) := by
        intro hl
        refine same_wp (Nat.le_trans (askF_len _ _ _ _ _ _ _ _ _) (by omega)) ?_
        constructor
        · intro h hq; simp at h; exact h hq.2
        · intro h; simp; intro he; exact h ⟨hl, he⟩
      refine cond_n (fun h => ?_) (fun h => ?_)
      · refine cond_n (fun h' => ?_) (fun h' => ?_)
        · refine ⟨fun _ hq => ?_, fun _ => rfl⟩
          rcases hq.1 with a | a <;> omega
        · exact rask_wp (hend (.inr (by omega)))
      · exact rask_wp (hend (.inl (by omega)))
  · refine cond_e (fun h => ?_) (fun h => ?_)
    · have hl : b.length = 12 := by omega
      refine ⟨by omega, by omega, by omega, by omega, by omega, by omega, by omega, by omega, by omega, by omega, by omega, by omega, ?_⟩
      refine num_wp (b := seg b 4 6) (seg_le (by omega)) (seg_bytes hb) (num_wp (b := seg b 6 8) (seg_le (by omega)) (seg_bytes hb) (num_wp (b := seg b 8 12) (seg_le (by omega)) (seg_bytes hb) ?_))
      simp [rI, rP, rS, hl]
    · have hl : ¬ b.length = 12 := by omega
      simp [rI, rP, rS, hl]

def aR (b : List Int) : Int := num (seg b 2 4)
def aE (b : List Int) : Int := num (seg b 4 8)
def aH (b : List Int) : Int := if b.length = 12 then num (seg b 8 12) else 0
def aI (b : List Int) : Int := if b.length = 12 then 0 else num (seg b 8 10)
def aP (b : List Int) : Int := if b.length = 12 then 0 else num (seg b 10 12)
def aS (b : List Int) : Int := if b.length = 12 then 0 else num (seg b 12 16)
def anOK (b : List Int) : Prop := (b.length = 12 ∨ b.length = 16) ∧ ansF 0 (aI b) (aP b) (aS b) 0 (aR b) (aE b) (aH b) (decide (b.length = 12)) = b

theorem aH_b (hb : isBytes b) : 0 ≤ aH b ∧ aH b ≤ 4294967295 := by
  unfold aH
  split
  · exact num4 (by unfold seg; rw [List.length_drop, List.length_take]; omega) (seg_bytes hb)
  · omega

theorem c1_wp {K : Int → Int → Int → Int → Int → Int → Int → Int → Prop} (hb : isBytes b) (hl : b.length = 12 ∨ b.length = 16) (hK : K 0 (aI b) (aP b) (aS b) 0 (aR b) (aE b) (aH b)) : pmp_ReadAnswer_c1_wp (decide (b.length = 12)) b K := by
  unfold pmp_ReadAnswer_c1_wp
  refine ⟨fun v i p s n r e h => v = 0 ∧ i = 0 ∧ p = 0 ∧ s = 0 ∧ n = 0 ∧ r = aR b ∧ e = aE b ∧ h = 0, ?_, ?_⟩
  · rintro v i p s n r e h ⟨rfl, rfl, rfl, rfl, rfl, rfl, rfl, rfl⟩
    refine joinP4.i (cond_b (fun h => ?_) (fun h => ?_))
    · have hl : b.length = 12 := by simpa using h
      refine ⟨by omega, by omega, by omega, by omega, ?_⟩
      refine get_wp (b := seg b 8 12) (seg_le (by omega)) (seg_bytes hb) ?_
      have := aH_b hb
      simp only [aI, aP, aS, aH, hl, if_true] at hK this
      rw [wrap_u32 this.1 this.2]
      exact hK
    · have hl' : ¬ b.length = 12 := by simpa using h
      refine ⟨by omega, by omega, by omega, by omega, by omega, by omega, by omega, by omega, by omega, by omega, by omega, by omega, ?_⟩
      refine get_wp (b := seg b 8 10) (seg_le (by omega)) (seg_bytes hb) (get_wp (b := seg b 10 12) (seg_le (by omega)) (seg_bytes hb) (get_wp (b := seg b 12 16) (seg_le (by omega)) (seg_bytes hb) ?_))
      simp only [aI, aP, aS, aH, hl', if_false] at hK
      exact hK
  · refine ⟨by omega, by omega, by omega, by omega, by omega, by omega, by omega, by omega, ⟨?_, ?_⟩⟩
    · refine get_wp (b := seg b 2 4) (seg_le (by omega)) (seg_bytes hb) ⟨get_wp (b := seg b 4 8) (seg_le (by omega)) (seg_bytes hb) ?_, get_wp (b := seg b 4 8) (seg_le (by omega)) (seg_bytes hb) ?_⟩
      · exact ⟨rfl, rfl, rfl, rfl, rfl, rfl, rfl, rfl⟩
      · exact ⟨rfl, rfl, rfl, rfl, rfl, rfl, rfl, rfl⟩
    · refine get_wp (b := seg b 2 4) (seg_le (by omega)) (seg_bytes hb) (get_wp (b := seg b 4 8) (seg_le (by omega)) (seg_bytes hb) ?_)
      exact ⟨rfl, rfl, rfl, rfl, rfl, rfl, rfl, rfl⟩

theorem readAns_wp (hb : isBytes b) (h1 : anOK b → K 0 (aI b) (aP b) (aS b) 0 (aR b) (aE b) (aH b) (decide (b.length = 12)) 0) (h2 : ¬ anOK b → K 0 0 0 0 0 0 0 0 false 3) : pmp_ReadAnswer_wp b K := by
  unfold pmp_ReadAnswer_wp pmp_read_wp
  refine ⟨b.length = 12 ∨ b.length = 16, fun hq => ?_, joinP1.i ?_⟩
  · have e2 : ((((b.length : Nat) : Int) : Int) == 12) = decide (b.length = 12) := eq_len b 12
    rw [e2]
    refine c1_wp hb hq (answer_wp (aH_b hb).1 (aH_b hb).2 ?_)
    refine equal_wp (Nat.le_trans (ansF_len _ _ _ _ _ _ _ _ _) (by omega)) (cond_b (fun h => ?_) (fun h => ?_))
    · refine h2 fun hq => ?_
      simp at h
      exact h hq.2
    · refine h1 ⟨hq, ?_⟩
      simpa using h
  · refine cond_n (fun h => ?_) (fun h => ?_)
    · refine cond_n (fun h' => h2 fun hq => ?_) (fun h' => ?_)
      · rcases hq.1 with a | a <;> omega
      · right; omega
    · refine cond_f rfl ?_
      left; omega

theorem rreadAns_wp (hb : isBytes b) (h1 : anOK b → K 0 (aI b) (aP b) (aS b) 0 (aR b) (aE b) (aH b) (decide (b.length = 12)) 0) (h2 : ¬ anOK b → K 0 0 0 0 0 0 0 0 false 3) : embrasureref09_ReadAnswer_wp b K := by
  unfold embrasureref09_ReadAnswer_wp
  have e2 : ((((b.length : Nat) : Int) : Int) == 12) = decide (b.length = 12) := eq_len b 12
  rw [e2]
  refine ⟨b.length = 12 ∨ b.length = 16, fun hq => ?_, joinP1.i ?_⟩
  · refine ⟨fun v i p s n r e h => v = 0 ∧ i = 0 ∧ p = 0 ∧ s = 0 ∧ n = 0 ∧ r = aR b ∧ e = aE b ∧ h = 0, ?_, ?_⟩
    · rintro v i p s n r e h ⟨rfl, rfl, rfl, rfl, rfl, rfl, rfl, rfl⟩
      refine ⟨fun i p s h => i = aI b ∧ p = aP b ∧ s = aS b ∧ h = aH b, ?_, ?_⟩
      · rintro i p s h ⟨rfl, rfl, rfl, rfl⟩
        refine ranswer_wp (aH_b hb).1 (aH_b hb).2 ?_
        refine same_wp (Nat.le_trans (ansF_len _ _ _ _ _ _ _ _ _) (by omega)) (cond_b (fun h => ?_) (fun h => ?_))
        · refine h2 fun hq => ?_
          simp at h
          exact h hq.2
        · refine h1 ⟨hq, ?_⟩
          simpa using h
      · refine cond_b (fun h => ?_) (fun h => ?_)
        · have hl : b.length = 12 := by simpa using h
          refine ⟨by omega, by omega, by omega, by omega, ?_⟩
          refine num_wp (b := seg b 8 12) (seg_le (by omega)) (seg_bytes hb) ?_
          have := aH_b hb
          simp only [aI, aP, aS, aH, hl, if_true] at this ⊢
          rw [wrap_u32 this.1 this.2]
          exact ⟨trivial, trivial, trivial, rfl⟩
        · have hl' : ¬ b.length = 12 := by simpa using h
          refine ⟨by omega, by omega, by omega, by omega, num_wp (b := seg b 8 10) (seg_le (by omega)) (seg_bytes hb) ⟨by omega, by omega, by omega, by omega, num_wp (b := seg b 10 12) (seg_le (by omega)) (seg_bytes hb) ⟨by omega, by omega, by omega, by omega, num_wp (b := seg b 12 16) (seg_le (by omega)) (seg_bytes hb) ?_⟩⟩⟩
          simp [aI, aP, aS, aH, hl']
    · refine ⟨by omega, by omega, by omega, by omega, by omega, by omega, by omega, by omega, ⟨?_, ?_⟩⟩
      · refine num_wp (b := seg b 2 4) (seg_le (by omega)) (seg_bytes hb) ⟨num_wp (b := seg b 4 8) (seg_le (by omega)) (seg_bytes hb) ?_, num_wp (b := seg b 4 8) (seg_le (by omega)) (seg_bytes hb) ?_⟩
        · exact ⟨rfl, rfl, rfl, rfl, rfl, rfl, rfl, rfl⟩
        · exact ⟨rfl, rfl, rfl, rfl, rfl, rfl, rfl, rfl⟩
      · refine num_wp (b := seg b 2 4) (seg_le (by omega)) (seg_bytes hb) (num_wp (b := seg b 4 8) (seg_le (by omega)) (seg_bytes hb) ?_)
        exact ⟨rfl, rfl, rfl, rfl, rfl, rfl, rfl, rfl⟩
  · refine cond_n (fun h => ?_) (fun h => ?_)
    · refine cond_n (fun h' => h2 fun hq => ?_) (fun h' => ?_)
      · rcases hq.1 with a | a <;> omega
      · right; omega
    · refine cond_f rfl ?_
      left; omega

end
end Go.Proofs.Ytlmkgmgbgjlmcaa
