/-
  The engine, part V: what the library's functions on slices answer, over whatever elements.
-/
import Derived.Test.YtnmdnkmemjfoeaaEngT
namespace Go.Eng
open Go
section
variable {α σ : Type}
/-- slices.IndexFunc. -/
def indexFuncW (s : List α) (s1 : σ) (Y : α → σ → (Bool → σ → Prop) → Prop) (K : Int → σ → Prop) : Prop :=
  ∃ (I : Nat → Int → σ → Prop), (∃ (n : Nat), I n 0 s1) ∧ ∀ (n : Nat) (t8 : Int) (s3 : σ), I n t8 s3 → (cond (decide ((t8 : Int) < ((s.length : Nat) : Int))) (0 ≤ (t8 : Int) ∧ (t8 : Int) < ((s.length : Nat) : Int) ∧ (∀ (x : α), s[Int.toNat t8]? = some x → (Y x s3 (fun (t16 : Bool) (s4 : σ) => cond t16 (K t8 s4) (∃ (n3 : Nat), n3 < n ∧ I n3 (IntKind.wrap .i64 (t8 + 1)) s4))))) (K (-1) s3))
theorem idx_cases {α : Type} (f : α → Bool) (s : List α) : (idx f s = -1 ∧ ∀ x ∈ s, f x = false) ∨ ∃ i : Nat, idx f s = i ∧ i < s.length ∧ (∀ (h : i < s.length), f s[i] = true) ∧ ∀ j (h : j < s.length), j < i → f s[j] = false := by
  unfold idx
  cases h : s.findIdx? f with
  | none => left; exact ⟨rfl, fun x hx => by simpa using List.findIdx?_eq_none_iff.1 h x hx⟩
  | some i =>
    right
    obtain ⟨h1, h2, h3⟩ := List.findIdx?_eq_some_iff_getElem.1 h
    exact ⟨i, rfl, h1, fun _ => h2, fun j hj hji => by simpa using h3 j hji⟩
/-- How far it goes. -/
def idxEnd (f : α → Bool) (s : List α) : Nat := match s.findIdx? f with
  | some i => i + 1
  | none => s.length
theorem indexFuncS {s : List α} {Y : α → σ → (Bool → σ → Prop) → Prop} {K : Int → σ → Prop} (f : α → Bool) (st : Nat → σ)
    (hY : ∀ (i : Nat) (h : i < s.length) (K : Bool → σ → Prop), K (f s[i]) (st (i + 1)) → Y s[i] (st i) K)
    (hl : s.length ≤ 9223372036854775807) (hK : K (idx f s) (st (idxEnd f s))) : indexFuncW s (st 0) Y K := by
  unfold indexFuncW
  refine ⟨fun n i s' => s' = st i.toNat ∧ 0 ≤ i ∧ i ≤ s.length ∧ n = s.length - i.toNat ∧ ∀ j (h : j < s.length), j < i.toNat → f s[j] = false, ⟨_, rfl, by omega, by omega, rfl, by omega⟩, ?_⟩
  rintro n i s' ⟨rfl, h0, h1, rfl, hj⟩
  refine cond_d (fun hlt => ?_) (fun hge => ?_)
  · have hi : i.toNat < s.length := by omega
    refine ⟨h0, hlt, fun x hx => ?_⟩
    rw [List.getElem?_eq_getElem hi] at hx
    cases hx
    refine hY _ hi _ ?_
    refine cond_b (fun hf => ?_) (fun hf => ?_)
    · have hfi : s.findIdx? f = some i.toNat := List.findIdx?_eq_some_iff_getElem.2 ⟨hi, hf, fun j hj' => by simpa using hj j (by omega) hj'⟩
      have e1 : idx f s = i := by unfold idx; rw [hfi]; simp only; omega
      have e2 : idxEnd f s = i.toNat + 1 := by unfold idxEnd; rw [hfi]
      rw [e1, e2] at hK
      exact hK
    · refine ⟨_, ?_, ?_, ?_, ?_, rfl, ?_⟩
      all_goals rw [wrap_i64 (by omega) (by omega)]
      · omega
      · rw [show (i + 1).toNat = i.toNat + 1 by omega]
      · omega
      · omega
      · intro j h hj'
        by_cases e : j = i.toNat
        · subst e; exact hf
        · exact hj j h (by omega)
  · have hn : s.findIdx? f = none := by
      rw [List.findIdx?_eq_none_iff]
      intro x hx
      obtain ⟨j, h, rfl⟩ := List.getElem_of_mem hx
      exact hj j h (by omega)
    have e1 : idx f s = -1 := by unfold idx; rw [hn]
    have e2 : idxEnd f s = s.length := by unfold idxEnd; rw [hn]
    rw [e1, e2] at hK
    rw [show i.toNat = s.length by omega]
    exact hK
theorem indexFuncC {s : List α} {st : σ} {Y : α → σ → (Bool → σ → Prop) → Prop} {K : Int → σ → Prop} (f : α → Bool) (hY : ∀ x ∈ s, ∀ K : Bool → σ → Prop, K (f x) st → Y x st K)
    (hl : s.length ≤ 9223372036854775807) (hK : K (idx f s) st) : indexFuncW s st Y K :=
  indexFuncS f (fun _ => st) (fun i h K hk => hY _ (List.getElem_mem h) K hk) hl hK
/-- slices.DeleteFunc. -/
def deleteFuncW (x0 : α) (s : List α) (s1 : σ) (Y : α → σ → (Bool → σ → Prop) → Prop) (K : List α → σ → Prop) : Prop :=
  indexFuncW s s1 Y (fun (r : Int) (s3 : σ) => cond ((r : Int) == (-1)) (K s s3) (joinP3 (fun (s4 : List α) (i5 : Int) (s5 : σ) => 0 ≤ (i5 : Int) ∧ (i5 : Int) ≤ ((s.length : Nat) : Int) ∧ (0 ≤ (i5 : Int) ∧ (i5 : Int) ≤ ((s.length : Nat) : Int) ∧ (K ((((s4.take (Int.toNat i5)) ++ List.replicate (s.length - (Int.toNat i5)) x0 ++ (s4.drop s.length)).take (Int.toNat i5)).drop 0) s5))) (fun (Q : List α → Int → σ → Prop) => ∃ (I : Nat → List α → Int → Int → σ → Prop), (∃ (n : Nat), I n s r (IntKind.wrap .i64 (r + 1)) s3) ∧ ∀ (n2 : Nat) (s6 : List α) (i51 : Int) (j6 : Int) (s7 : σ), I n2 s6 i51 j6 s7 → (cond (decide ((j6 : Int) < ((s.length : Nat) : Int))) (0 ≤ (j6 : Int) ∧ (j6 : Int) < ((s.length : Nat) : Int) ∧ (∀ (x1 : α), s6[Int.toNat j6]? = some x1 → (Y x1 s7 (fun (t28 : Bool) (s8 : σ) => cond (!t28) (0 ≤ (i51 : Int) ∧ (i51 : Int) < ((s.length : Nat) : Int) ∧ (∃ (n3 : Nat), n3 < n2 ∧ I n3 (List.set s6 (Int.toNat i51) x1) (IntKind.wrap .i64 (i51 + 1)) (IntKind.wrap .i64 (j6 + 1)) s8)) (∃ (n4 : Nat), n4 < n2 ∧ I n4 s6 i51 (IntKind.wrap .i64 (j6 + 1)) s8))))) (Q s6 i51 s7)))))
theorem deleteFuncS {x0 : α} {s : List α} {Y : α → σ → (Bool → σ → Prop) → Prop} {K : List α → σ → Prop} (f : α → Bool) (st : Nat → σ)
    (hY : ∀ (i : Nat) (h : i < s.length) (K : Bool → σ → Prop), K (f s[i]) (st (i + 1)) → Y s[i] (st i) K)
    (hl : s.length ≤ 9223372036854775000) (hK : K (s.filter fun x => !(f x)) (st s.length)) : deleteFuncW x0 s (st 0) Y K := by
  unfold deleteFuncW
  refine indexFuncS f st hY (by omega) ?_
  rcases idx_cases f s with ⟨e, hall⟩ | ⟨i, e, hi, hfi, hfj⟩
  · have e2 : idxEnd f s = s.length := by
      unfold idxEnd
      rw [List.findIdx?_eq_none_iff.2 hall]
    rw [e, e2]
    refine cond_t rfl ?_
    rwa [List.filter_eq_self.2 (fun x hx => by simp [hall x hx])] at hK
  · have e2 : idxEnd f s = i + 1 := by
      unfold idxEnd
      rw [List.findIdx?_eq_some_iff_getElem.2 ⟨hi, hfi hi, fun j hj' => by simpa using hfj j (by omega) hj'⟩]
    rw [e, e2]
    refine cond_e (fun h => by omega) (fun _ => ?_)
    have hpre : (s.take i).filter (fun x => !(f x)) = s.take i := by
      rw [List.filter_eq_self]
      intro x hx
      obtain ⟨j, hj, rfl⟩ := List.getElem_of_mem hx
      rw [List.length_take] at hj
      rw [List.getElem_take, hfj j (by omega) (by omega)]
      rfl
    refine ⟨fun m a st' => st' = st s.length ∧ 0 ≤ a ∧ a ≤ s.length ∧ m.length = s.length ∧ m.take a.toNat = s.filter (fun x => !(f x)), ?_, ?_⟩
    · rintro m a st' ⟨rfl, h0, h1, hm, ht⟩
      refine ⟨h0, h1, h0, h1, ?_⟩
      rw [List.drop_zero, List.append_assoc, List.take_append_of_le_length (by simp; omega), List.take_take, Nat.min_self, ht]
      exact hK
    · rw [wrap_i64 (x := (i : Int) + 1) (by omega) (by omega)]
      refine ⟨fun n m a j st' => st' = st j.toNat ∧ n = s.length - j.toNat ∧ 0 ≤ a ∧ a < j ∧ j ≤ s.length ∧ m.length = s.length ∧ m.take a.toNat = (s.take j.toNat).filter (fun x => !(f x)) ∧ m.drop j.toNat = s.drop j.toNat,
        ⟨s.length - (i + 1), by rw [show ((i : Int) + 1).toNat = i + 1 by omega], by omega, by omega, by omega, by omega, rfl, ?_, rfl⟩, ?_⟩
      · have : ((i : Int) + 1).toNat = i + 1 := by omega
        rw [this, show ((i : Int)).toNat = i by omega, List.take_succ_eq_append_getElem hi, List.filter_append, hpre]
        simp [hfi hi]
      · rintro n m a j st' ⟨rfl, rfl, h0, h1, h2, hm, ht, hd⟩
        refine cond_d (fun hlt => ?_) (fun hge => ?_)
        · have hj : j.toNat < s.length := by omega
          have hx' : m[j.toNat]? = some s[j.toNat] := by
            have := congrArg (fun l => l[0]?) hd
            simp only [List.getElem?_drop, Nat.add_zero] at this
            rw [this, List.getElem?_eq_getElem hj]
          refine ⟨by omega, hlt, fun x hx => ?_⟩
          rw [hx'] at hx
          cases hx
          refine hY _ hj _ ?_
          have hnext : s.take (j + 1).toNat = s.take j.toNat ++ [s[j.toNat]] := by
            rw [show (j + 1).toNat = j.toNat + 1 by omega, List.take_succ_eq_append_getElem hj]
          have hdrop : ∀ m' : List α, m'.drop j.toNat = s.drop j.toNat → m'.drop (j + 1).toNat = s.drop (j + 1).toNat := by
            intro m' h
            rw [show (j + 1).toNat = j.toNat + 1 by omega, ← List.drop_drop, ← List.drop_drop, h]
          have hst : st (j.toNat + 1) = st (j + 1).toNat := by rw [show (j + 1).toNat = j.toNat + 1 by omega]
          rw [wrap_i64 (x := j + 1) (by omega) (by omega)]
          cases hf : f s[j.toNat] with
          | true =>
            refine cond_f rfl ⟨_, ?_, hst, rfl, h0, by omega, by omega, hm, ?_, hdrop m hd⟩
            · omega
            · rw [hnext, List.filter_append, ← ht]; simp [hf]
          | false =>
            rw [wrap_i64 (x := a + 1) (by omega) (by omega)]
            refine cond_t rfl ⟨h0, by omega, _, ?_, hst, rfl, by omega, by omega, by omega, by simpa using hm, ?_, hdrop _ ?_⟩
            · omega
            · rw [hnext, List.filter_append, ← ht, show (a + 1).toNat = a.toNat + 1 by omega, List.take_succ_eq_append_getElem (by simp; omega)]
              simp [hf, List.take_set, List.getElem_set]
              rw [List.set_eq_of_length_le (by simp; omega)]
            · rw [List.drop_set_of_lt (by omega)]; exact hd
        · have : j.toNat = s.length := by omega
          rw [this, List.take_length] at ht
          exact ⟨by rw [this], h0, by omega, hm, ht⟩
theorem deleteFuncC {x0 : α} {s : List α} {st : σ} {Y : α → σ → (Bool → σ → Prop) → Prop} {K : List α → σ → Prop} (f : α → Bool) (hY : ∀ x ∈ s, ∀ K : Bool → σ → Prop, K (f x) st → Y x st K)
    (hl : s.length ≤ 9223372036854775000) (hK : K (s.filter fun x => !(f x)) st) : deleteFuncW x0 s st Y K :=
  deleteFuncS f (fun _ => st) (fun i h K hk => hY _ (List.getElem_mem h) K hk) hl hK
end
end Go.Eng
