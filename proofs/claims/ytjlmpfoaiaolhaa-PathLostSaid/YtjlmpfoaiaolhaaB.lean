/- The plain side: lists without repetition. -/
import Derived.Test.YtjlmpfoaiaolhaaA
namespace Go.Proofs.Ytjlmpfoaiaolhaa
open Go Go.Eng

def add1 (o : List Pl) (x : Pl) : List Pl := if x ∈ o then o else o ++ [x]
def dd (l : List Pl) : List Pl := l.foldl add1 []

theorem fold_add_mem (l : List Pl) : ∀ (o : List Pl) (x : Pl), x ∈ l.foldl add1 o ↔ x ∈ o ∨ x ∈ l := by
  induction l with
  | nil => intro o x; simp
  | cons y l ih =>
    intro o x
    rw [List.foldl_cons, ih]
    unfold add1
    split
    · rename_i h
      constructor
      · rintro (a | a)
        · exact .inl a
        · exact .inr (by simp [a])
      · rintro (a | a)
        · exact .inl a
        · rcases List.mem_cons.1 a with rfl | a
          · exact .inl h
          · exact .inr a
    · simp [or_assoc]

theorem fold_add_sub {l : List Pl} : ∀ {o : List Pl}, (∀ x ∈ l, x ∈ o) → l.foldl add1 o = o := by
  induction l with
  | nil => intro o _; rfl
  | cons y l ih =>
    intro o h
    rw [List.foldl_cons]
    have : add1 o y = o := by unfold add1; rw [if_pos (h y (by simp))]
    rw [this]
    exact ih fun x hx => h x (by simp [hx])


theorem add_prefix (l : List Pl) : ∀ (o : List Pl), ∃ t, l.foldl add1 o = o ++ t := by
  induction l with
  | nil => intro o; exact ⟨[], by simp⟩
  | cons y l ih =>
    intro o
    rw [List.foldl_cons]
    obtain ⟨t, ht⟩ := ih (add1 o y)
    unfold add1 at ht ⊢
    split at ht
    · rename_i h; rw [if_pos h]; exact ⟨t, ht⟩
    · rename_i h; rw [if_neg h]; exact ⟨[y] ++ t, by rw [ht, List.append_assoc]⟩

theorem fold_step (l : List Pl) : ∀ (o : List Pl), o.length ≤ 8 → l.foldl step o = (l.foldl add1 o).take 8 := by
  induction l with
  | nil => intro o h; rw [List.foldl_nil, List.foldl_nil, List.take_of_length_le h]
  | cons y l ih =>
    intro o h
    rw [List.foldl_cons, List.foldl_cons]
    by_cases h8 : o.length = 8
    · have e : step o y = o := by unfold step; rw [if_pos h8]
      rw [e, fold8 h8]
      obtain ⟨t, ht⟩ := add_prefix l (add1 o y)
      obtain ⟨t2, ht2⟩ : ∃ t2, add1 o y = o ++ t2 := by
        unfold add1; split
        · exact ⟨[], by simp⟩
        · exact ⟨[y], rfl⟩
      rw [ht, ht2, List.append_assoc, List.take_append_of_le_length (by omega), List.take_of_length_le (by omega)]
    · have e : step o y = add1 o y := by unfold step add1; rw [if_neg h8]
      rw [e]
      refine ih _ ?_
      unfold add1
      split
      · omega
      · rw [List.length_append, List.length_singleton]; omega

theorem ways_dd (own : Int) (l : List Pl) : ways own l = (dd ((l.filter (kindB own 0) ++ l.filter (kindB own 1)) ++ l.filter (kindB own 2))).take 8 := fold_step _ [] (by simp)

theorem fold_add_disj (l : List Pl) : ∀ (o p : List Pl), (∀ x ∈ l, x ∉ o) → l.foldl add1 (o ++ p) = o ++ l.foldl add1 p := by
  induction l with
  | nil => intro o p _; rfl
  | cons y l ih =>
    intro o p h
    rw [List.foldl_cons, List.foldl_cons]
    have hy : y ∉ o := h y (by simp)
    have e : add1 (o ++ p) y = o ++ add1 p y := by
      unfold add1
      by_cases hp : y ∈ p
      · rw [if_pos (by simp [hp]), if_pos hp]
      · rw [if_neg (by simp [hy, hp]), if_neg hp, List.append_assoc]
    rw [e]
    exact ih o _ fun x hx => h x (by simp [hx])

theorem dd_app {a b : List Pl} (h : ∀ x ∈ b, x ∉ a) : dd (a ++ b) = dd a ++ dd b := by
  unfold dd
  rw [List.foldl_append]
  have := fold_add_disj b (a.foldl add1 []) [] (fun x hx hm => h x hx (by
    have := (fold_add_mem a [] x).1 hm
    simpa using this))
  rwa [List.append_nil] at this

theorem dd_twice (a : List Pl) : dd (a ++ a) = dd a := by
  unfold dd
  rw [List.foldl_append]
  exact fold_add_sub fun x hx => (fold_add_mem a [] x).2 (.inr hx)

theorem dd_mem {a : List Pl} {x : Pl} : x ∈ dd a ↔ x ∈ a := by
  unfold dd
  rw [fold_add_mem]
  simp

theorem dd_nodup (l : List Pl) : ∀ (o : List Pl), o.Nodup → (l.foldl add1 o).Nodup := by
  induction l with
  | nil => intro o h; exact h
  | cons y l ih =>
    intro o h
    rw [List.foldl_cons]
    refine ih _ ?_
    unfold add1
    split
    · exact h
    · rename_i hy
      rw [List.nodup_append]
      refine ⟨h, by simp, ?_⟩
      intro a ha b hb hab
      simp at hb
      subst hb
      subst hab
      exact hy ha

theorem dd_self (l : List Pl) : ∀ (o : List Pl), (o ++ l).Nodup → l.foldl add1 o = o ++ l := by
  induction l with
  | nil => intro o _; simp
  | cons y l ih =>
    intro o h
    rw [List.foldl_cons]
    have hy : y ∉ o := fun hm => by
      rw [List.nodup_append] at h
      exact h.2.2 y hm y (by simp) rfl
    have e : add1 o y = o ++ [y] := by unfold add1; rw [if_neg hy]
    rw [e, ih _ (by rw [List.append_assoc]; exact h), List.append_assoc]
    rfl

end Go.Proofs.Ytjlmpfoaiaolhaa
