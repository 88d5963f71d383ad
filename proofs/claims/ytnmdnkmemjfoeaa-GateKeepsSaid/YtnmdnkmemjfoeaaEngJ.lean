/-
  The engine, part J: maps as lists of pairs: what looks, updates and deletions answer.
-/
import Derived.Test.YtnmdnkmemjfoeaaEngU
import Derived.Test.YtnmdnkmemjfoeaaEngP
namespace Go.Eng
open Go
theorem nd_idx {α : Type} : ∀ {l : List α}, l.Nodup → ∀ {i j : Nat} {a : α}, l[i]? = some a → l[j]? = some a → i = j
  | [], _, i, j, a, h, _ => by simp at h
  | x :: l, hn, 0, 0, a, _, _ => rfl
  | x :: l, hn, 0, j + 1, a, h1, h2 => by
    simp only [List.nodup_cons] at hn
    simp only [List.getElem?_cons_zero, Option.some.injEq, List.getElem?_cons_succ] at h1 h2
    subst h1
    exact absurd (List.mem_of_getElem? h2) hn.1
  | x :: l, hn, i + 1, 0, a, h1, h2 => by
    simp only [List.nodup_cons] at hn
    simp only [List.getElem?_cons_zero, Option.some.injEq, List.getElem?_cons_succ] at h1 h2
    subst h2
    exact absurd (List.mem_of_getElem? h1) hn.1
  | x :: l, hn, i + 1, j + 1, a, h1, h2 => by
    simp only [List.nodup_cons] at hn
    simp only [List.getElem?_cons_succ] at h1 h2
    rw [nd_idx hn.2 h1 h2]
section
variable {κ υ : Type}
/-- No key comes twice. -/
def KN (m : List (κ × υ)) : Prop := (m.map fun x => x.1).Nodup
theorem KN.inj {m : List (κ × υ)} (h : KN m) {k : κ} {v w : υ} (h1 : (k, v) ∈ m) (h2 : (k, w) ∈ m) : v = w := by
  induction m with
  | nil => simp at h1
  | cons a m ih =>
    unfold KN at h
    simp only [List.map_cons, List.nodup_cons] at h
    rcases List.mem_cons.1 h1 with e1 | h1 <;> rcases List.mem_cons.1 h2 with e2 | h2
    · rw [← e1] at e2; exact (Prod.ext_iff.1 e2).2.symm
    · exact absurd (List.mem_map.2 ⟨_, h2, rfl⟩) (by rw [← e1] at h; exact h.1)
    · exact absurd (List.mem_map.2 ⟨_, h1, rfl⟩) (by rw [← e2] at h; exact h.1)
    · exact ih h.2 h1 h2
theorem KN.nil : KN ([] : List (κ × υ)) := List.nodup_nil
end
section
variable {κ υ : Type} [DecidableEq κ]
theorem mapI_none_iff {m : List (κ × υ)} {k : κ} : mapI m k = none ↔ ∀ x ∈ m, x.1 ≠ k := by
  unfold mapI
  rw [List.findIdx?_eq_none_iff]
  constructor
  · intro h x hx e
    have := h x hx
    simp at this
    exact this e.symm
  · intro h x hx
    simp
    exact fun e => h x hx e.symm
theorem mapI_spec {m : List (κ × υ)} {k : κ} {i : Nat} (h : mapI m k = some i) : ∃ v, m[i]? = some (k, v) := by
  obtain ⟨v, h, -⟩ := mapI_some h
  exact ⟨v, h⟩
theorem mapHas_iff {m : List (κ × υ)} {k : κ} : mapHas m k = true ↔ ∃ v, (k, v) ∈ m := by
  unfold mapHas
  cases h : mapI m k with
  | none =>
    rw [mapI_none_iff] at h
    simp only [Option.isSome_none, Bool.false_eq_true, false_iff]
    rintro ⟨v, hv⟩
    exact h _ hv rfl
  | some i =>
    obtain ⟨v, hv⟩ := mapI_spec h
    simp only [Option.isSome_some, true_iff]
    exact ⟨v, List.mem_of_getElem? hv⟩
theorem mapGet_mem {m : List (κ × υ)} (hn : KN m) {k : κ} {v d : υ} (h : (k, v) ∈ m) : mapGet m k d = v := by
  unfold mapGet
  cases hi : mapI m k with
  | none => exact absurd rfl (mapI_none_iff.1 hi _ h)
  | some i =>
    obtain ⟨w, hw⟩ := mapI_spec hi
    simp only [Option.bind_some, hw, Option.map_some, Option.getD_some]
    exact hn.inj (List.mem_of_getElem? hw) h
theorem mapGet_none {m : List (κ × υ)} {k : κ} {d : υ} (h : mapHas m k = false) : mapGet m k d = d := by
  unfold mapHas at h
  unfold mapGet
  cases hi : mapI m k with
  | none => rfl
  | some i => rw [hi] at h; cases h
/-- What an update puts in. -/
theorem mem_put {m : List (κ × υ)} (hn : KN m) {k k' : κ} {v v' : υ} : (k', v') ∈ mapPut m k v ↔ (k' = k ∧ v' = v) ∨ (k' ≠ k ∧ (k', v') ∈ m) := by
  unfold mapPut
  cases hi : mapI m k with
  | none =>
    rw [mapI_none_iff] at hi
    simp only [List.mem_append, List.mem_cons, List.not_mem_nil, or_false, Prod.mk.injEq]
    constructor
    · rintro (h | h)
      · exact .inr ⟨hi _ h, h⟩
      · exact .inl h
    · rintro (h | h)
      · exact .inr h
      · exact .inl h.2
  | some i =>
    obtain ⟨w, hw⟩ := mapI_spec hi
    have hil : i < m.length := (List.getElem?_eq_some_iff.1 hw).1
    simp only []
    constructor
    · intro h
      obtain ⟨j, hj⟩ := List.getElem?_of_mem h
      rw [List.getElem?_set] at hj
      by_cases e : i = j
      · subst e
        simp only [if_true, hil] at hj
        exact .inl (by simpa [eq_comm] using hj)
      · rw [if_neg e] at hj
        refine .inr ⟨fun hk => ?_, List.mem_of_getElem? hj⟩
        subst hk
        have hjl := (List.getElem?_eq_some_iff.1 hj).1
        have h1 : (m.map fun x => x.1)[i]? = some k' := by rw [List.getElem?_map, hw]; rfl
        have h2 : (m.map fun x => x.1)[j]? = some k' := by rw [List.getElem?_map, hj]; rfl
        exact e (nd_idx hn h1 h2)
    · rintro (⟨rfl, rfl⟩ | ⟨hne, h⟩)
      · exact List.mem_of_getElem? (i := i) (by rw [List.getElem?_set]; simp [hil])
      · obtain ⟨j, hj⟩ := List.getElem?_of_mem h
        have e : i ≠ j := fun e => by
          subst e
          rw [hw] at hj
          cases hj
          exact hne rfl
        exact List.mem_of_getElem? (i := j) (by rw [List.getElem?_set, if_neg e]; exact hj)
theorem keys_put {m : List (κ × υ)} {k : κ} {v : υ} : (mapPut m k v).map (fun x => x.1) = if mapHas m k then m.map (fun x => x.1) else m.map (fun x => x.1) ++ [k] := by
  unfold mapPut mapHas
  cases hi : mapI m k with
  | none => simp
  | some i =>
    obtain ⟨w, hw⟩ := mapI_spec hi
    simp only [Option.isSome_some, if_true]
    rw [List.map_set]
    apply List.ext_getElem?
    intro j
    rw [List.getElem?_set]
    by_cases e : i = j
    · subst e
      have hil : i < m.length := (List.getElem?_eq_some_iff.1 hw).1
      rw [List.getElem?_map, hw]
      simp [hil]
    · simp [e]
theorem KN.put {m : List (κ × υ)} (h : KN m) (k : κ) (v : υ) : KN (mapPut m k v) := by
  unfold KN
  rw [keys_put]
  split
  · exact h
  · rename_i hk
    rw [List.nodup_append]
    refine ⟨h, by simp, fun a ha b hb => ?_⟩
    simp only [List.mem_cons, List.not_mem_nil, or_false] at hb
    subst hb
    rintro rfl
    obtain ⟨x, hx, rfl⟩ := List.mem_map.1 ha
    exact hk (mapHas_iff.2 ⟨x.2, hx⟩)
theorem mapHas_put {m : List (κ × υ)} (hn : KN m) {k k' : κ} {v : υ} : mapHas (mapPut m k v) k' = (decide (k' = k) || mapHas m k') := by
  rw [Bool.eq_iff_iff]
  simp only [mapHas_iff, Bool.or_eq_true, decide_eq_true_eq]
  constructor
  · rintro ⟨v', h⟩
    rcases (mem_put hn).1 h with ⟨rfl, -⟩ | ⟨-, h⟩
    · exact .inl rfl
    · exact .inr ⟨v', h⟩
  · rintro (rfl | ⟨v', h⟩)
    · exact ⟨v, (mem_put hn).2 (.inl ⟨rfl, rfl⟩)⟩
    · by_cases e : k' = k
      · subst e; exact ⟨v, (mem_put hn).2 (.inl ⟨rfl, rfl⟩)⟩
      · exact ⟨v', (mem_put hn).2 (.inr ⟨e, h⟩)⟩
theorem mapGet_put {m : List (κ × υ)} (hn : KN m) {k k' : κ} {v d : υ} : mapGet (mapPut m k v) k' d = if k' = k then v else mapGet m k' d := by
  split
  · rename_i e
    subst e
    exact mapGet_mem (hn.put _ _) ((mem_put hn).2 (.inl ⟨rfl, rfl⟩))
  · rename_i e
    cases h : mapHas m k' with
    | false =>
      rw [mapGet_none h]
      refine mapGet_none ?_
      rw [mapHas_put hn, h]
      simp [e]
    | true =>
      obtain ⟨w, hw⟩ := mapHas_iff.1 h
      rw [mapGet_mem hn hw]
      exact mapGet_mem (hn.put _ _) ((mem_put hn).2 (.inr ⟨e, hw⟩))
end
end Go.Eng
