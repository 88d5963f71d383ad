/-
  The engine, part J: maps as lists of pairs: what looks, updates and deletions answer.
-/
import Derived.Test.YtdonkmbhlankiaaEngU
import Derived.Test.YtdonkmbhlankiaaEngP
namespace Go.Eng
open Go

theorem nd_idx {α : Type} : ∀ {l : List α}, l.Nodup → ∀ {i j : Nat} {a : α}, l[i]? = some a → l[j]? = some a → i = j
  | [], _, i, j, a, h, _ => by simp at h
  | x :: l, hn, 0, 0, a, _, _ => rfl
  | x :: l, hn, 0, j + 1, a, h1, h2 => by
    simp only [List.nodup_cons] at hn
    simp only [List.getElem?_cons_zero, Option.some.injEq, List.getElem?_cons_succ] at h1 h2
    subst h1
    exact absurd (List.mem_of_getElem? h2) hn.1
  | x :: l, hn, i + 1, 0, a, h1, h2 => by
    simp only [List.nodup_cons] at hn
    simp only [List.getElem?_cons_zero, Option.some.injEq, List.getElem?_cons_succ] at h1 h2
    subst h2
    exact absurd (List.mem_of_getElem? h1) hn.1
  | x :: l, hn, i + 1, j + 1, a, h1, h2 => by
    simp only [List.nodup_cons] at hn
    simp only [List.getElem?_cons_succ] at h1 h2
    rw [nd_idx hn.2 h1 h2]

section
variable {κ υ : Type}

/-- No key comes twice. -/
def KN (m : List (κ × υ)) : Prop := (m.map fun x => x.1).Nodup

theorem KN.inj {m : List (κ × υ)} (h : KN m) {k : κ} {v w : υ} (h1 : (k, v) ∈ m) (h2 : (k, w) ∈ m) : v = w := by
  induction m with
  | nil => simp at h1
  | cons a m ih =>
    unfold KN at h
    simp only [List.map_cons, List.nodup_cons] at h
    rcases List.mem_cons.1 h1 with e1 | h1 <;> rcases List.mem_cons.1 h2 with e2 | h2
    · rw [← e1] at e2; exact (Prod.ext_iff.1 e2).2.symm
    · exact absurd (List.mem_map.2 ⟨_, h2, rfl⟩) (by rw [← e1] at h; exact h.1)
    · exact absurd (List.mem_map.2 ⟨_, h1, rfl⟩) (by rw [← e2] at h; exact h.1)
    · exact ih h.2 h1 h2

theorem KN.nil : KN ([] : List (κ × υ)) := List.nodup_nil

end

section
variable {κ υ : Type} [DecidableEq κ]

theorem mapI_none_iff {m : List (κ × υ)} {k : κ} : mapI m k = none ↔ ∀ x ∈ m, x.1 ≠ k := by
  unfold mapI
  rw [List.findIdx?_eq_none_iff]
  constructor
  · intro h x hx e
    have := h x hx
    simp at this
    exact this e.symm
  · intro h x hx
    simp
    exact fun e => h x hx e.symm

theorem mapI_spec {m : List (κ × υ)} {k : κ} {i : Nat} (h : mapI m k = some i) : ∃ v, m[i]? = some (k, v) := by
  obtain ⟨v, h, -⟩ := mapI_some h
  exact ⟨v, h⟩

theorem mapHas_iff {m : List (κ × υ)} {k : κ} : mapHas m k = true ↔ ∃ v, (k, v) ∈ m := by
  unfold mapHas
  cases h : mapI m k with
  | none =>
    rw [mapI_none_iff] at h
    simp only [Option.isSome_none, Bool.false_eq_true, false_iff]
    rintro ⟨v, hv⟩
    exact h _ hv rfl
  | some i =>
    obtain ⟨v, hv⟩ := mapI_spec h
    simp only [Option.isSome_some, true_iff]
    exact ⟨v, List.mem_of_getElem? hv⟩

theorem mapGet_mem {m : List (κ × υ)} (hn : KN m) {k : κ} {v d : υ} (h : (k, v) ∈ m) : mapGet m k d = v := by
  unfold mapGet
  cases hi : mapI m k with
  | none => exact absurd rfl (mapI_none_iff.1 hi _ h)
  | some i =>
    obtain ⟨w, hw⟩ := mapI_spec hi
    simp only [Option.bind_some, hw, Option.map_some, Option.getD_some]
    exact hn.inj (List.mem_of_getElem? hw) h

theorem mapGet_none {m : List (κ × υ)} {k : κ} {d : υ} (h : mapHas m k = false) : mapGet m k d = d := by
  unfold mapHas at h
  unfold mapGet
  cases hi : mapI m k with
  | none => rfl
  | some i => rw [hi] at h; cases h

/-- What an update puts in. -/
theorem mem_put {m : List (κ × υ)} (hn : KN m) {k k' : κ} {v v' : υ} : (k', v') ∈ mapPut m k v ↔ (k' = k ∧ v' = v) ∨ (k' ≠ k ∧ (k', v') ∈ m) := by
  unfold mapPut
  cases hi : mapI m k with
  | none =>
    rw [mapI_none_iff] at hi
    simp only [List.mem_append, List.mem_cons, List.not_mem_nil, or_false, Prod.mk.injEq]
    constructor
    · rintro (h | h)
      · exact .inr ⟨hi _ h, h⟩
      · exact .inl h
    · rintro (h | h)
      · exact .inr h
      · exact .inl h.2
  | some i =>
    obtain ⟨w, hw⟩ := mapI_spec hi
    have hil : i < m.length := (List.getElem?_eq_some_iff.1 hw).1
    simp only []
    constructor
    · intro h
      obtain ⟨j, hj⟩ := List.getElem?_of_mem h
      rw [List.getElem?_set] at hj
      by_cases e : i = j
      · subst e
        simp only [if_true, hil] at hj
        exact .inl (by simpa [eq_comm] using hj)
      · rw [if_neg e] at hj
        refine .inr ⟨fun hk => ?_, List.mem_of_getElem? hj⟩
        subst hk
        have hjl := (List.getElem?_eq_some_iff.1 hj).1
        have h1 : (m.map fun x => x.1)[i]? = some k' := by rw [List.getElem?_map, hw]; rfl
        have h2 : (m.map fun x => x.1)[j]? = some k' := by rw [List.getElem?_map, hj]; rfl
        exact e (nd_idx hn h1 h2)
    · rintro (⟨rfl, rfl⟩ | ⟨hne, h⟩)
      · exact List.mem_of_getElem? (i := i) (by rw [List.getElem?_set]; simp [hil])
      · obtain ⟨j, hj⟩ := List.getElem?_of_mem h
        have e : i ≠ j := fun e => by
          subst e
          rw [hw] at hj
          cases hj
          exact hne rfl
        exact List.mem_of_getElem? (i := j) (by rw [List.getElem?_set, if_neg e]; exact hj)

theorem keys_put {m : List (κ × υ)} {k : κ} {v : υ} : (mapPut m k v).map (fun x => x.1) = if mapHas m k then m.map (fun x => x.1) else m.map (fun x => x.1) ++ [k] := by
  unfold mapPut mapHas
  cases hi : mapI m k with
  | none => simp
  | some i =>
    obtain ⟨w, hw⟩ := mapI_spec hi
    simp only [Option.isSome_some, if_true]
    rw [List.map_set]
    apply List.ext_getElem?
    intro j
    rw [List.getElem?_set]
    by_cases e : i = j
    · subst e
      have hil : i < m.length := (List.getElem?_eq_some_iff.1 hw).1
      rw [List.getElem?_map, hw]
      simp [hil]
    · simp [e]

theorem KN.put {m : List (κ × υ)} (h : KN m) (k : κ) (v : υ) : KN (mapPut m k v) := by
  unfold KN
  rw [keys_put]
  split
  · exact h
  · rename_i hk
    rw [List.nodup_append]
    refine ⟨h, by simp, fun a ha b hb => ?_⟩
    simp only [List.mem_cons, List.not_mem_nil, or_false] at hb
    subst hb
    rintro rfl
    obtain ⟨x, hx, rfl⟩ := List.mem_map.1 ha
    exact hk (mapHas_iff.2 ⟨x.2, hx⟩)

theorem mapHas_put {m : List (κ × υ)} (hn : KN m) {k k' : κ} {v : υ} : mapHas (mapPut m k v) k' = (decide (k' = k) || mapHas m k') := by
  rw [Bool.eq_iff_iff]
  simp only [mapHas_iff, Bool.or_eq_true, decide_eq_true_eq]
  constructor
  · rintro ⟨v', h⟩
    rcases (mem_put hn).1 h with ⟨rfl, -⟩ | ⟨-, h⟩
    · exact .inl rfl
    · exact .inr ⟨v', h⟩
  · rintro (rfl | ⟨v', h⟩)
    · exact ⟨v, (mem_put hn).2 (.inl ⟨rfl, rfl⟩)⟩
    · by_cases e : k' = k
      · subst e; exact ⟨v, (mem_put hn).2 (.inl ⟨rfl, rfl⟩)⟩
      · exact ⟨v', (mem_put hn).2 (.inr ⟨e, h⟩)⟩

theorem mapGet_put {m : List (κ × υ)} (hn : KN m) {k k' : κ} {v d : υ} : mapGet (mapPut m k v) k' d = if k' = k then v else mapGet m k' d := by
  split
  · rename_i e
    subst e
    exact mapGet_mem (hn.put _ _) ((mem_put hn).2 (.inl ⟨rfl, rfl⟩))
  · rename_i e
    cases h : mapHas m k' with
    | false =>
      rw [mapGet_none h]
      refine mapGet_none ?_
      rw [mapHas_put hn, h]
      simp [e]
    | true =>
      obtain ⟨w, hw⟩ := mapHas_iff.1 h
      rw [mapGet_mem hn hw]
      exact mapGet_mem (hn.put _ _) ((mem_put hn).2 (.inr ⟨e, hw⟩))

theorem length_put {m : List (κ × υ)} {k : κ} {v : υ} : (mapPut m k v).length = if mapHas m k then m.length else m.length + 1 := by
  have := congrArg List.length (keys_put (m := m) (k := k) (v := v))
  rw [List.length_map] at this
  rw [this]
  split <;> simp

theorem eraseIdx_perm {α : Type} : ∀ (l : List α) (i : Nat) (x : α), l[i]? = some x → l.Perm (x :: l.eraseIdx i)
  | [], i, x, h => by simp at h
  | a :: l, 0, x, h => by simp at h; subst h; exact List.Perm.refl _
  | a :: l, i + 1, x, h => by
    simp only [List.getElem?_cons_succ] at h
    rw [List.eraseIdx_cons_succ]
    exact ((eraseIdx_perm l i x h).cons a).trans (List.Perm.swap x a _)

theorem KN.del {m : List (κ × υ)} (h : KN m) (k : κ) : KN (mapDel m k) := by
  unfold mapDel
  split
  · exact h.sublist ((List.eraseIdx_sublist _ _).map _)
  · exact h

theorem mem_del {m : List (κ × υ)} (hn : KN m) {k k' : κ} {v' : υ} : (k', v') ∈ mapDel m k ↔ k' ≠ k ∧ (k', v') ∈ m := by
  unfold mapDel
  cases hi : mapI m k with
  | none =>
    rw [mapI_none_iff] at hi
    exact ⟨fun h => ⟨hi _ h, h⟩, fun h => h.2⟩
  | some i =>
    obtain ⟨w, hw⟩ := mapI_spec hi
    simp only []
    have hp := eraseIdx_perm m i _ hw
    have hn2 : ((k, w) :: m.eraseIdx i).map (fun x => x.1) |>.Nodup := (hp.map _).nodup_iff.1 hn
    simp only [List.map_cons, List.nodup_cons] at hn2
    constructor
    · intro h
      refine ⟨fun e => ?_, (hp.mem_iff).2 (List.mem_cons_of_mem _ h)⟩
      subst e
      exact hn2.1 (List.mem_map.2 ⟨_, h, rfl⟩)
    · rintro ⟨hne, h⟩
      rcases List.mem_cons.1 (hp.mem_iff.1 h) with e | h
      · cases e; exact absurd rfl hne
      · exact h

theorem mapHas_del {m : List (κ × υ)} (hn : KN m) {k k' : κ} : mapHas (mapDel m k) k' = (!decide (k' = k) && mapHas m k') := by
  rw [Bool.eq_iff_iff]
  simp only [mapHas_iff, Bool.and_eq_true, Bool.not_eq_true', decide_eq_false_iff_not]
  constructor
  · rintro ⟨v', h⟩
    exact ⟨((mem_del hn).1 h).1, v', ((mem_del hn).1 h).2⟩
  · rintro ⟨h, v', h2⟩
    exact ⟨v', (mem_del hn).2 ⟨h, h2⟩⟩

theorem mapGet_del {m : List (κ × υ)} (hn : KN m) {k k' : κ} {d : υ} : mapGet (mapDel m k) k' d = if k' = k then d else mapGet m k' d := by
  split
  · rename_i e
    subst e
    refine mapGet_none ?_
    rw [mapHas_del hn]
    simp
  · rename_i e
    cases h : mapHas m k' with
    | false =>
      rw [mapGet_none h]
      refine mapGet_none ?_
      rw [mapHas_del hn, h]
      simp
    | true =>
      obtain ⟨w, hw⟩ := mapHas_iff.1 h
      rw [mapGet_mem hn hw]
      exact mapGet_mem (hn.del _) ((mem_del hn).2 ⟨e, hw⟩)

theorem length_del {m : List (κ × υ)} {k : κ} : (mapDel m k).length = if mapHas m k then m.length - 1 else m.length := by
  unfold mapDel mapHas
  cases hi : mapI m k with
  | none => simp
  | some i =>
    obtain ⟨w, hw⟩ := mapI_spec hi
    have hil : i < m.length := (List.getElem?_eq_some_iff.1 hw).1
    simp [List.length_eraseIdx, hil]

end

/-- More without repetition than there are. -/
theorem pigeon {α : Type} [DecidableEq α] : ∀ (s l : List α), s.Nodup → (∀ x ∈ s, x ∈ l) → s.length ≤ l.length
  | [], l, _, _ => Nat.zero_le _
  | a :: s, l, hn, h => by
    simp only [List.nodup_cons] at hn
    have ha := h a (List.mem_cons_self ..)
    have := pigeon s (l.erase a) hn.2 fun x hx => by
      refine (List.mem_erase_of_ne ?_).2 (h x (List.mem_cons_of_mem _ hx))
      rintro rfl
      exact hn.1 hx
    rw [List.length_erase_of_mem ha] at this
    have hl : 0 < l.length := List.length_pos_of_mem ha
    simp only [List.length_cons]
    omega

/-- Two lists in strict order with the same members are the same. -/
theorem sorted_eq {α : Type} {r : α → α → Prop} (hirr : ∀ a, ¬ r a a) (htr : ∀ a b c, r a b → r b c → r a c) : ∀ (xs ys : List α), xs.Pairwise r → ys.Pairwise r → (∀ a, a ∈ xs ↔ a ∈ ys) → xs = ys
  | [], [], _, _, _ => rfl
  | [], y :: ys, _, _, h => absurd ((h y).2 (List.mem_cons_self ..)) (by simp)
  | x :: xs, [], _, _, h => absurd ((h x).1 (List.mem_cons_self ..)) (by simp)
  | x :: xs, y :: ys, hx, hy, h => by
    rw [List.pairwise_cons] at hx hy
    have e : x = y := by
      rcases List.mem_cons.1 ((h x).1 (List.mem_cons_self ..)) with e | hm
      · exact e
      · rcases List.mem_cons.1 ((h y).2 (List.mem_cons_self ..)) with e | hm2
        · exact e.symm
        · exact absurd (htr _ _ _ (hy.1 x hm) (hx.1 y hm2)) (hirr y)
    subst e
    refine congrArg _ (sorted_eq hirr htr xs ys hx.2 hy.2 fun a => ?_)
    have ha := h a
    simp only [List.mem_cons] at ha
    constructor
    · intro hm
      rcases ha.1 (.inr hm) with e | h2
      · subst e; exact absurd (hx.1 a hm) (hirr a)
      · exact h2
    · intro hm
      rcases ha.2 (.inr hm) with e | h2
      · subst e; exact absurd (hy.1 a hm) (hirr a)
      · exact h2

end Go.Eng
