/- The plain side: ways of ways. -/
import Derived.Test.YtjlmpfoaiaolhaaB
namespace Go.Proofs.Ytjlmpfoaiaolhaa
open Go Go.Eng

def fk (own : Int) (l : List Pl) (k : Nat) : List Pl := dd (l.filter (kindB own k))

theorem kind_one {own : Int} {x : Pl} {j k : Nat} (hj : j ≤ 2) (hk : k ≤ 2) (h1 : kindB own j x = true) (h2 : kindB own k x = true) : j = k := by
  have a : j = 0 ∨ j = 1 ∨ j = 2 := by omega
  have b : k = 0 ∨ k = 1 ∨ k = 2 := by omega
  rcases a with rfl | rfl | rfl <;> rcases b with rfl | rfl | rfl <;> simp_all [kindB]

theorem fk_mem {own : Int} {l : List Pl} {k : Nat} {x : Pl} (h : x ∈ fk own l k) : kindB own k x = true := by
  unfold fk at h
  rw [dd_mem, List.mem_filter] at h
  exact h.2

theorem ways_fk (own : Int) (l : List Pl) : ways own l = ((fk own l 0 ++ fk own l 1) ++ fk own l 2).take 8 := by
  rw [ways_dd, dd_app, dd_app]
  · rfl
  · intro x hx hm
    rw [List.mem_filter] at hx hm
    exact absurd (kind_one (by omega) (by omega) hx.2 hm.2) (by omega)
  · intro x hx hm
    rw [List.mem_append, List.mem_filter, List.mem_filter] at hm
    rw [List.mem_filter] at hx
    rcases hm with hm | hm
    · exact absurd (kind_one (by omega) (by omega) hx.2 hm.2) (by omega)
    · exact absurd (kind_one (by omega) (by omega) hx.2 hm.2) (by omega)

theorem ways_twice (own : Int) (l : List Pl) : ways own (l ++ l) = ways own l := by
  rw [ways_fk, ways_fk]
  simp only [fk, List.filter_append, dd_twice]

theorem fk_nodup (own : Int) (l : List Pl) (k : Nat) : (fk own l k).Nodup := dd_nodup _ [] List.nodup_nil

theorem all_nodup (own : Int) (l : List Pl) : ((fk own l 0 ++ fk own l 1) ++ fk own l 2).Nodup := by
  rw [List.nodup_append, List.nodup_append]
  refine ⟨⟨fk_nodup _ _ _, fk_nodup _ _ _, ?_⟩, fk_nodup _ _ _, ?_⟩
  · rintro a ha b hb rfl
    exact absurd (kind_one (by omega) (by omega) (fk_mem ha) (fk_mem hb)) (by omega)
  · rintro a ha b hb rfl
    rcases List.mem_append.1 ha with ha | ha
    · exact absurd (kind_one (by omega) (by omega) (fk_mem ha) (fk_mem hb)) (by omega)
    · exact absurd (kind_one (by omega) (by omega) (fk_mem ha) (fk_mem hb)) (by omega)

theorem filter_own {own : Int} {p : List Pl} {k : Nat} (h : ∀ x ∈ p, kindB own k x = true) : p.filter (kindB own k) = p := List.filter_eq_self.2 h
theorem filter_other {own : Int} {p : List Pl} {j k : Nat} (hj : j ≤ 2) (hk : k ≤ 2) (hne : j ≠ k) (h : ∀ x ∈ p, kindB own j x = true) : p.filter (kindB own k) = [] := by
  rw [List.filter_eq_nil_iff]
  exact fun x hx hx2 => hne (kind_one hj hk (h x hx) hx2)

theorem sorted_again {own : Int} {a b c : List Pl} (ha : ∀ x ∈ a, kindB own 0 x = true) (hb : ∀ x ∈ b, kindB own 1 x = true) (hc : ∀ x ∈ c, kindB own 2 x = true) (hn : ((a ++ b) ++ c).Nodup) (h8 : ((a ++ b) ++ c).length ≤ 8) :
    ways own ((a ++ b) ++ c) = (a ++ b) ++ c := by
  rw [ways_dd]
  simp only [List.filter_append]
  rw [filter_own ha, filter_own hb, filter_own hc, filter_other (j := 0) (k := 1) (by omega) (by omega) (by omega) ha, filter_other (j := 0) (k := 2) (by omega) (by omega) (by omega) ha, filter_other (j := 1) (k := 0) (by omega) (by omega) (by omega) hb,
    filter_other (j := 1) (k := 2) (by omega) (by omega) (by omega) hb, filter_other (j := 2) (k := 0) (by omega) (by omega) (by omega) hc, filter_other (j := 2) (k := 1) (by omega) (by omega) (by omega) hc]
  simp only [List.append_nil, List.nil_append]
  unfold dd
  rw [dd_self _ [] (by simpa using hn), List.nil_append, List.take_of_length_le h8]

theorem ways_ways (own : Int) (l : List Pl) : ways own (ways own l) = ways own l := by
  rw [ways_fk own l]
  have hn := all_nodup own l
  have e : ((fk own l 0 ++ fk own l 1) ++ fk own l 2).take 8 = ((fk own l 0).take 8 ++ (fk own l 1).take (8 - (fk own l 0).length)) ++ (fk own l 2).take (8 - (fk own l 0 ++ fk own l 1).length) := by
    rw [List.take_append, List.take_append]
  have hl : (((fk own l 0 ++ fk own l 1) ++ fk own l 2).take 8).length ≤ 8 := by rw [List.length_take]; omega
  have hn2 : (((fk own l 0 ++ fk own l 1) ++ fk own l 2).take 8).Nodup := hn.sublist (List.take_sublist _ _)
  rw [e] at hl hn2 ⊢
  exact sorted_again (fun x hx => fk_mem (List.mem_of_mem_take hx)) (fun x hx => fk_mem (List.mem_of_mem_take hx)) (fun x hx => fk_mem (List.mem_of_mem_take hx)) hn2 hl

theorem ways_bare (own : Int) (l : List Pl) : let m := ways own (l.filter fun x => !x.2.2.2); m.length ≤ (ways own l).length ∧ m = (ways own l).take m.length := by
  intro m
  have h0 : (l.filter fun x => !x.2.2.2).filter (kindB own 0) = l.filter (kindB own 0) := by
    rw [List.filter_filter]
    refine List.filter_congr fun x _ => ?_
    cases hv : x.2.2.2 <;> simp [kindB, hv]
  have h1 : (l.filter fun x => !x.2.2.2).filter (kindB own 1) = l.filter (kindB own 1) := by
    rw [List.filter_filter]
    refine List.filter_congr fun x _ => ?_
    cases hv : x.2.2.2 <;> simp [kindB, hv]
  have h2 : (l.filter fun x => !x.2.2.2).filter (kindB own 2) = [] := by
    rw [List.filter_filter, List.filter_eq_nil_iff]
    intro x _
    cases hv : x.2.2.2 <;> simp [kindB, hv]
  have e : m = (fk own l 0 ++ fk own l 1).take 8 := by
    show ways own _ = _
    rw [ways_fk]
    unfold fk
    rw [h0, h1, h2]
    simp [dd]
  rw [e, ways_fk]
  generalize fk own l 0 ++ fk own l 1 = X
  constructor
  · rw [List.length_take, List.length_take, List.length_append]; omega
  · rw [List.take_take, List.length_take, List.take_append_of_le_length (by omega), show min (min 8 X.length) 8 = min 8 X.length by omega]
    by_cases h : 8 ≤ X.length
    · rw [Nat.min_eq_left h]
    · rw [Nat.min_eq_right (by omega), List.take_of_length_le (by omega), List.take_length]

end Go.Proofs.Ytjlmpfoaiaolhaa
