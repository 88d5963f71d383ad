/- The plain side: NatBack. -/
import Derived.Test.YthhbnjcebmhilaaR2
namespace Go.Proofs.Ythhbnjcebmhilaa
open Go Go.Eng

structure IV (ih ip : Int) (S : Int → Prop) (bs : List BX) : Prop where
  nd : (bs.map port).Nodup
  rg : ∀ x ∈ bs, 40000 ≤ port x ∧ port x ≤ 40009
  ok : okS bs
  na : ∀ x ∈ bs, x.1 = ih → x.2.1 = ip → x.2.2.2.2.2.2.1 = false
  sn : ∀ x ∈ bs, ∀ a ∈ x.2.2.2.2.2.2.2, S a.1

section
variable {ih ip : Int} {S : Int → Prop} {bs : List BX}

theorem IV.nil : IV ih ip S [] := ⟨by simp, fun x hx => by simp at hx, fun x hx => by simp at hx, fun x hx => by simp at hx, fun x hx => by simp at hx⟩

theorem IV.len (h : IV ih ip S bs) : bs.length ≤ 10 := by
  have := pig (bs.map port) (prange 40000 10) h.nd fun x hx => by
    obtain ⟨y, hy, rfl⟩ := List.mem_map.1 hx
    have := h.rg y hy
    rw [prange_mem]; omega
  rwa [List.length_map, prange_len] at this

theorem IV.live (h : IV ih ip S bs) (t : Int) : IV ih ip S (live t bs) := by
  have hm : ∀ x ∈ Go.Proofs.Ythhbnjcebmhilaa.live t bs, x ∈ bs := fun x hx => (List.mem_filter.1 hx).1
  refine ⟨?_, fun x hx => h.rg x (hm x hx), fun x hx => h.ok x (hm x hx), fun x hx => h.na x (hm x hx), fun x hx => h.sn x (hm x hx)⟩
  exact h.nd.sublist (List.filter_sublist.map port)

theorem IV.set (h : IV ih ip S bs) {i : Nat} {x : BX} (hx : bs[i]? = some x) {y : BX} (hp : port y = port x) (hl : y.2.2.2.2.2.2.2.length ≤ 16) (hna : y.1 = ih → y.2.1 = ip → y.2.2.2.2.2.2.1 = false) (hs : ∀ a ∈ y.2.2.2.2.2.2.2, S a.1) : IV ih ip S (bs.set i y) := by
  have hxm := List.mem_of_getElem? hx
  have hm : ∀ z ∈ bs.set i y, z ∈ bs ∨ z = y := fun z hz => List.mem_or_eq_of_mem_set hz
  refine ⟨?_, fun z hz => ?_, fun z hz => ?_, fun z hz => ?_, fun z hz => ?_⟩
  · rw [List.map_set, hp]
    have hi := (List.getElem?_eq_some_iff.1 hx).1
    have e : (bs.map port).set i (port x) = bs.map port := by
      apply List.ext_getElem?
      intro j
      by_cases ej : i = j
      · subst ej
        rw [List.getElem?_set_self (by simpa using hi), List.getElem?_map, hx]; rfl
      · rw [List.getElem?_set_ne ej]
    rw [e]; exact h.nd
  · rcases hm z hz with hz | rfl
    · exact h.rg z hz
    · rw [hp]; exact h.rg x hxm
  · rcases hm z hz with hz | rfl
    · exact h.ok z hz
    · exact hl
  · rcases hm z hz with hz | rfl
    · exact h.na z hz
    · exact hna
  · rcases hm z hz with hz | rfl
    · exact h.sn z hz
    · exact hs

theorem IV.snoc (h : IV ih ip S bs) {y : BX} (hu : used bs (port y) = false) (hr : 40000 ≤ port y ∧ port y ≤ 40009) (hl : y.2.2.2.2.2.2.2.length ≤ 16) (hna : y.1 = ih → y.2.1 = ip → y.2.2.2.2.2.2.1 = false) (hs : ∀ a ∈ y.2.2.2.2.2.2.2, S a.1) : IV ih ip S (bs ++ [y]) := by
  have hm : ∀ z ∈ bs ++ [y], z ∈ bs ∨ z = y := fun z hz => by simpa using hz
  refine ⟨?_, fun z hz => ?_, fun z hz => ?_, fun z hz => ?_, fun z hz => ?_⟩
  · rw [List.map_append, List.nodup_append]
    refine ⟨h.nd, by simp, fun a ha b hb => ?_⟩
    simp only [List.map_cons, List.map_nil, List.mem_singleton] at hb
    have hb2 : b = port y := hb
    rw [hb2]
    intro e
    have : used bs (port y) = true := used_iff.2 (e ▸ ha)
    rw [this] at hu; cases hu
  · rcases hm z hz with hz | rfl
    · exact h.rg z hz
    · exact hr
  · rcases hm z hz with hz | rfl
    · exact h.ok z hz
    · exact hl
  · rcases hm z hz with hz | rfl
    · exact h.na z hz
    · exact hna
  · rcases hm z hz with hz | rfl
    · exact h.sn z hz
    · exact hs

theorem seeS_mem {th tp : Int} {s : List (Int × Int)} {a : Int × Int} (h : a ∈ seeS th tp s) : a ∈ s ∨ a = (th, tp) := by
  unfold seeS at h
  rcases List.mem_append.1 (List.mem_of_mem_drop h) with h | h
  · exact .inl (List.mem_filter.1 h).1
  · exact .inr (by simpa using h)

theorem seeS_has (th tp : Int) (s : List (Int × Int)) : (th, tp) ∈ seeS th tp s := by
  unfold seeS
  rw [List.drop_append_of_le_length (by omega)]
  simp

theorem outI_some {jh jp kh kp : Int} {i : Nat} (h : outI jh jp kh kp bs = some i) : ∃ x, bs[i]? = some x ∧ x.1 = jh ∧ x.2.1 = jp := by
  have key : ∀ f : BX → Bool, (∀ x, f x = true → inIs jh jp x = true) → bs.findIdx? f = some i → ∃ x, bs[i]? = some x ∧ x.1 = jh ∧ x.2.1 = jp := by
    intro f hf hi
    obtain ⟨hil, hp, -⟩ := List.findIdx?_eq_some_iff_getElem.1 hi
    have := hf _ hp
    simp [inIs] at this
    exact ⟨_, List.getElem?_eq_getElem hil, this⟩
  unfold outI at h
  cases ha : bs.findIdx? (isAsked jh jp) with
  | some j =>
    rw [ha] at h; cases h
    exact key _ (fun x hx => by unfold isAsked at hx; simp at hx; exact hx.1) ha
  | none =>
    rw [ha] at h
    exact key _ (fun x hx => by unfold isTo at hx; simp at hx; exact hx.1) h

theorem IV.out (h : IV ih ip S bs) {mp t jh jp th tp : Int} (hS : S th) : IV ih ip S (natOut 3405803777 40000 40009 mp 30 12 bs t jh jp th tp).2 := by
  unfold natOut
  cases ho : outI jh jp (keyH mp th) (keyP mp tp) bs with
  | some i =>
    obtain ⟨x, hx, -, -⟩ := outI_some ho
    simp only [hx]
    have hxm := List.mem_of_getElem? hx
    refine h.set hx rfl (seeS_len _ _ _) (h.na x hxm) fun a ha => ?_
    rcases seeS_mem ha with ha | rfl
    · exact h.sn x hxm a ha
    · exact hS
  | none =>
    simp only []
    cases hc : chooseP 40000 40009 jp bs with
    | none => exact h
    | some p =>
      simp only []
      obtain ⟨p1, p2, p3⟩ := choose_some hc
      split
      · refine h.snoc p3 ⟨p1, p2⟩ (seeS_len _ _ _) (fun _ _ => rfl) fun a ha => ?_
        rcases seeS_mem ha with ha | rfl
        · simp at ha
        · exact hS
      · exact h

theorem IV.ask (h : IV ih ip S bs) {jh jp w u : Int} (hne : ¬ (jh = ih ∧ jp = ip)) : IV ih ip S (natAsk 40000 40009 12 bs jh jp w u).2 := by
  unfold natAsk
  cases ho : bs.findIdx? (isAsked jh jp) with
  | some i =>
    obtain ⟨hil, -, -⟩ := List.findIdx?_eq_some_iff_getElem.1 ho
    have hx := List.getElem?_eq_getElem hil
    generalize bs[i] = x at hx
    simp only [hx]
    have hxm := List.mem_of_getElem? hx
    exact h.set hx rfl (h.ok x hxm) (h.na x hxm) (h.sn x hxm)
  | none =>
    simp only []
    cases hc : chooseP 40000 40009 w bs with
    | none => exact h
    | some p =>
      simp only []
      obtain ⟨p1, p2, p3⟩ := choose_some hc
      split
      · exact h.snoc p3 ⟨p1, p2⟩ (by simp) (fun a b => absurd ⟨a, b⟩ hne) (fun a ha => by simp at ha)
      · exact h

/-- What goes out by the one: by a binding of its own. -/
theorem IV.own (h : IV ih ip S bs) {mp t th tp : Int} (ht : t + 30 ≤ 1099511627776) : natOut 3405803777 40000 40009 mp 30 12 bs t ih ip th tp = ((0, 0, 10), bs) ∨
    ∃ y bs', natOut 3405803777 40000 40009 mp 30 12 bs t ih ip th tp = ((3405803777, port y, 0), bs') ∧ y ∈ bs' ∧ y.1 = ih ∧ y.2.1 = ip ∧ y.2.2.2.2.2.2.1 = false ∧ y.2.2.2.2.2.1 = t + 30 ∧ (th, tp) ∈ y.2.2.2.2.2.2.2 := by
  have hcap : (if (1099511627776 : Int) < t + 30 then 1099511627776 else t + 30) = t + 30 := by split <;> omega
  unfold natOut
  cases ho : outI ih ip (keyH mp th) (keyP mp tp) bs with
  | some i =>
    obtain ⟨x, hx, x1, x2⟩ := outI_some ho
    simp only [hx]
    have hxm := List.mem_of_getElem? hx
    have hna := h.na x hxm x1 x2
    have hil := (List.getElem?_eq_some_iff.1 hx).1
    refine .inr ⟨touch t 30 th tp x, _, rfl, List.mem_of_getElem? (i := i) (by rw [List.getElem?_set_self hil]), x1, x2, hna, ?_, seeS_has _ _ _⟩
    simp only [touch, hna, hcap]
    rfl
  | none =>
    simp only []
    cases hc : chooseP 40000 40009 ip bs with
    | none => exact .inl rfl
    | some p =>
      simp only []
      split
      · refine .inr ⟨touch t 30 th tp (ih, ip, keyH mp th, keyP mp tp, p, 0, false, []), _, rfl, by simp, rfl, rfl, rfl, ?_, seeS_has _ _ _⟩
        simp only [touch, hcap]
        rfl
      · exact .inl rfl

theorem nd_eq (hn : (bs.map port).Nodup) {x y : BX} (hx : x ∈ bs) (hy : y ∈ bs) (e : port x = port y) : x = y := by
  obtain ⟨i, hi, rfl⟩ := List.getElem_of_mem hx
  obtain ⟨j, hj, rfl⟩ := List.getElem_of_mem hy
  have : (bs.map port)[i]'(by simpa using hi) = (bs.map port)[j]'(by simpa using hj) := by simpa using e
  have e2 := (List.getElem_inj hn).1 this
  subst e2
  rfl

theorem natIn_mem (hn : (bs.map port).Nodup) {fi fh fp : Int} {y : BX} (hy : y ∈ bs) : natIn fi bs (port y) fh fp = if letsB fi y fh fp then (y.1, y.2.1, 0) else (0, 0, 8) := by
  unfold natIn
  cases hf : bs.findIdx? (portIs (port y)) with
  | none =>
    have := List.findIdx?_eq_none_iff.1 hf y hy
    simp [portIs, port] at this
  | some j =>
    obtain ⟨hj, hp, -⟩ := List.findIdx?_eq_some_iff_getElem.1 hf
    have e : bs[j] = y := nd_eq hn (List.getElem_mem hj) hy (by simpa [portIs, port] using hp)
    simp only [List.getElem?_eq_getElem hj, e]

theorem letsB_to {fi th tp : Int} {y : BX} (h : (th, tp) ∈ y.2.2.2.2.2.2.2) : letsB fi y th tp = true := by
  unfold letsB
  have e1 : y.2.2.2.2.2.2.2.any (fun a => a.1 == th) = true := List.any_eq_true.2 ⟨_, h, by simp⟩
  have e2 : y.2.2.2.2.2.2.2.any (fun a => (th == a.1) && ((tp == a.2) && true)) = true := List.any_eq_true.2 ⟨_, h, by simp⟩
  rw [e1, e2]
  simp

theorem letsB_not {fi : Int} {y : BX} (hn : y.2.2.2.2.2.2.1 = false) (h : ∀ a ∈ y.2.2.2.2.2.2.2, a.1 ≠ 77) : letsB fi y 77 1 = (fi == 0) := by
  unfold letsB
  have e1 : y.2.2.2.2.2.2.2.any (fun a => a.1 == 77) = false := List.any_eq_false.2 fun a ha => by simpa using h a ha
  have e2 : y.2.2.2.2.2.2.2.any (fun a => ((77 : Int) == a.1) && (((1 : Int) == a.2) && true)) = false := List.any_eq_false.2 fun a ha => by have := h a ha; simp; omega
  rw [e1, e2, hn]
  simp

theorem live_mem {t : Int} {y : BX} (hy : y ∈ bs) (h : t < y.2.2.2.2.2.1) : y ∈ live t bs := by
  unfold live
  refine List.mem_filter.2 ⟨hy, ?_⟩
  unfold overB
  simp; omega
end

end Go.Proofs.Ythhbnjcebmhilaa
