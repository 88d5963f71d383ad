/- The plain side: bindings that go out and come back; where ways end. -/
import Derived.Test.YtbjodidajacilaaR2
namespace Go.Proofs.Ytbjodidajacilaa
open Go Go.Eng

def port (x : BX) : Int := x.2.2.2.2.1

theorem used_iff {bs : List BX} {p : Int} : used bs p = true ↔ p ∈ bs.map port := by
  unfold used
  rw [List.any_eq_true, List.mem_map]
  constructor
  · rintro ⟨x, hx, e⟩; exact ⟨x, hx, by simpa [portIs, port] using e⟩
  · rintro ⟨x, hx, e⟩; exact ⟨x, hx, by simpa [portIs, port] using e⟩

section
variable {bs : List BX}

theorem seeS_mem {th tp : Int} {s : List (Int × Int)} {a : Int × Int} (h : a ∈ seeS th tp s) : a ∈ s ∨ a = (th, tp) := by
  unfold seeS at h
  rcases List.mem_append.1 (List.mem_of_mem_drop h) with h | h
  · exact .inl (List.mem_filter.1 h).1
  · exact .inr (by simpa using h)

theorem seeS_has (th tp : Int) (s : List (Int × Int)) : (th, tp) ∈ seeS th tp s := by
  unfold seeS
  rw [List.drop_append_of_le_length (by omega)]
  simp

theorem outI_some {jh jp kh kp : Int} {i : Nat} (h : outI jh jp kh kp bs = some i) : ∃ x, bs[i]? = some x ∧ x.1 = jh ∧ x.2.1 = jp := by
  have key : ∀ f : BX → Bool, (∀ x, f x = true → inIs jh jp x = true) → bs.findIdx? f = some i → ∃ x, bs[i]? = some x ∧ x.1 = jh ∧ x.2.1 = jp := by
    intro f hf hi
    obtain ⟨hil, hp, -⟩ := List.findIdx?_eq_some_iff_getElem.1 hi
    have := hf _ hp
    simp [inIs] at this
    exact ⟨_, List.getElem?_eq_getElem hil, this⟩
  unfold outI at h
  cases ha : bs.findIdx? (isAsked jh jp) with
  | some j =>
    rw [ha] at h; cases h
    exact key _ (fun x hx => by unfold isAsked at hx; simp at hx; exact hx.1) ha
  | none =>
    rw [ha] at h
    exact key _ (fun x hx => by unfold isTo at hx; simp at hx; exact hx.1) h

theorem nd_eq (hn : (bs.map port).Nodup) {x y : BX} (hx : x ∈ bs) (hy : y ∈ bs) (e : port x = port y) : x = y := by
  obtain ⟨i, hi, rfl⟩ := List.getElem_of_mem hx
  obtain ⟨j, hj, rfl⟩ := List.getElem_of_mem hy
  have : (bs.map port)[i]'(by simpa using hi) = (bs.map port)[j]'(by simpa using hj) := by simpa using e
  have e2 := (List.getElem_inj hn).1 this
  subst e2
  rfl

theorem natIn_mem (hn : (bs.map port).Nodup) {fi fh fp : Int} {y : BX} (hy : y ∈ bs) : natIn fi bs (port y) fh fp = if letsB fi y fh fp then (y.1, y.2.1, 0) else (0, 0, 8) := by
  unfold natIn
  cases hf : bs.findIdx? (portIs (port y)) with
  | none =>
    have := List.findIdx?_eq_none_iff.1 hf y hy
    simp [portIs, port] at this
  | some j =>
    obtain ⟨hj, hp, -⟩ := List.findIdx?_eq_some_iff_getElem.1 hf
    have e : bs[j] = y := nd_eq hn (List.getElem_mem hj) hy (by simpa [portIs, port] using hp)
    simp only [List.getElem?_eq_getElem hj, e]

theorem letsB_to {fi th tp : Int} {y : BX} (h : (th, tp) ∈ y.2.2.2.2.2.2.2) : letsB fi y th tp = true := by
  unfold letsB
  have e1 : y.2.2.2.2.2.2.2.any (fun a => a.1 == th) = true := List.any_eq_true.2 ⟨_, h, by simp⟩
  have e2 : y.2.2.2.2.2.2.2.any (fun a => (th == a.1) && ((tp == a.2) && true)) = true := List.any_eq_true.2 ⟨_, h, by simp⟩
  rw [e1, e2]
  simp

theorem live_mem {t : Int} {y : BX} (hy : y ∈ bs) (h : t < y.2.2.2.2.2.1) : y ∈ live t bs := by
  unfold live
  refine List.mem_filter.2 ⟨hy, ?_⟩
  unfold overB
  simp; omega

end

/-- A box by which what is sent comes back. -/
structure PB (s : BS) : Prop where
  nd : (s.2.1.map port).Nodup
  rg : ∀ x ∈ s.2.1, 1 ≤ port x ∧ port x ≤ 65535
  na : ∀ x ∈ s.2.1, x.2.2.2.2.2.2.1 = false

theorem PB.sub {s : BS} (h : PB s) (t t' : Int) : PB (s.1, live t s.2.1, t') :=
  ⟨h.nd.sublist (List.filter_sublist.map port), fun x hx => h.rg x (List.mem_filter.1 hx).1, fun x hx => h.na x (List.mem_filter.1 hx).1⟩

theorem PB.inS {s : BS} (h : PB s) (t pt fh fp : Int) : PB (inS s t pt fh fp).2 := by
  unfold Go.Proofs.Ytbjodidajacilaa.inS
  split
  · exact h.sub t t
  · exact h

theorem PB.out {s : BS} (hg : GS s) (h : PB s) (t ih ip th tp : Int) : PB (s.1, (natOut s.1.1 s.1.2.1 s.1.2.2.1 s.1.2.2.2.1 s.1.2.2.2.2.2.1 s.1.2.2.2.2.2.2 s.2.1 t ih ip th tp).2, t) := by
  have hmay := hg.may
  unfold mayB at hmay
  unfold natOut
  split
  · rename_i i ho
    split
    · rename_i x hx
      have hxm := List.mem_of_getElem? hx
      have hi := (List.getElem?_eq_some_iff.1 hx).1
      have hm : ∀ z ∈ s.2.1.set i (touch t s.1.2.2.2.2.2.1 th tp x), z ∈ s.2.1 ∨ z = touch t s.1.2.2.2.2.2.1 th tp x := fun z hz => List.mem_or_eq_of_mem_set hz
      refine ⟨?_, fun z hz => ?_, fun z hz => ?_⟩
      · show ((s.2.1.set i _).map port).Nodup
        rw [List.map_set]
        have e : (s.2.1.map port).set i (port (touch t s.1.2.2.2.2.2.1 th tp x)) = s.2.1.map port := by
          apply List.ext_getElem?
          intro j
          by_cases ej : i = j
          · subst ej
            rw [List.getElem?_set_self (by simpa using hi), List.getElem?_map, hx]; rfl
          · rw [List.getElem?_set_ne ej]
        rw [e]; exact h.nd
      · rcases hm z hz with hz | rfl
        · exact h.rg z hz
        · exact h.rg x hxm
      · rcases hm z hz with hz | rfl
        · exact h.na z hz
        · exact h.na x hxm
    · exact ⟨h.nd, h.rg, h.na⟩
  · split
    · rename_i p hp
      obtain ⟨p1, p2, p3⟩ := choose_some hp
      split
      · have hm : ∀ z ∈ s.2.1 ++ [touch t s.1.2.2.2.2.2.1 th tp (ih, ip, keyH s.1.2.2.2.1 th, keyP s.1.2.2.2.1 tp, p, 0, false, [])], z ∈ s.2.1 ∨ z = touch t s.1.2.2.2.2.2.1 th tp (ih, ip, keyH s.1.2.2.2.1 th, keyP s.1.2.2.2.1 tp, p, 0, false, []) := fun z hz => by simpa using hz
        refine ⟨?_, fun z hz => ?_, fun z hz => ?_⟩
        · show ((s.2.1 ++ [_]).map port).Nodup
          rw [List.map_append, List.nodup_append]
          refine ⟨h.nd, by simp, fun a ha b hb => ?_⟩
          simp only [List.map_cons, List.map_nil, List.mem_singleton] at hb
          have hb2 : b = p := hb
          rw [hb2]
          intro e
          have : used s.2.1 p = true := used_iff.2 (e ▸ ha)
          rw [this] at p3; cases p3
        · rcases hm z hz with hz | rfl
          · exact h.rg z hz
          · show 1 ≤ p ∧ p ≤ 65535; omega
        · rcases hm z hz with hz | rfl
          · exact h.na z hz
          · rfl
      · exact ⟨h.nd, h.rg, h.na⟩
    · exact ⟨h.nd, h.rg, h.na⟩

theorem PB.outS {s : BS} (hg : GS s) (h : PB s) (t ih ip th tp : Int) : PB (outS s t ih ip th tp).2 := by
  unfold Go.Proofs.Ytbjodidajacilaa.outS
  split
  · rename_i hc
    have hg' : GS (s.1, live t s.2.1, t) := by
      have := hg.inS t 0 ih ip
      unfold Go.Proofs.Ytbjodidajacilaa.inS at this
      rw [if_pos ⟨hc.1, hc.2.2.1, hc.2.2.2⟩] at this
      exact this
    exact PB.out hg' (h.sub t t) t ih ip th tp
  · exact h

/-- What goes out goes by a binding. -/
theorem outS_own {s : BS} (hg : GS s) (h : PB s) {t ih ip th tp : Int} (ht : t < 1099511627776) (hz : (outS s t ih ip th tp).1.2.2 = 0) :
    ∃ y, y ∈ (outS s t ih ip th tp).2.2.1 ∧ (outS s t ih ip th tp).1 = (s.1.1, port y, 0) ∧ y.1 = ih ∧ y.2.1 = ip ∧ t < y.2.2.2.2.2.1 ∧ (th, tp) ∈ y.2.2.2.2.2.2.2 ∧ (outS s t ih ip th tp).2.1 = s.1 ∧ (outS s t ih ip th tp).2.2.2 = t := by
  have hmay := hg.may
  unfold mayB at hmay
  unfold outS at hz ⊢
  split at hz
  · rename_i hc
    rw [if_pos hc]
    have hp := h.sub t t
    have hpn := hp.na
    dsimp only at hz hpn ⊢
    generalize live t s.2.1 = bs at hz hpn ⊢
    have hu : ∀ x : BX, x.2.2.2.2.2.2.1 = false → t < (touch t s.1.2.2.2.2.2.1 th tp x).2.2.2.2.2.1 := fun x hx => by
      unfold touch
      simp only [hx, Bool.false_eq_true, if_false]
      split <;> omega
    unfold natOut at hz ⊢
    cases ho : outI ih ip (keyH s.1.2.2.2.1 th) (keyP s.1.2.2.2.1 tp) bs with
    | some i =>
      obtain ⟨x, hx, x1, x2⟩ := outI_some ho
      rw [ho] at hz
      simp only [hx] at hz ⊢
      have hil := (List.getElem?_eq_some_iff.1 hx).1
      exact ⟨touch t s.1.2.2.2.2.2.1 th tp x, List.mem_of_getElem? (i := i) (by rw [List.getElem?_set_self hil]), rfl, x1, x2, hu x (hpn x (List.mem_of_getElem? hx)), seeS_has _ _ _, by first | rfl | trivial, by first | rfl | trivial⟩
    | none =>
      rw [ho] at hz
      simp only [] at hz ⊢
      cases hcp : chooseP s.1.2.1 s.1.2.2.1 ip bs with
      | none => rw [hcp] at hz; simp at hz
      | some p =>
        rw [hcp] at hz
        simp only [] at hz ⊢
        split at hz
        · rename_i hlt
          rw [if_pos hlt]
          exact ⟨touch t s.1.2.2.2.2.2.1 th tp (ih, ip, keyH s.1.2.2.2.1 th, keyP s.1.2.2.2.1 tp, p, 0, false, []), by simp, rfl, rfl, rfl, hu _ rfl, seeS_has _ _ _, by first | rfl | trivial, by first | rfl | trivial⟩
        · simp at hz
  · simp at hz

/-- .. and comes back by it. -/
theorem inS_back {s : BS} (h : PB s) {t fh fp : Int} (ht : s.2.2 ≤ t) (hm : t ≤ 1099511627776) (hf : mayP fh fp) {y : BX} (hy : y ∈ s.2.1) (hu : t < y.2.2.2.2.2.1) (hs : (fh, fp) ∈ y.2.2.2.2.2.2.2) :
    (inS s t (port y) fh fp).1 = (y.1, y.2.1, 0) := by
  unfold inS
  rw [if_pos ⟨hf, ht, hm⟩]
  show natIn s.1.2.2.2.2.1 (live t s.2.1) (port y) fh fp = _
  rw [natIn_mem (h.sub t t).nd (live_mem hy hu), letsB_to hs, if_pos rfl]

/-! ### Where a way ends -/

inductive Up (behind : List Int) : Int → Int → Prop
  | refl (a : Int) : Up behind a a
  | step {a b c : Int} (h0 : 0 ≤ a) (h : behind[a.toNat]? = some b) (r : Up behind b c) : Up behind a c

theorem Up.le {behind : List Int} (hbh : ∀ (i : Nat) (x : Int), behind[i]? = some x → -1 ≤ x ∧ x < i) {a c : Int} (h : Up behind a c) : c ≤ a := by
  induction h with
  | refl a => omega
  | step h0 h _ ih => have := hbh _ _ h; omega

theorem Up.trans {behind : List Int} {a b c : Int} (h : Up behind a b) (h2 : Up behind b c) : Up behind a c := by
  induction h with
  | refl a => exact h2
  | step h0 h _ ih => exact .step h0 h (ih h2)

theorem inn_fin {behind : List Int} {hosts : List (Int × Int)} {t : Int} : ∀ (n : Nat) (fh fp th tp at_ came : Int) (st : List BS), (wayF behind hosts t n fh fp th tp at_ came true st).1.2.2.2 = 0 →
    (wayF behind hosts t n fh fp th tp at_ came true st).1.2.1 = (fh, fp) ∧ 0 ≤ (wayF behind hosts t n fh fp th tp at_ came true st).1.1 ∧ ∃ x, hosts[(wayF behind hosts t n fh fp th tp at_ came true st).1.1.toNat]? = some x ∧ Up behind x.2 at_
  | 0, _, _, _, _, _, _, _, h => by have h : (8 : Int) = 0 := h; omega
  | n + 1, fh, fp, th, tp, at_, came, st, h => by
    rw [wayF_succ] at h ⊢
    split
    · rename_i hi
      rcases idx_cases (isS th at_) hosts with ⟨e, -⟩ | ⟨i, e, hil, hf, -⟩
      · rw [e] at hi; omega
      · refine ⟨rfl, hi, (th, at_), ?_, .refl _⟩
        show hosts[(idx (isS th at_) hosts : Int).toNat]? = _
        rw [e, Int.toNat_natCast, List.getElem?_eq_getElem hil, isS_iff.1 (hf hil)]
    rename_i hi
    rw [if_neg hi] at h
    split
    · rename_i hc
      rw [if_pos hc] at h
      split
      · rename_i hs
        rw [hs] at h
        have h : (8 : Int) = 0 := h
        omega
      · rename_i s hs
        rw [hs] at h
        dsimp only at h ⊢
        split
        · rename_i hne
          rw [if_pos hne] at h
          exact absurd h hne
        · rename_i hz
          rw [if_neg hz] at h
          obtain ⟨q1, q2, x, q3, q4⟩ := inn_fin n _ _ _ _ _ _ _ h
          refine ⟨q1, q2, x, q3, q4.trans ?_⟩
          rcases boxI_cases behind st at_ th with ⟨e, -⟩ | ⟨i, e, hi, hbq, -⟩
          · exact absurd e hc.1
          · rw [e]
            unfold bq at hbq
            simp at hbq
            exact .step (by omega) (by rw [Int.toNat_natCast]; exact hbq.1) (.refl _)
    · rename_i hc
      rw [if_neg hc, if_pos (.inr (.inl rfl))] at h
      have h : (8 : Int) = 0 := h
      omega

end Go.Proofs.Ytbjodidajacilaa
