/- The plain side: a way and its way back. -/
import Derived.Test.YtbjodidajacilaaR3
namespace Go.Proofs.Ytbjodidajacilaa
open Go Go.Eng

/-- The boxes of a world, as time goes on. -/
structure WI (boxes : List CF) (t : Int) (st : List BS) : Prop where
  cfg : st.map Prod.fst = boxes
  all : ∀ s ∈ st, GS s ∧ PB s ∧ s.2.2 ≤ t

section
variable {boxes : List CF} {behind : List Int} {hosts : List (Int × Int)} {t : Int} {st : List BS}

theorem WI.set (h : WI boxes t st) {i : Nat} {s s' : BS} (hs : st[i]? = some s) (hc : s'.1 = s.1) (h1 : GS s') (h2 : PB s') (h3 : s'.2.2 ≤ t) : WI boxes t (st.set i s') := by
  refine ⟨?_, fun z hz => ?_⟩
  · rw [List.map_set, hc, ← h.cfg]
    have hi := (List.getElem?_eq_some_iff.1 hs).1
    apply List.ext_getElem?
    intro j
    by_cases e : i = j
    · subst e
      rw [List.getElem?_set_self (by simpa using hi), List.getElem?_map, hs]; rfl
    · rw [List.getElem?_set_ne e]
  · rcases List.mem_or_eq_of_mem_set hz with hz | rfl
    · exact h.all z hz
    · exact ⟨h1, h2, h3⟩

theorem inS_cfg (s : BS) (t pt fh fp : Int) : (inS s t pt fh fp).2.1 = s.1 := by unfold inS; split <;> rfl
theorem outS_cfg (s : BS) (t a b c d : Int) : (outS s t a b c d).2.1 = s.1 := by unfold outS; split <;> rfl
theorem inS_time {s : BS} {t : Int} (h : s.2.2 ≤ t) (pt fh fp : Int) : (inS s t pt fh fp).2.2.2 ≤ t := by
  unfold inS
  split
  · exact Int.le_refl _
  · exact h
theorem outS_time {s : BS} {t : Int} (h : s.2.2 ≤ t) (a b c d : Int) : (outS s t a b c d).2.2.2 ≤ t := by
  unfold outS
  split
  · exact Int.le_refl _
  · exact h

theorem WI.inS (h : WI boxes t st) {i : Nat} {s : BS} (hs : st[i]? = some s) (pt fh fp : Int) : WI boxes t (st.set i (inS s t pt fh fp).2) := by
  obtain ⟨a, b, c⟩ := h.all s (List.mem_of_getElem? hs)
  exact h.set hs (inS_cfg _ _ _ _ _) (a.inS _ _ _ _) (b.inS _ _ _ _) (inS_time c _ _ _)

theorem WI.outS (h : WI boxes t st) {i : Nat} {s : BS} (hs : st[i]? = some s) (a b c d : Int) : WI boxes t (st.set i (outS s t a b c d).2) := by
  obtain ⟨x, y, z⟩ := h.all s (List.mem_of_getElem? hs)
  exact h.set hs (outS_cfg _ _ _ _ _ _) (x.outS _ _ _ _ _) (PB.outS x y _ _ _ _ _) (outS_time z _ _ _ _)

theorem WI.way (hh : WI boxes t st) : ∀ (n : Nat) (fh fp th tp at_ came : Int) (inn : Bool), WI boxes t (wayF behind hosts t n fh fp th tp at_ came inn st).2 := by
  intro n
  induction n generalizing st with
  | zero => intros; exact hh
  | succ n ih =>
    intro fh fp th tp at_ came inn
    rw [wayF_succ]
    split
    · exact hh
    split
    · split
      · exact hh
      · rename_i s hs
        split
        · exact hh.inS hs _ _ _
        · exact ih (hh.inS hs _ _ _) _ _ _ _ _ _ _
    split
    · exact hh
    · split
      · rename_i s x hs hx
        split
        · exact hh.outS hs _ _ _ _
        · exact ih (hh.outS hs _ _ _ _) _ _ _ _ _ _ _
      · exact hh

theorem idx_self (hn : hosts.Nodup) {g : Nat} {H a : Int} (hg : hosts[g]? = some (H, a)) : idx (isS H a) hosts = g := by
  rcases idx_cases (isS H a) hosts with ⟨e, hall⟩ | ⟨i, e, hi, hf, -⟩
  · have := hall _ (List.mem_of_getElem? hg)
    rw [isS_iff.2 rfl] at this; cases this
  · rw [e]
    obtain ⟨hl, e1⟩ := List.getElem?_eq_some_iff.1 hg
    have e2 := isS_iff.1 (hf hi)
    have := (List.getElem_inj hn).1 (e2.trans e1.symm)
    omega

theorem site_mem (hn : NW boxes behind hosts) {i : Nat} {c : CF} {x : Int} (hc : boxes[i]? = some c) (hx : behind[i]? = some x) : (sites boxes behind)[i]? = some (c.1, x) := by
  unfold sites
  rw [List.getElem?_map, (List.getElem?_zip_eq_some (z := (c, x))).2 ⟨hc, hx⟩]
  rfl

theorem idx_site (hn : NW boxes behind hosts) {i : Nat} {c : CF} {x : Int} (hc : boxes[i]? = some c) (hx : behind[i]? = some x) : idx (isS c.1 x) hosts = -1 := by
  rcases idx_cases (isS c.1 x) hosts with ⟨e, -⟩ | ⟨j, e, hj, hf, -⟩
  · exact e
  · have e2 := isS_iff.1 (hf hj)
    have h1 : (c.1, x) ∈ hosts := e2 ▸ List.getElem_mem hj
    have h2 : (c.1, x) ∈ sites boxes behind := List.mem_of_getElem? (site_mem hn hc hx)
    exact absurd rfl ((List.nodup_append.1 hn.ap.1).2.2 _ h1 _ h2)

theorem box_self (hn : NW boxes behind hosts) (hw : WI boxes t st) {i : Nat} {c : CF} {x : Int} (hc : boxes[i]? = some c) (hx : behind[i]? = some x) : boxI behind st x c.1 = i := by
  have hsl : st.length = boxes.length := by rw [← hw.cfg]; simp
  have key : ∀ j, j < st.length → (bq behind st x c.1 j = true ↔ (sites boxes behind)[j]? = some (c.1, x)) := by
    intro j hj
    obtain ⟨cj, hcj⟩ : ∃ cj, boxes[j]? = some cj := ⟨_, List.getElem?_eq_getElem (by omega)⟩
    obtain ⟨xj, hxj⟩ : ∃ xj, behind[j]? = some xj := ⟨_, List.getElem?_eq_getElem (by have := hn.be; omega)⟩
    have hst : (st[j]?.map fun s => s.1.1) = some cj.1 := by
      have := hcj
      rw [← hw.cfg, List.getElem?_map] at this
      cases hs : st[j]? with
      | none => rw [hs] at this; cases this
      | some s => rw [hs] at this; simp at this; simp [this]
    unfold bq
    rw [site_mem hn hcj hxj, hxj, hst]
    simp
    constructor
    · rintro ⟨a, b⟩; exact ⟨b, a⟩
    · rintro ⟨a, b⟩; exact ⟨b, a⟩
  have hil := (List.getElem?_eq_some_iff.1 hc).1
  have hnd := (List.nodup_append.1 hn.ap.1).2.1
  rcases boxI_cases behind st x c.1 with ⟨-, h⟩ | ⟨j, e, hj, hb, -⟩
  · have := h i (by omega)
    rw [(key i (by omega)).2 (site_mem hn hc hx)] at this; cases this
  · rw [e]
    have e1 := (key j hj).1 hb
    have e2 := site_mem hn hc hx
    obtain ⟨l1, q1⟩ := List.getElem?_eq_some_iff.1 e1
    obtain ⟨l2, q2⟩ := List.getElem?_eq_some_iff.1 e2
    have := (List.getElem_inj hnd).1 (q1.trans q2.symm)
    omega

/-- A step of a way that comes well. -/
theorem lev {n : Nat} {fh fp th tp at_ came : Int} {r : RW × List BS} (er : r = wayF behind hosts t (n + 1) fh fp th tp at_ came false st) (hz : r.1.2.2.2 = 0) :
    (∃ i : Nat, i < hosts.length ∧ hosts[i]? = some (th, at_) ∧ r = (((i : Int), (fh, fp), (th, tp), 0), st)) ∨
    (∃ (j : Nat) (s : BS), (j : Int) ≠ came ∧ behind[j]? = some at_ ∧ st[j]? = some s ∧ (inS s t tp fh fp).1.2.2 = 0 ∧ r = wayF behind hosts t n fh fp (inS s t tp fh fp).1.1 (inS s t tp fh fp).1.2.1 j came true (st.set j (inS s t tp fh fp).2)) ∨
    (at_ ≠ -1 ∧ ∃ (s : BS) (x : Int), st[at_.toNat]? = some s ∧ behind[at_.toNat]? = some x ∧ (outS s t fh fp th tp).1.2.2 = 0 ∧ r = wayF behind hosts t n (outS s t fh fp th tp).1.1 (outS s t fh fp th tp).1.2.1 th tp x at_ false (st.set at_.toNat (outS s t fh fp th tp).2)) := by
  rw [wayF_succ] at er
  split at er
  · rename_i hi
    left
    rcases idx_cases (isS th at_) hosts with ⟨e, -⟩ | ⟨i, e, hil, hf, -⟩
    · rw [e] at hi; omega
    · rw [e] at er
      exact ⟨i, hil, by rw [List.getElem?_eq_getElem hil, isS_iff.1 (hf hil)], er⟩
  split at er
  · rename_i hc
    right; left
    rcases boxI_cases behind st at_ th with ⟨e, -⟩ | ⟨j, e, hj, hb, -⟩
    · exact absurd e hc.1
    · rw [e] at er hc
      rw [Int.toNat_natCast] at er
      obtain ⟨s, hs⟩ : ∃ s, st[j]? = some s := ⟨_, List.getElem?_eq_getElem hj⟩
      rw [hs] at er
      dsimp only at er
      split at er
      · rename_i hne
        rw [er] at hz
        exact absurd hz hne
      · rename_i h0
        unfold bq at hb
        simp at hb
        exact ⟨j, s, hc.2, hb.1, hs, Classical.byContradiction fun h => h0 h, er⟩
  split at er
  · rw [er] at hz
    have hz : (8 : Int) = 0 := hz
    omega
  · rename_i hc2
    right; right
    rw [not_or, not_or] at hc2
    refine ⟨hc2.2.2, ?_⟩
    split at er
    · rename_i s x hs hx
      split at er
      · rename_i hne
        rw [er] at hz
        exact absurd hz hne
      · rename_i h0
        exact ⟨s, x, hs, hx, Classical.byContradiction fun h => h0 h, er⟩
    · rw [er] at hz
      have hz : (8 : Int) = 0 := hz
      omega

/-- Back by one box. -/
theorem back_step (hn : NW boxes behind hosts) (hw : WI boxes t st) (hm : t ≤ 1099511627776) {n i : Nat} {s : BS} {x : Int} {fh fp came : Int} {inn : Bool} {y : BX} (hs : st[i]? = some s) (hx : behind[i]? = some x) (hf : mayP fh fp) (hy : y ∈ s.2.1) (hu : t < y.2.2.2.2.2.1) (hseen : (fh, fp) ∈ y.2.2.2.2.2.2.2) (hc : (i : Int) ≠ came) :
    ∃ st', wayF behind hosts t (n + 1) fh fp s.1.1 (port y) x came inn st = wayF behind hosts t n fh fp y.1 y.2.1 i came true st' ∧ WI boxes t st' ∧ ∀ j, j ≠ i → st'[j]? = st[j]? := by
  have hcb : boxes[i]? = some s.1 := by rw [← hw.cfg, List.getElem?_map, hs]; rfl
  obtain ⟨h1, h2, h3⟩ := hw.all s (List.mem_of_getElem? hs)
  have hin := inS_back h2 h3 hm hf hy hu hseen
  refine ⟨st.set i (inS s t (port y) fh fp).2, ?_, hw.inS hs _ _ _, fun j hj => List.getElem?_set_ne (fun e => hj e.symm)⟩
  rw [wayF_succ, idx_site hn hcb hx, box_self hn hw hcb hx, if_neg (by omega), if_pos ⟨by omega, hc⟩, Int.toNat_natCast, hs]
  dsimp only
  rw [hin, if_neg (by simp)]

/-- Back at who sent. -/
theorem back_end (hn : NW boxes behind hosts) {n g : Nat} {fh fp H P a came : Int} {inn : Bool} (hg : hosts[g]? = some (H, a)) :
    wayF behind hosts t (n + 1) fh fp H P a came inn st = (((g : Int), (fh, fp), (H, P), 0), st) := by
  rw [wayF_succ, idx_self hn.hn.1 hg, if_pos (by omega)]

end
end Go.Proofs.Ytbjodidajacilaa
