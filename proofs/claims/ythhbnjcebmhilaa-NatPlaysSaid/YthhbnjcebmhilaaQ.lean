/- Bindings as they were made, and as they stand by rising ports: that both tell the same (no program in sight). -/
import Derived.Test.YthhbnjcebmhilaaP
namespace Go.Proofs.Ythhbnjcebmhilaa
open Go Go.Eng

def prt (x : BX) : Int := x.2.2.2.2.1
def keyOf (x : BX) : Int × Int × Bool × Int × Int := (x.1, x.2.1, x.2.2.2.2.2.2.1, if x.2.2.2.2.2.2.1 then (0, 0) else (x.2.2.1, x.2.2.2.1))

/-- Bindings by rising ports, none twice. -/
structure Good (rs : List BX) : Prop where
  so : (rs.map prt).Pairwise (· < ·)
  nk : (rs.map keyOf).Nodup

/-- The same bindings. -/
structure Sim (bs rs : List BX) : Prop where
  pm : bs.Perm rs
  gd : Good rs
  sn : okS bs

theorem Sim.nil : Sim [] [] := ⟨.refl _, ⟨List.Pairwise.nil, List.nodup_nil⟩, fun _ h => nomatch h⟩

theorem inj_of_nodup {α β : Type} {f : α → β} : ∀ {l : List α}, (l.map f).Nodup → ∀ x ∈ l, ∀ y ∈ l, f x = f y → x = y
  | a :: l, h, x, hx, y, hy, e => by
    rw [List.map_cons, List.nodup_cons] at h
    rcases List.mem_cons.1 hx with e1 | hx1
    · rcases List.mem_cons.1 hy with e2 | hy1
      · rw [e1, e2]
      · exact (h.1 (List.mem_map.2 ⟨y, hy1, by rw [← e, e1]⟩)).elim
    · rcases List.mem_cons.1 hy with e2 | hy1
      · exact (h.1 (List.mem_map.2 ⟨x, hx1, by rw [e, e2]⟩)).elim
      · exact inj_of_nodup h.2 x hx1 y hy1 e

theorem Good.port {rs : List BX} (h : Good rs) : ∀ x ∈ rs, ∀ y ∈ rs, prt x = prt y → x = y :=
  inj_of_nodup (h.so.imp fun {a b} hab => by omega)

theorem find_sim {bs rs : List BX} (pm : bs.Perm rs) {f : BX → Bool} (hu : ∀ x ∈ rs, ∀ y ∈ rs, f x = true → f y = true → x = y) :
    (bs.findIdx? f = none ∧ rs.findIdx? f = none) ∨ ∃ i j x, bs.findIdx? f = some i ∧ rs.findIdx? f = some j ∧ bs[i]? = some x ∧ rs[j]? = some x ∧ f x = true := by
  cases hb : bs.findIdx? f with
  | none =>
    rw [List.findIdx?_eq_none_iff] at hb
    refine .inl ⟨rfl, ?_⟩
    rw [List.findIdx?_eq_none_iff]
    intro x hx
    exact hb x (pm.mem_iff.2 hx)
  | some i =>
    obtain ⟨hi, hp, -⟩ := List.findIdx?_eq_some_iff_getElem.1 hb
    cases hr : rs.findIdx? f with
    | none =>
      rw [List.findIdx?_eq_none_iff] at hr
      have := hr _ (pm.mem_iff.1 (List.getElem_mem hi))
      rw [hp] at this
      cases this
    | some j =>
      obtain ⟨hj, hq, -⟩ := List.findIdx?_eq_some_iff_getElem.1 hr
      have e := hu _ (pm.mem_iff.1 (List.getElem_mem hi)) _ (List.getElem_mem hj) hp hq
      exact .inr ⟨i, j, bs[i], rfl, rfl, List.getElem?_eq_getElem hi, by rw [e]; exact List.getElem?_eq_getElem hj, hp⟩

theorem set_perm {l : List BX} {i : Nat} {x y : BX} (h : l[i]? = some x) : (l.set i y).Perm (y :: l.eraseIdx i) := by
  have hi : i < l.length := (List.getElem?_eq_some_iff.1 h).1
  have h1 : (l.set i y)[i]? = some y := by rw [List.getElem?_set_self hi]
  have h2 := eraseIdx_perm _ _ _ h1
  rw [List.eraseIdx_set_eq] at h2
  exact h2

theorem map_set_same {β : Type} {f : BX → β} {l : List BX} {i : Nat} {x y : BX} (h : l[i]? = some x) (e : f y = f x) : (l.set i y).map f = l.map f := by
  rw [List.map_set]
  have : (l.map f)[i]? = some (f x) := by rw [List.getElem?_map, h]; rfl
  rw [e]
  obtain ⟨hi, hg⟩ := List.getElem?_eq_some_iff.1 this
  rw [← hg]
  exact List.set_getElem_self hi

theorem okS.set {bs : List BX} (h : okS bs) {y : BX} (hy : y.2.2.2.2.2.2.2.length ≤ 16) (i : Nat) : okS (bs.set i y) := fun z hz => by
  rcases List.mem_or_eq_of_mem_set hz with hz | hz
  · exact h z hz
  · subst hz; exact hy

theorem Sim.set {bs rs : List BX} (h : Sim bs rs) {i j : Nat} {x y : BX} (hb : bs[i]? = some x) (hr : rs[j]? = some x) (hp : prt y = prt x) (hk : keyOf y = keyOf x) (hs : y.2.2.2.2.2.2.2.length ≤ 16) : Sim (bs.set i y) (rs.set j y) := by
  refine ⟨?_, ⟨?_, ?_⟩, h.sn.set hs i⟩
  · have h1 := eraseIdx_perm _ _ _ hb
    have h2 := eraseIdx_perm _ _ _ hr
    have h3 : (bs.eraseIdx i).Perm (rs.eraseIdx j) := List.Perm.cons_inv (h1.symm.trans (h.pm.trans h2))
    exact (set_perm hb).trans ((List.Perm.cons y h3).trans (set_perm hr).symm)
  · rw [map_set_same hr hp]; exact h.gd.so
  · rw [map_set_same hr hk]; exact h.gd.nk

theorem Sim.live {bs rs : List BX} (h : Sim bs rs) (t : Int) : Sim (live t bs) (live t rs) := by
  refine ⟨h.pm.filter _, ⟨?_, ?_⟩, fun x hx => h.sn x (List.mem_filter.1 hx).1⟩
  · exact h.gd.so.sublist (List.filter_sublist.map _)
  · exact h.gd.nk.sublist (List.filter_sublist.map _)

theorem used_perm {bs rs : List BX} (h : bs.Perm rs) (p : Int) : used bs p = used rs p := by
  unfold used
  rw [Bool.eq_iff_iff, List.any_eq_true, List.any_eq_true]
  exact ⟨fun ⟨x, hx, hp⟩ => ⟨x, h.mem_iff.1 hx, hp⟩, fun ⟨x, hx, hp⟩ => ⟨x, h.mem_iff.2 hx, hp⟩⟩

theorem ffree_perm {bs rs : List BX} (h : bs.Perm rs) : ∀ (n : Nat) (p : Int), ffree bs n p = ffree rs n p
  | 0, _ => rfl
  | n + 1, p => by
    unfold ffree
    rw [used_perm h p, ffree_perm h n (p + 1)]

theorem choose_perm {bs rs : List BX} (h : bs.Perm rs) (lo hi wish : Int) : chooseP lo hi wish bs = chooseP lo hi wish rs := by
  unfold chooseP
  rw [used_perm h wish, ffree_perm h]

theorem used_false {rs : List BX} {p : Int} (h : used rs p = false) : ∀ x ∈ rs, prt x ≠ p := by
  intro x hx e
  unfold used at h
  rw [List.any_eq_false] at h
  exact h x hx (by unfold portIs; simpa [prt] using e)

theorem Sim.ins {bs rs : List BX} (h : Sim bs rs) {i : Nat} {y : BX} (hi : i ≤ rs.length) (hu : used bs (prt y) = false) (hk : ∀ x ∈ rs, keyOf x ≠ keyOf y) (hs : y.2.2.2.2.2.2.2.length ≤ 16)
    (h1 : ∀ (j : Nat) x, j < i → rs[j]? = some x → prt x < prt y) (h2 : ∀ x, rs[i]? = some x → ¬ prt x < prt y) : Sim (bs ++ [y]) (rs.take i ++ [y] ++ rs.drop i) := by
  have hu' : ∀ x ∈ rs, prt x ≠ prt y := used_false (by rw [← used_perm h.pm]; exact hu)
  have hsplit : (rs.take i ++ rs.drop i) = rs := List.take_append_drop i rs
  have hpm : (rs.take i ++ [y] ++ rs.drop i).Perm (y :: rs) := by
    have : (rs.take i ++ [y] ++ rs.drop i).Perm (y :: (rs.take i ++ rs.drop i)) := by
      rw [List.append_assoc]
      exact List.perm_middle
    rw [hsplit] at this
    exact this
  refine ⟨?_, ⟨?_, ?_⟩, ?_⟩
  · refine List.Perm.trans ?_ hpm.symm
    exact (List.perm_append_comm (l₁ := bs) (l₂ := [y])).trans (List.Perm.cons y h.pm)
  · have hso := h.gd.so
    rw [← hsplit, List.map_append, List.pairwise_append] at hso
    rw [List.map_append, List.map_append, List.append_assoc, List.pairwise_append, List.map_cons, List.map_nil]
    have hgt : ∀ x ∈ rs.drop i, prt y < prt x := by
      intro x hx
      have hmem : x ∈ rs := List.mem_of_mem_drop hx
      cases hd : rs[i]? with
      | none =>
        rw [List.getElem?_eq_none_iff] at hd
        rw [List.drop_eq_nil_of_le hd] at hx
        cases hx
      | some z =>
        have hz := h2 z hd
        obtain ⟨hl, hg⟩ := List.getElem?_eq_some_iff.1 hd
        have hne := hu' z (by rw [← hg]; exact List.getElem_mem hl)
        rw [List.drop_eq_getElem_cons hl, hg] at hx
        rcases List.mem_cons.1 hx with rfl | hx
        · omega
        · have hp := hso.2.1
          rw [List.drop_eq_getElem_cons hl, hg, List.map_cons, List.pairwise_cons] at hp
          have := hp.1 (prt x) (List.mem_map.2 ⟨x, hx, rfl⟩)
          omega
    refine ⟨hso.1, ?_, ?_⟩
    · rw [List.singleton_append, List.pairwise_cons]
      refine ⟨fun p hp => ?_, hso.2.1⟩
      obtain ⟨x, hx, rfl⟩ := List.mem_map.1 hp
      exact hgt x hx
    · intro p hp q hq
      obtain ⟨x, hx, rfl⟩ := List.mem_map.1 hp
      obtain ⟨j, hj, rfl⟩ := List.getElem_of_mem hx
      rw [List.length_take] at hj
      have hlt := h1 j rs[j] (by omega) (List.getElem?_eq_getElem (by omega))
      rw [List.getElem_take]
      rw [List.singleton_append] at hq
      rcases List.mem_cons.1 hq with rfl | hq
      · exact hlt
      · obtain ⟨z, hz, rfl⟩ := List.mem_map.1 hq
        have := hgt z hz
        omega
  · refine ((hpm.map keyOf).nodup_iff).2 ?_
    rw [List.map_cons, List.nodup_cons]
    refine ⟨fun hm => ?_, h.gd.nk⟩
    obtain ⟨x, hx, e⟩ := List.mem_map.1 hm
    exact hk x hx e
  · intro x hx
    rcases List.mem_append.1 hx with hx | hx
    · exact h.sn x hx
    · simp at hx; subst hx; exact hs

theorem Sim.del {bs rs : List BX} (h : Sim bs rs) {i j : Nat} {x : BX} (hb : bs[i]? = some x) (hr : rs[j]? = some x) : Sim (bs.eraseIdx i) (rs.eraseIdx j) := by
  refine ⟨List.Perm.cons_inv ((eraseIdx_perm _ _ _ hb).symm.trans (h.pm.trans (eraseIdx_perm _ _ _ hr))), ⟨?_, ?_⟩, fun z hz => h.sn z (List.mem_of_mem_eraseIdx hz)⟩
  · exact h.gd.so.sublist ((List.eraseIdx_sublist _ _).map _)
  · exact h.gd.nk.sublist ((List.eraseIdx_sublist _ _).map _)

theorem inIs_iff {ih ip : Int} {x : BX} : inIs ih ip x = true ↔ x.1 = ih ∧ x.2.1 = ip := by
  unfold inIs
  simp [beq_iff_eq]

theorem asked_uniq {rs : List BX} (h : Good rs) (ih ip : Int) : ∀ x ∈ rs, ∀ y ∈ rs, isAsked ih ip x = true → isAsked ih ip y = true → x = y := by
  intro x hx y hy h1 h2
  refine inj_of_nodup h.nk x hx y hy ?_
  unfold isAsked at h1 h2
  rw [Bool.and_eq_true, inIs_iff] at h1 h2
  unfold keyOf
  rw [h1.2, h2.2, h1.1.1, h1.1.2, h2.1.1, h2.1.2]
  rfl

/-- One who did not ask, towards one. -/
def toR (ih ip kh kp : Int) (x : BX) : Bool := inIs ih ip x && (!x.2.2.2.2.2.2.1 && ((x.2.2.1 == kh) && ((x.2.2.2.1 == kp) && true)))

theorem toR_uniq {rs : List BX} (h : Good rs) (ih ip kh kp : Int) : ∀ x ∈ rs, ∀ y ∈ rs, toR ih ip kh kp x = true → toR ih ip kh kp y = true → x = y := by
  intro x hx y hy h1 h2
  refine inj_of_nodup h.nk x hx y hy ?_
  unfold toR at h1 h2
  simp only [Bool.and_eq_true, inIs_iff, Bool.not_eq_true', beq_iff_eq, and_true] at h1 h2
  unfold keyOf
  rw [h1.2.1, h2.2.1, h1.1.1, h1.1.2, h2.1.1, h2.1.2, h1.2.2.1, h1.2.2.2, h2.2.2.1, h2.2.2.2]

theorem isTo_toR {ih ip kh kp : Int} {x : BX} (h : isAsked ih ip x = false) : isTo ih ip kh kp x = toR ih ip kh kp x := by
  unfold isAsked at h
  unfold isTo toR
  cases hi : inIs ih ip x with
  | false => rfl
  | true =>
    rw [hi] at h
    simp only [Bool.true_and] at h ⊢
    rw [h]
    rfl

/-- By which binding something goes out. -/
theorem outI_sim {bs rs : List BX} (h : Sim bs rs) (ih ip kh kp : Int) :
    (outI ih ip kh kp bs = none ∧ rs.findIdx? (isAsked ih ip) = none ∧ rs.findIdx? (toR ih ip kh kp) = none ∧ (∀ x ∈ rs, keyOf x ≠ (ih, ip, false, kh, kp))) ∨
    ∃ i j x, outI ih ip kh kp bs = some i ∧ (rs.findIdx? (isAsked ih ip) = some j ∨ rs.findIdx? (isAsked ih ip) = none ∧ rs.findIdx? (toR ih ip kh kp) = some j) ∧ bs[i]? = some x ∧ rs[j]? = some x := by
  unfold outI
  rcases find_sim h.pm (asked_uniq h.gd ih ip) with ⟨e1, e2⟩ | ⟨i, j, x, e1, e2, e3, e4, -⟩
  · rw [e1]
    simp only
    have hall : ∀ x ∈ bs, isTo ih ip kh kp x = toR ih ip kh kp x := fun x hx => isTo_toR (by rw [List.findIdx?_eq_none_iff] at e1; exact e1 x hx)
    have hcongr : bs.findIdx? (isTo ih ip kh kp) = bs.findIdx? (toR ih ip kh kp) := by
      clear e1 e2 h
      induction bs with
      | nil => rfl
      | cons a l ih =>
        rw [List.findIdx?_cons, List.findIdx?_cons, hall a (List.mem_cons_self ..), ih (fun x hx => hall x (List.mem_cons_of_mem _ hx))]
    rw [hcongr]
    rcases find_sim h.pm (toR_uniq h.gd ih ip kh kp) with ⟨f1, f2⟩ | ⟨i, j, x, f1, f2, f3, f4, -⟩
    · refine .inl ⟨f1, e2, f2, fun x hx ek => ?_⟩
      rw [List.findIdx?_eq_none_iff] at f2
      have := f2 x hx
      unfold keyOf at ek
      injection ek with a1 a2
      injection a2 with a2 a3
      injection a3 with a3 a4
      rw [a3] at a4
      simp only [Bool.false_eq_true, if_false] at a4
      injection a4 with a4 a5
      unfold toR inIs at this
      rw [a1, a2, a3, a4, a5] at this
      simp at this
    · exact .inr ⟨i, j, x, f1, .inr ⟨e2, f2⟩, f3, f4⟩
  · rw [e1]
    exact .inr ⟨i, j, x, rfl, .inl e2, e3, e4⟩

theorem asked_none_key {rs : List BX} {ih ip : Int} (h : rs.findIdx? (isAsked ih ip) = none) : ∀ x ∈ rs, keyOf x ≠ (ih, ip, true, 0, 0) := by
  intro x hx ek
  rw [List.findIdx?_eq_none_iff] at h
  have := h x hx
  unfold keyOf at ek
  injection ek with a1 a2
  injection a2 with a2 a3
  injection a3 with a3 a4
  unfold isAsked inIs at this
  rw [a1, a2, a3] at this
  simp at this

/-- What all bindings are told as, told from either. -/
theorem all_sim {bs rs : List BX} (h : Sim bs rs) {zs : List BI} (hp : zs.Perm (bs.map bi)) (hs : zs.Pairwise (fun a b => a.2.2.2.2.1 ≤ b.2.2.2.2.1)) : zs = rs.map bi := by
  have hp2 : zs.Perm (rs.map bi) := hp.trans (h.pm.map _)
  have hr : (rs.map bi).Pairwise (fun a b => a.2.2.2.2.1 < b.2.2.2.2.1) := by
    rw [List.pairwise_map]
    have := h.gd.so
    rw [List.pairwise_map] at this
    exact this
  have hnd : (zs.map fun a : BI => a.2.2.2.2.1).Nodup := by
    refine ((hp2.map _).nodup_iff).2 ?_
    unfold List.Nodup
    rw [List.pairwise_map]
    exact hr.imp fun {a b} hab => by omega
  have hz : zs.Pairwise (fun a b => a.2.2.2.2.1 < b.2.2.2.2.1) := by
    unfold List.Nodup at hnd
    rw [List.pairwise_map] at hnd
    exact (hs.and hnd).imp fun {a b} hab => by have := hab.1; have := hab.2; omega
  exact sorted_eq (fun a => by omega) (fun a b c h1 h2 => by omega) _ _ hz hr (fun a => hp2.mem_iff)

end Go.Proofs.Ythhbnjcebmhilaa
