/- The plain side of the statements on adverts: AdvertFull, AdvertPlays. -/
import Derived.Test.YtpdabbbemampbaaQ
namespace Go.Proofs.Ytpdabbbemampbaa
open Go Go.Eng

/-! ### AdvertFull -/

/-- The first so many are mapped. -/
structure FullA (m : List (Ad × Int)) (j : Int) : Prop where
  kn : KN m
  has : ∀ h p, mapHas m (h, p) = decide (p = 1 ∧ 100 ≤ h ∧ h < 100 + j)
  len : (m.length : Int) = j

structure FullR (m : List (Pl × Int)) (j : Int) : Prop where
  kn : KN m
  has : ∀ h p id v, mapHas m (h, p, id, v) = decide (p = 1 ∧ id = 2 ∧ v = true ∧ 100 ≤ h ∧ h < 100 + j)
  len : (m.length : Int) = j

theorem FullA.put {m : List (Ad × Int)} {j : Int} (h : FullA m j) (h0 : 0 ≤ j) (u : Int) : FullA (mapPut m (100 + j, 1) u) (j + 1) := by
  refine ⟨h.kn.put _ _, fun a p => ?_, ?_⟩
  · rw [mapHas_put h.kn, h.has, Bool.eq_iff_iff]
    simp only [Bool.or_eq_true, decide_eq_true_eq, Prod.mk.injEq]
    omega
  · rw [length_put, h.has, if_neg (by simp)]
    have := h.len
    omega

theorem FullA.again {m : List (Ad × Int)} {j k : Int} (h : FullA m j) (hk : 0 ≤ k ∧ k < j) (u : Int) : FullA (mapPut m (100 + k, 1) u) j := by
  refine ⟨h.kn.put _ _, fun a p => ?_, ?_⟩
  · rw [mapHas_put h.kn, h.has, Bool.eq_iff_iff]
    simp only [Bool.or_eq_true, decide_eq_true_eq, Prod.mk.injEq]
    omega
  · rw [length_put, h.has, if_pos (by simp; omega)]
    exact h.len

theorem FullR.put {m : List (Pl × Int)} {j : Int} (h : FullR m j) (h0 : 0 ≤ j) (u : Int) : FullR (mapPut m (100 + j, 1, 2, true) u) (j + 1) := by
  refine ⟨h.kn.put _ _, fun a p i v => ?_, ?_⟩
  · rw [mapHas_put h.kn, h.has, Bool.eq_iff_iff]
    simp only [Bool.or_eq_true, decide_eq_true_eq, Prod.mk.injEq]
    constructor
    · rintro (⟨rfl, rfl, rfl, rfl⟩ | ⟨rfl, rfl, rfl, h1, h2⟩)
      · exact ⟨rfl, rfl, rfl, by omega, by omega⟩
      · exact ⟨rfl, rfl, rfl, by omega, by omega⟩
    · rintro ⟨rfl, rfl, rfl, h1, h2⟩
      by_cases e : a = 100 + j
      · exact .inl ⟨e, rfl, rfl, rfl⟩
      · exact .inr ⟨rfl, rfl, rfl, h1, by omega⟩
  · rw [length_put, h.has, if_neg (by simp)]
    have := h.len
    omega

theorem advertFull_plain {n gone : Int} (hn : inK .u8 n) (hg : inK .u8 gone) : embrasurelaw21_AdvertFull_wp n gone (· = true) := by
  have hn := u8b hn; have hg := u8b hg
  unfold embrasurelaw21_AdvertFull_wp
  refine awake_wp (cond_f rfl ?_)
  unfold advert_New_wp
  have ek : Int.tmod (IntKind.wrap .i64 n) 30 = n % 30 := by rw [wrap_i64 (by omega) (by omega), tmod_pos hn.1]
  rw [ek]
  have hk : 0 ≤ n % 30 ∧ n % 30 < 30 := by omega
  generalize n % 30 = k at hk ⊢
  have f0 : FullA [] 0 := ⟨KN.nil, fun h p => by rw [show mapHas ([] : List (Ad × Int)) (h, p) = false from rfl]; symm; simp only [decide_eq_false_iff_not]; omega, rfl⟩
  have r0 : FullR [] 0 := ⟨KN.nil, fun h p i v => by rw [show mapHas ([] : List (Pl × Int)) (h, p, i, v) = false from rfl]; symm; simp only [decide_eq_false_iff_not]; omega, rfl⟩
  refine ⟨fun m r => ∀ _ : 20 ≤ k, FullA m 20, fun m r hm => cond_d (fun _ => rfl) (fun h20 => ?_), ?_⟩
  · have hm := hm (by omega)
    have m77 : mayA 7 7 := by decide
    have eg : IntKind.wrap .u32 (100 + (Int.tmod (IntKind.wrap .u32 gone) 20)) = 100 + gone % 20 := by
      rw [wrap_u32 (x := gone) (by omega) (by omega), tmod_pos hg.1, wrap_u32 (by omega) (by omega)]
    rw [eg]
    have hgm : 0 ≤ gone % 20 ∧ gone % 20 < 20 := by omega
    generalize gone % 20 = g at hgm ⊢
    have mg : mayA (100 + g) 1 := by unfold mayA; omega
    refine mapped_wp (fun h => absurd ⟨m77, by decide⟩ h) (fun _ _ => ?_)
    have e1 : setM m (7, 7) 50 = (10, m) := by
      unfold setM
      rw [if_neg (by decide), if_pos ⟨by rw [hm.has]; decide, by have := hm.len; omega⟩]
    rw [e1]
    refine mapped_wp (fun h => absurd ⟨mg, by decide⟩ h) (fun _ _ => ?_)
    have e2 : setM m (100 + g, 1) 0 = (0, mapDel m (100 + g, 1)) := by unfold setM; rw [if_pos (by decide)]
    rw [e2]
    refine cond_t rfl (cond_t rfl (mapped_wp (fun h => absurd ⟨m77, by decide⟩ h) (fun _ _ => ?_)))
    have hl2 : ((mapDel m (100 + g, 1)).length : Int) = 19 := by
      rw [length_del, hm.has, if_pos (by simp; omega)]
      have := hm.len; omega
    have hk2 := hm.kn.del (100 + g, 1)
    have hh2 : ∀ h p, mapHas (mapDel m (100 + g, 1)) (h, p) = decide ((h ≠ 100 + g ∨ p ≠ 1) ∧ p = 1 ∧ 100 ≤ h ∧ h < 100 + 20) := by
      intro h p
      rw [mapHas_del hm.kn, hm.has, Bool.eq_iff_iff]
      simp only [Bool.and_eq_true, Bool.not_eq_true', decide_eq_false_iff_not, decide_eq_true_eq, Prod.mk.injEq]
      omega
    have e3 : setM (mapDel m (100 + g, 1)) (7, 7) 50 = (0, mapPut (mapDel m (100 + g, 1)) (7, 7) 50) := by
      unfold setM
      rw [if_neg (by decide), if_neg (by rintro ⟨-, h⟩; omega)]
    rw [e3]
    refine cond_t rfl (mapped_wp (fun h => absurd ⟨mg, by decide⟩ h) (fun _ _ => ?_))
    have e4 : (setM (mapPut (mapDel m (100 + g, 1)) (7, 7) 50) (100 + g, 1) 50).1 = 10 := by
      unfold setM
      rw [if_neg (by decide), if_pos]
      refine ⟨?_, ?_⟩
      · rw [mapHas_put hk2, hh2]
        simp
      · rw [length_put, hh2, if_neg (by simp)]
        omega
    exact beq_iff_eq.2 e4
  · refine ⟨fun n i m r => 0 ≤ i ∧ i ≤ k ∧ n = k.toNat - i.toNat ∧ FullA m (if i < 20 then i else 20) ∧ FullR r (if i < 20 then i else 20), ⟨_, by omega, by omega, rfl, by simpa using f0, by simpa using r0⟩, ?_⟩
    rintro n i m r ⟨i0, i1, rfl, hm, hr⟩
    refine cond_d (fun hlt => ?_) (fun hge h20 => ?_)
    · rw [wrap_i64 (x := 100 + i) (by omega) (by omega), wrap_u32 (x := 100 + i) (by omega) (by omega), wrap_i64 (x := i + 1) (by omega) (by omega)]
      have mA : mayA (100 + i) 1 := by unfold mayA; omega
      have mR : mayR (100 + i) 1 2 := ⟨mA, by omega, by omega⟩
      refine mapped_wp (fun h => absurd ⟨mA, by decide⟩ h) (fun _ _ => relay_wp (fun h => absurd ⟨mR, by decide⟩ h) (fun _ _ => ?_))
      by_cases h20 : i < 20
      · rw [if_pos h20] at hm hr
        have e1 : setM m (100 + i, 1) 50 = (0, mapPut m (100 + i, 1) 50) := by
          unfold setM
          rw [if_neg (by decide), if_neg (by rintro ⟨-, h⟩; have := hm.len; omega)]
        have e2 : setM r (100 + i, 1, 2, true) 50 = (0, mapPut r (100 + i, 1, 2, true) 50) := by
          unfold setM
          rw [if_neg (by decide), if_neg (by rintro ⟨-, h⟩; have := hr.len; omega)]
        rw [e1, e2]
        have hm2 := hm.put i0 50
        refine joinP0.i (joinP1.i (cond_f (by simp [h20]) (cond_f rfl (cond_f rfl (cond_f rfl (joinP2.i (cond_t (by simpa using h20) (mapped_wp (fun h => absurd ⟨mA, by decide⟩ h) (fun _ _ => ?_)))))))))
        have e3 : setM (mapPut m (100 + i, 1) 50) (100 + i, 1) 60 = (0, mapPut (mapPut m (100 + i, 1) 50) (100 + i, 1) 60) := by
          unfold setM
          rw [if_neg (by decide), if_neg (by rintro ⟨h, -⟩; rw [hm2.has] at h; simp at h; omega)]
        rw [e3]
        have e4 : (if i + 1 < 20 then i + 1 else 20) = i + 1 := by split <;> omega
        exact cond_f rfl ⟨k.toNat - (i + 1).toNat, by omega, by omega, by omega, rfl, by rw [e4]; exact hm2.again (by omega) 60, by rw [e4]; exact hr.put i0 50⟩
      · rw [if_neg h20] at hm hr
        have e1 : setM m (100 + i, 1) 50 = (10, m) := by
          unfold setM
          rw [if_neg (by decide), if_pos ⟨by rw [hm.has]; simp; omega, by have := hm.len; omega⟩]
        have e2 : setM r (100 + i, 1, 2, true) 50 = (10, r) := by
          unfold setM
          rw [if_neg (by decide), if_pos ⟨by rw [hr.has]; simp; omega, by have := hr.len; omega⟩]
        rw [e1, e2]
        have e4 : (if i + 1 < 20 then i + 1 else 20) = 20 := by split <;> omega
        refine joinP0.i (joinP1.i (cond_f (by simp [h20]) (cond_f rfl (cond_t rfl (cond_f rfl (joinP2.i (cond_f (by simpa using h20) (cond_f rfl ⟨k.toNat - (i + 1).toNat, by omega, by omega, by omega, rfl, by rw [e4]; exact hm, by rw [e4]; exact hr⟩))))))))
    · rw [if_neg (by omega)] at hm
      exact hm

/-! ### AdvertPlays -/

/-- A map and the reference's row. -/
structure RelL {κ : Type} [DecidableEq κ] (m : List (κ × Int)) (pl : κ → Pl) (L : List Un) (b : Bool) : Prop where
  kn : KN m
  srt : L.Pairwise fun x y => befP (plU x) (plU y)
  via : ∀ u ∈ L, (plU u).2.2.2 = b
  mem : ∀ p v, (∃ k, (k, v) ∈ m ∧ pl k = p) ↔ ∃ u ∈ L, plU u = p ∧ u.2.2.2.2 = v

theorem fin_mem {p : Pl} {u : Int} {put : Bool} {y : Un} : ∀ {l : List Un}, y ∈ fin p u put l ↔ (y ∈ l ∧ plU y ≠ p) ∨ (put = false ∧ y = mkU p u)
  | [] => by cases put <;> simp [fin, insU]
  | x :: l => by
    rw [fin_cons]
    have ih := fun put => fin_mem (p := p) (u := u) (put := put) (y := y) (l := l)
    split
    · rename_i e
      rw [ih]
      constructor
      · rintro (⟨h1, h2⟩ | h)
        · exact .inl ⟨List.mem_cons_of_mem _ h1, h2⟩
        · exact .inr h
      · rintro (⟨h1, h2⟩ | h)
        · rcases List.mem_cons.1 h1 with rfl | h1
          · exact absurd e h2
          · exact .inl ⟨h1, h2⟩
        · exact .inr h
    · rename_i e
      split
      · rename_i hb
        simp only [List.mem_cons, ih, Bool.true_eq_false, false_and, or_false]
        constructor
        · rintro (rfl | rfl | h)
          · exact .inr ⟨hb.1, rfl⟩
          · exact .inl ⟨.inl rfl, e⟩
          · exact .inl ⟨.inr h.1, h.2⟩
        · rintro (⟨rfl | h1, h2⟩ | ⟨-, rfl⟩)
          · exact .inr (.inl rfl)
          · exact .inr (.inr ⟨h1, h2⟩)
          · exact .inl rfl
      · simp only [List.mem_cons, ih]
        constructor
        · rintro (rfl | h | h)
          · exact .inl ⟨.inl rfl, e⟩
          · exact .inl ⟨.inr h.1, h.2⟩
          · exact .inr h
        · rintro (⟨rfl | h1, h2⟩ | h)
          · exact .inl rfl
          · exact .inr (.inl ⟨h1, h2⟩)
          · exact .inr (.inr h)

theorem befP_tot {a b : Pl} (hv : a.2.2.2 = b.2.2.2) (hne : a ≠ b) (h : ¬ befP b a) : befP a b := by
  obtain ⟨a1, a2, a3, a4⟩ := a
  obtain ⟨b1, b2, b3, b4⟩ := b
  unfold befP at *
  simp only at *
  refine Classical.byContradiction fun hc => hne ?_
  have : a1 = b1 ∧ a2 = b2 ∧ a3 = b3 := by omega
  rw [this.1, this.2.1, this.2.2, hv]

theorem fin_srt {p : Pl} {u : Int} {b : Bool} (hp : p.2.2.2 = b) : ∀ {l : List Un} {put : Bool}, (∀ x ∈ l, (plU x).2.2.2 = b) → l.Pairwise (fun x y => befP (plU x) (plU y)) → (fin p u put l).Pairwise (fun x y => befP (plU x) (plU y))
  | [], put, _, _ => by cases put <;> simp [fin, insU]
  | x :: l, put, hv, hs => by
    rw [List.pairwise_cons] at hs
    have ih := fun put => fin_srt (u := u) hp (put := put) (l := l) (fun y hy => hv y (List.mem_cons_of_mem _ hy)) hs.2
    rw [fin_cons]
    split
    · exact ih put
    · rename_i e
      split
      · rename_i hb
        rw [List.pairwise_cons, List.pairwise_cons]
        refine ⟨fun y hy => ?_, fun y hy => ?_, ih true⟩
        · rcases List.mem_cons.1 hy with rfl | hy
          · exact hb.2
          · rw [fin_mem] at hy
            rcases hy with hy | hy
            · exact befP_tr _ _ _ hb.2 (hs.1 y hy.1)
            · cases hy.1
        · rw [fin_mem] at hy
          rcases hy with hy | hy
          · exact hs.1 y hy.1
          · cases hy.1
      · rename_i hb
        rw [List.pairwise_cons]
        refine ⟨fun y hy => ?_, ih put⟩
        rw [fin_mem] at hy
        rcases hy with hy | ⟨rfl, rfl⟩
        · exact hs.1 y hy.1
        · exact befP_tot (by rw [hv x (List.mem_cons_self ..), plU_mk, hp]) e (fun h => hb ⟨rfl, h⟩)

variable {κ : Type} [DecidableEq κ]

theorem RelL.has {m : List (κ × Int)} {pl : κ → Pl} {L : List Un} {b : Bool} (h : RelL m pl L b) (hinj : ∀ k k', pl k = pl k' → k = k') (k : κ) : mapHas m k = true ↔ ∃ x ∈ L, plU x = pl k := by
  rw [mapHas_iff]
  constructor
  · rintro ⟨v, hv⟩
    obtain ⟨x, hx, e, -⟩ := (h.mem (pl k) v).1 ⟨k, hv, rfl⟩
    exact ⟨x, hx, e⟩
  · rintro ⟨x, hx, e⟩
    obtain ⟨k', hk', e'⟩ := (h.mem (pl k) x.2.2.2.2).2 ⟨x, hx, e, rfl⟩
    rw [hinj _ _ e'] at hk'
    exact ⟨_, hk'⟩

theorem RelL.len {m : List (κ × Int)} {pl : κ → Pl} {L : List Un} {b : Bool} (h : RelL m pl L b) (hinj : ∀ k k', pl k = pl k' → k = k') : m.length = L.length := by
  have n1 : (m.map fun x => pl x.1).Nodup := by
    have := h.kn
    unfold KN at this
    rw [List.Nodup, List.pairwise_map] at this ⊢
    exact this.imp fun hne e => hne (hinj _ _ e)
  have n2 : (L.map plU).Nodup := by
    rw [List.Nodup, List.pairwise_map]
    exact h.srt.imp (fun {a b} hb (e : plU a = plU b) => befP_irr (plU b) (by rw [e] at hb; exact hb))
  have := pigeon _ (L.map plU) n1 fun p hp => by
    obtain ⟨x, hx, rfl⟩ := List.mem_map.1 hp
    obtain ⟨y, hy, e, -⟩ := (h.mem (pl x.1) x.2).1 ⟨x.1, hx, rfl⟩
    exact List.mem_map.2 ⟨y, hy, e⟩
  have := pigeon _ (m.map fun x => pl x.1) n2 fun p hp => by
    obtain ⟨x, hx, rfl⟩ := List.mem_map.1 hp
    obtain ⟨k, hk, e⟩ := (h.mem (plU x) x.2.2.2.2).2 ⟨x, hx, rfl, rfl⟩
    exact List.mem_map.2 ⟨(k, x.2.2.2.2), hk, e⟩
  simp only [List.length_map] at *
  omega

/-- Set on both sides. -/
theorem RelL.set {m : List (κ × Int)} {pl : κ → Pl} {L : List Un} {b : Bool} (h : RelL m pl L b) (hinj : ∀ k k', pl k = pl k' → k = k') {k : κ} {u : Int} (hb : (pl k).2.2.2 = b)
    (hnf : ¬ (u > 0 ∧ (∀ x ∈ L, plU x ≠ pl k) ∧ L.length ≥ 20)) : (setM m k u).1 = 0 ∧ RelL (setM m k u).2 pl (fin (pl k) u (decide (u ≤ 0)) L) b := by
  have hh := h.has hinj k
  have hlen := h.len hinj
  have hsrt := fin_srt (u := u) hb (put := decide (u ≤ 0)) h.via h.srt
  have hvia : ∀ y ∈ fin (pl k) u (decide (u ≤ 0)) L, (plU y).2.2.2 = b := by
    intro y hy
    rw [fin_mem] at hy
    rcases hy with hy | ⟨-, rfl⟩
    · exact h.via y hy.1
    · exact hb
  by_cases hu : u ≤ 0
  · have e : setM m k u = (0, mapDel m k) := by unfold setM; rw [if_pos hu]
    rw [e]
    refine ⟨rfl, h.kn.del k, hsrt, hvia, fun p v => ?_⟩
    constructor
    · rintro ⟨k', hk', rfl⟩
      obtain ⟨hne, hk'⟩ := (mem_del h.kn).1 hk'
      obtain ⟨x, hx, e1, e2⟩ := (h.mem _ _).1 ⟨k', hk', rfl⟩
      exact ⟨x, fin_mem.2 (.inl ⟨hx, fun e3 => hne (hinj _ _ (e1.symm.trans e3))⟩), e1, e2⟩
    · rintro ⟨x, hx, e1, e2⟩
      rw [fin_mem] at hx
      rcases hx with hx | hx
      · obtain ⟨k', hk', e3⟩ := (h.mem p v).2 ⟨x, hx.1, e1, e2⟩
        refine ⟨k', (mem_del h.kn).2 ⟨fun e4 => ?_, hk'⟩, e3⟩
        subst e4
        exact hx.2 (e1.trans e3.symm)
      · simp [hu] at hx
  · have hf : ¬ (mapHas m k = false ∧ 20 ≤ m.length) := by
      rintro ⟨h1, h2⟩
      refine hnf ⟨by omega, fun x hx e => ?_, by omega⟩
      rw [hh.2 ⟨x, hx, e⟩] at h1
      cases h1
    have e : setM m k u = (0, mapPut m k u) := by unfold setM; rw [if_neg hu, if_neg hf]
    rw [e]
    have hd : decide (u ≤ 0) = false := by simpa using hu
    refine ⟨rfl, h.kn.put k u, hsrt, hvia, fun p v => ?_⟩
    rw [hd]
    constructor
    · rintro ⟨k', hk', rfl⟩
      rcases (mem_put h.kn).1 hk' with ⟨rfl, rfl⟩ | ⟨hne, hk'⟩
      · exact ⟨mkU (pl k') v, fin_mem.2 (.inr ⟨rfl, rfl⟩), rfl, rfl⟩
      · obtain ⟨x, hx, e1, e2⟩ := (h.mem _ _).1 ⟨k', hk', rfl⟩
        exact ⟨x, fin_mem.2 (.inl ⟨hx, fun e3 => hne (hinj _ _ (e1.symm.trans e3))⟩), e1, e2⟩
    · rintro ⟨x, hx, e1, e2⟩
      rcases fin_mem.1 hx with hx | ⟨-, rfl⟩
      · obtain ⟨k', hk', e3⟩ := (h.mem p v).2 ⟨x, hx.1, e1, e2⟩
        refine ⟨k', (mem_put h.kn).2 (.inr ⟨fun e4 => ?_, hk'⟩), e3⟩
        subst e4
        exact hx.2 (e1.trans e3.symm)
      · subst e1
        subst e2
        exact ⟨k, (mem_put h.kn).2 (.inl ⟨rfl, rfl⟩), rfl⟩

theorem RelL.full {m : List (κ × Int)} {pl : κ → Pl} {L : List Un} {b : Bool} (h : RelL m pl L b) (hinj : ∀ k k', pl k = pl k' → k = k') {k : κ} {u : Int} (hu : u > 0) (hno : ∀ x ∈ L, plU x ≠ pl k) (hl : L.length ≥ 20) : setM m k u = (10, m) := by
  have hh := h.has hinj k
  have hlen := h.len hinj
  unfold setM
  rw [if_neg (by omega), if_pos]
  refine ⟨?_, by omega⟩
  rw [Bool.eq_false_iff]
  intro hc
  obtain ⟨x, hx, e⟩ := hh.1 hc
  exact hno x hx e

theorem RelL.last {m : List (κ × Int)} {pl : κ → Pl} {L : List Un} {b : Bool} {now : Int} {zs : List Pl} (h : RelL m pl L b) (hz : Last m pl now zs) : zs = mapL now L := by
  refine sorted_eq befP_irr befP_tr zs (mapL now L) hz.srt ?_ fun p => ?_
  · unfold mapL
    rw [List.pairwise_map]
    exact List.Pairwise.sublist List.filter_sublist h.srt
  · rw [hz.mem]
    unfold mapL
    simp only [List.mem_map, List.mem_filter, decide_eq_true_eq]
    constructor
    · rintro ⟨k, v, hk, hv, e⟩
      obtain ⟨x, hx, e1, e2⟩ := (h.mem p v).1 ⟨k, hk, e⟩
      exact ⟨x, ⟨hx, by omega⟩, e1⟩
    · rintro ⟨x, ⟨hx, hv⟩, e⟩
      obtain ⟨k, hk, e1⟩ := (h.mem p x.2.2.2.2).2 ⟨x, hx, e, rfl⟩
      exact ⟨k, _, hk, hv, e1⟩

theorem plA_inj (a b : Ad) (h : plA a = plA b) : a = b := by
  unfold plA at h
  rw [Prod.mk.injEq, Prod.mk.injEq] at h
  exact Prod.ext h.1 h.2.1

/-- The state of both sides. -/
structure Both (Own : List Ad) (M R : List Un) (own : List Ad) (m : List (Ad × Int)) (r : List (Pl × Int)) : Prop where
  oe : Own = own
  okh : okH own
  ol : own.length ≤ 8
  relm : RelL m plA M false
  ml : m.length ≤ 20
  relr : RelL r (fun k => k) R true
  rl : r.length ≤ 20

theorem Both.rv {Own : List Ad} {M R : List Un} {own : List Ad} {m : List (Ad × Int)} {r : List (Pl × Int)} (h : Both Own M R own m r) : ∀ k v, (k, v) ∈ r → k.2.2.2 = true := by
  intro k v hk
  obtain ⟨x, hx, e, -⟩ := (h.relr.mem k v).1 ⟨k, hk, rfl⟩
  rw [← e]; exact h.relr.via x hx

theorem both_told {Own : List Ad} {M R : List Un} {own : List Ad} {m : List (Ad × Int)} {r : List (Pl × Int)} (h : Both Own M R own m r) {now : Int} {seen : List Ad} (hsn : okH seen) (hsl : seen.length ≤ 40) {pub : Bool} {K : Bool → Prop} (hK : K true) :
    advert_Advert_Told_wp own m r now seen pub (fun rs_2 => embrasureref21_Advert_Told_wp Own M R now seen pub (fun rs_3 => embrasureref21_Places_wp rs_2 rs_3 (fun r_11 => K r_11))) := by
  have hlm := h.relm.len plA_inj
  have hlr := h.relr.len (fun _ _ e => e)
  have hml := h.ml
  have hrl := h.rl
  refine told_wp h.okh h.ol h.relm.kn h.ml h.relr.kn h.rl h.rv (fun Z W hZ hW => ?_)
  rw [h.relm.last hZ, h.relr.last hW, h.oe]
  refine rtold_wp hsn hsl h.ol (by omega) (by omega) (places_wp rfl ?_ hK)
  have := fold8_len (ownA own ++ (mapL now M ++ (seenA seen pub ++ mapL now R))) (out := []) (by simp)
  unfold tellL
  omega

theorem advertPlays_plain {script : List (Int × (List (Int × Int)) × Int × Int × Int × Bool × Int)} {seen : List Ad} {now : Int}
    (hs : ∀ x ∈ script, inK .i64 x.1 ∧ ((∀ a ∈ x.2.1, inK .u32 a.1 ∧ inK .i64 a.2) ∧ x.2.1.length ≤ 9223372036854775807) ∧ inK .u32 x.2.2.1 ∧ inK .i64 x.2.2.2.1 ∧ inK .i64 x.2.2.2.2.1 ∧ True ∧ inK .i64 x.2.2.2.2.2.2) (_ : script.length ≤ 9223372036854775807)
    (hsn : ∀ a ∈ seen, inK .u32 a.1 ∧ inK .i64 a.2) (_ : seen.length ≤ 9223372036854775807) (_ : inK .i64 now) : embrasurelaw21_AdvertPlays_wp script seen now (· = true) := by
  unfold embrasurelaw21_AdvertPlays_wp
  have hsn2 : okH seen := fun a ha => u32b (hsn a ha).1
  refine awake_wp (cond_f rfl (cond_d (fun _ => rfl) (fun h40 => ?_)))
  unfold advert_New_wp
  have b0 : Both [] [] [] [] [] [] := ⟨rfl, fun a ha => by simp at ha, by simp, ⟨KN.nil, .nil, by simp, by simp⟩, by simp, ⟨KN.nil, .nil, by simp, by simp⟩, by simp⟩
  refine ⟨fun n O M R o i m r => Both O M R o m r ∧ 0 ≤ i ∧ i ≤ 60 ∧ n = 60 - i.toNat, ⟨60, b0, by omega, by omega, rfl⟩, ?_⟩
  rintro n O M R o i m r ⟨hB, i0, i1, rfl⟩
  refine ⟨fun t => t = true → i < script.length ∧ i < 60, fun t ht => cond_b (fun e => ?_) (fun _ => rfl), ?_⟩
  rotate_left
  · exact cond_d (fun h => by simp only [decide_eq_true_eq]; exact fun h2 => ⟨h, h2⟩) (fun _ => by simp)
  obtain ⟨hlt, h60⟩ := ht e
  refine ⟨i0, hlt, fun x hx => cond_d (fun _ => rfl) (fun hx40 => ?_)⟩
  obtain ⟨-, ⟨hxl, hxl2⟩, hxh, -, -, -, -⟩ := hs x (List.mem_of_getElem? hx)
  have hxh := u32b hxh
  have hxok : okH x.2.1 := fun a ha => u32b (hxl a ha).1
  refine ⟨fun O M R o e f m r => Both O M R o m r ∧ e = f, fun O M R o e f m r hQ => ?_, ?_⟩
  · obtain ⟨hB, rfl⟩ := hQ
    refine ⟨fun t => t = false, fun t ht => ?_, cond_n (fun h => absurd rfl h) (fun _ => ?_)⟩
    · subst ht
      rw [wrap_i64 (by omega) (by omega)]
      exact cond_f rfl ⟨60 - (i + 1).toNat, by omega, hB, by omega, by omega, rfl⟩
    · exact both_told hB hsn2 (by omega) (K := fun r_11 => cond (!r_11) _ _) (cond_f rfl (both_told hB hsn2 (by omega) (K := fun r_12 => (!r_12) = false) rfl))
  · refine cond_e (fun _ => ?_) (fun _ => cond_e (fun _ => ?_) (fun _ => ?_))
    · by_cases hok : okOwn x.2.1
      · refine own_wp hxl2 (fun h => absurd hok h) (fun _ => rown_wp hxok (by omega) (fun h => absurd hok h) (fun _ => ⟨⟨rfl, hxok, hok.1, hB.relm, hB.ml, hB.relr, hB.rl⟩, rfl⟩))
      · refine own_wp hxl2 (fun _ => rown_wp hxok (by omega) (fun _ => ⟨hB, rfl⟩) (fun h => absurd h hok)) (fun h => absurd h hok)
    · have hml := hB.ml
      have hlm := hB.relm.len plA_inj
      refine mapped_wp (fun hbad => ?_) (fun hm hu => ?_)
      · refine ⟨fun t => t = false, fun t ht => by subst ht; exact cond_f rfl ⟨hB, rfl⟩, rmay_wp hxh.1 (cond_d (fun a => ?_) (fun a => rfl))⟩
        show decide _ = false
        simp only [decide_eq_false_iff_not]
        exact fun h => hbad ⟨a, h⟩
      · refine ⟨fun t => t = true, fun t ht => by
          subst ht
          refine cond_t rfl ?_
          have hp : (x.2.2.1, x.2.2.2.1, (0 : Int), false) = plA (x.2.2.1, x.2.2.2.1) := rfl
          refine rset_wp (p := (x.2.2.1, x.2.2.2.1, 0, false)) (by omega) (fun a b c => ?_) (fun hnf => ?_)
          · rw [hp] at b
            rw [hB.relm.full plA_inj a b c]
            exact ⟨hB, rfl⟩
          · rw [hp] at hnf ⊢
            obtain ⟨h1, h2⟩ := hB.relm.set plA_inj rfl hnf
            exact ⟨⟨hB.oe, hB.okh, hB.ol, h2, setM_len _ _ hB.ml, hB.relr, hB.rl⟩, h1⟩, rmay_wp hxh.1 (cond_d (fun a => ?_) (fun a => absurd hm a))⟩
        show decide _ = true
        simpa using hu
    · have hrl := hB.rl
      have hlr := hB.relr.len (fun _ _ e => e)
      refine relay_wp (fun hbad => ?_) (fun hm hu => ?_)
      · refine ⟨fun t => t = false, fun t ht => by subst ht; exact cond_f rfl ⟨hB, rfl⟩, rmayp_wp hxh.1 (cond_d (fun a => ?_) (fun a => rfl))⟩
        show decide _ = false
        simp only [decide_eq_false_iff_not]
        exact fun h => hbad ⟨a, h⟩
      · refine ⟨fun t => t = true, fun t ht => by
          subst ht
          refine cond_t rfl ?_
          refine rset_wp (p := (x.2.2.1, x.2.2.2.1, x.2.2.2.2.1, true)) (by omega) (fun a b c => ?_) (fun hnf => ?_)
          · rw [hB.relr.full (fun _ _ e => e) a b c]
            exact ⟨hB, rfl⟩
          · obtain ⟨h1, h2⟩ := hB.relr.set (fun _ _ e => e) rfl hnf
            exact ⟨⟨hB.oe, hB.okh, hB.ol, hB.relm, hB.ml, h2, setM_len _ _ hB.rl⟩, h1⟩, rmayp_wp hxh.1 (cond_d (fun a => ?_) (fun a => absurd hm a))⟩
        show decide _ = true
        simpa using hu

end Go.Proofs.Ytpdabbbemampbaa
