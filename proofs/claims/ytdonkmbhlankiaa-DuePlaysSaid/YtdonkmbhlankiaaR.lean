/- The table: its order, its names, what it tells. -/
import Derived.Test.YtdonkmbhlankiaaQ
import Derived.Test.YtdonkmbhlankiaaEngJ
namespace Go.Proofs.Ytdonkmbhlankiaa
open Go Go.Eng Go.Proofs Go.Sort
set_option maxRecDepth 20000
set_option maxHeartbeats 2000000

/-! Bytes compared -/
theorem cb_self : ∀ a : List UInt8, Lib.compareBytes a a = 0
  | [] => rfl
  | a :: l => by rw [Lib.compareBytes, if_neg (UInt8.lt_irrefl a), if_neg (UInt8.lt_irrefl a), cb_self l]

theorem cb_eq : ∀ a b : List UInt8, Lib.compareBytes a b = 0 → a = b
  | [], [], _ => rfl
  | [], _ :: _, h => by rw [Lib.compareBytes] at h; exact absurd h (by decide)
  | _ :: _, [], h => by rw [Lib.compareBytes] at h; exact absurd h (by decide)
  | a :: l, b :: l2, h => by
    rw [Lib.compareBytes] at h
    split at h
    · exact absurd h (by decide)
    · split at h
      · exact absurd h (by decide)
      · rename_i h1 h2
        have e : a = b := UInt8.le_antisymm (UInt8.not_lt.1 h2) (UInt8.not_lt.1 h1)
        rw [e, cb_eq l l2 h]

theorem cb_neg : ∀ a b : List UInt8, Lib.compareBytes b a = - Lib.compareBytes a b
  | [], [] => rfl
  | [], _ :: _ => rfl
  | _ :: _, [] => rfl
  | a :: l, b :: l2 => by
    rw [Lib.compareBytes, Lib.compareBytes]
    by_cases h1 : a < b
    · rw [if_pos h1, if_neg (UInt8.not_lt.2 (UInt8.le_of_lt h1)), if_pos h1]; rfl
    · by_cases h2 : b < a
      · simp [h1, h2]
      · rw [if_neg h1, if_neg h2, if_neg h2, if_neg h1, cb_neg l l2]

theorem cb_trans : ∀ a b c : List UInt8, Lib.compareBytes a b < 0 → Lib.compareBytes b c < 0 → Lib.compareBytes a c < 0
  | [], [], _, h, _ => by rw [Lib.compareBytes] at h; exact absurd h (by decide)
  | _ :: _, [], _, h, _ => by rw [Lib.compareBytes] at h; exact absurd h (by decide)
  | _, _ :: _, [], _, h => by rw [Lib.compareBytes] at h; exact absurd h (by decide)
  | [], _ :: _, _ :: _, _, _ => by rw [Lib.compareBytes]; decide
  | a :: l, b :: l2, c :: l3, h1, h2 => by
    rw [Lib.compareBytes] at h1 h2 ⊢
    by_cases hab : a < b
    · by_cases hbc : b < c
      · rw [if_pos (UInt8.lt_trans hab hbc)]; decide
      · rw [if_neg hbc] at h2
        by_cases hcb : c < b
        · rw [if_pos hcb] at h2; exact absurd h2 (by decide)
        · have e : b = c := UInt8.le_antisymm (UInt8.not_lt.1 hcb) (UInt8.not_lt.1 hbc)
          rw [← e, if_pos hab]; decide
    · rw [if_neg hab] at h1
      by_cases hba : b < a
      · rw [if_pos hba] at h1; exact absurd h1 (by decide)
      · have e : a = b := UInt8.le_antisymm (UInt8.not_lt.1 hba) (UInt8.not_lt.1 hab)
        rw [if_neg hba] at h1
        rw [e]
        by_cases hbc : b < c
        · rw [if_pos hbc]; decide
        · rw [if_neg hbc] at h2 ⊢
          by_cases hcb : c < b
          · rw [if_pos hcb] at h2; exact absurd h2 (by decide)
          · rw [if_neg hcb] at h2 ⊢
            exact cb_trans l l2 l3 h1 h2

theorem bytesLess_cb : ∀ a b : List UInt8, Op.bytesLess a b = decide (Lib.compareBytes a b < 0)
  | [], [] => by rw [Lib.compareBytes]; rfl
  | [], _ :: _ => by rw [Lib.compareBytes]; rfl
  | _ :: _, [] => by rw [Lib.compareBytes]; rfl
  | a :: l, b :: l2 => by
    rw [Op.bytesLess, bytesLess_cb l l2, Lib.compareBytes]
    by_cases h1 : a < b
    · simp [h1]
    · by_cases h2 : b < a
      · have : a ≠ b := fun e => by rw [e] at h2; exact UInt8.lt_irrefl b h2
        simp [h1, h2, this]
      · have e : a = b := UInt8.le_antisymm (UInt8.not_lt.1 h2) (UInt8.not_lt.1 h1)
        simp [e]

theorem cmpB_self (a : ByteArray) : cmpB a a = 0 := cb_self _
theorem cmpB_eq {a b : ByteArray} (h : cmpB a b = 0) : a = b := by
  have := cb_eq _ _ h
  obtain ⟨⟨la⟩⟩ := a
  obtain ⟨⟨lb⟩⟩ := b
  simp only at this
  rw [this]
theorem cmpB_neg (a b : ByteArray) : cmpB b a = - cmpB a b := cb_neg _ _
theorem cmpB_trans {a b c : ByteArray} (h1 : cmpB a b < 0) (h2 : cmpB b c < 0) : cmpB a c < 0 := cb_trans _ _ _ h1 h2

/-! The order -/
abbrev TM := List (ByteArray × Int)
def bef (m : TM) (a b : ByteArray) : Int := if mapGet m a 0 < mapGet m b 0 then -1 else if mapGet m b 0 < mapGet m a 0 then 1 else cmpB a b

theorem bef_lt {m : TM} {a b : ByteArray} : bef m a b < 0 ↔ mapGet m a 0 < mapGet m b 0 ∨ (mapGet m a 0 = mapGet m b 0 ∧ cmpB a b < 0) := by
  unfold bef
  by_cases h1 : mapGet m a 0 < mapGet m b 0
  · rw [if_pos h1]; exact ⟨fun _ => Or.inl h1, fun _ => by decide⟩
  · rw [if_neg h1]
    by_cases h2 : mapGet m b 0 < mapGet m a 0
    · rw [if_pos h2]; constructor
      · intro h; exact absurd h (by decide)
      · rintro (h | ⟨h, _⟩) <;> omega
    · rw [if_neg h2]; constructor
      · intro h; exact Or.inr ⟨by omega, h⟩
      · rintro (h | ⟨_, h⟩)
        · omega
        · exact h

theorem bef_irr {m : TM} {a : ByteArray} : ¬ bef m a a < 0 := by
  rw [bef_lt, cmpB_self]; omega
theorem bef_trans {m : TM} {a b c : ByteArray} (h1 : bef m a b < 0) (h2 : bef m b c < 0) : bef m a c < 0 := by
  rw [bef_lt] at *
  rcases h1 with h1 | ⟨h1, k1⟩ <;> rcases h2 with h2 | ⟨h2, k2⟩
  · left; omega
  · left; omega
  · left; omega
  · right; exact ⟨by omega, cmpB_trans k1 k2⟩
theorem bef_tot {m : TM} {a b : ByteArray} (h1 : ¬ bef m a b < 0) (h2 : ¬ bef m b a < 0) : a = b := by
  rw [bef_lt] at h1 h2
  have := cmpB_neg a b
  have e : mapGet m a 0 = mapGet m b 0 := by omega
  have h3 : ¬ cmpB a b < 0 := fun h => h1 (Or.inr ⟨e, h⟩)
  have h4 : ¬ cmpB b a < 0 := fun h => h2 (Or.inr ⟨e.symm, h⟩)
  exact cmpB_eq (by omega)

theorem bef_swo (m : TM) : SWO (ltf (bef m)) where
  irrefl x := decide_eq_false bef_irr
  trans x y z h1 h2 := decide_eq_true (bef_trans (of_decide_eq_true h1) (of_decide_eq_true h2))
  ntrans x y z h1 h2 := by
    have h1 := of_decide_eq_false h1
    have h2 := of_decide_eq_false h2
    refine decide_eq_false fun h => ?_
    by_cases h3 : bef m y x < 0
    · by_cases h4 : bef m z y < 0
      · exact bef_irr (bef_trans h (bef_trans h4 h3))
      · rw [bef_tot h2 h4] at h1; exact h1 h
    · rw [bef_tot h1 h3] at h; exact h2 h

theorem nan_wp {x : Int} {K : Bool → Prop} (h : K false) : cmp_isNaN_int_wp x K := by
  unfold cmp_isNaN_int_wp
  rw [show (x != x) = false by simp]; exact h

theorem or_wp {x y : Int} {K : Int → Prop} (h : K (if x ≠ 0 then x else y)) : cmp_Or_int_wp [x, y] K := by
  unfold cmp_Or_int_wp
  refine ⟨fun n i => ∃ k : Nat, i = k ∧ k ≤ 2 ∧ (k = 0 ∨ x = 0) ∧ (k ≤ 1 ∨ y = 0) ∧ n = 2 - k, ⟨_, 0, rfl, by omega, Or.inl rfl, Or.inl (by omega), rfl⟩, ?_⟩
  rintro n i ⟨k, rfl, hk, h0, h1, rfl⟩
  have hl : ([x, y] : List Int).length = 2 := rfl
  rw [hl]
  refine cond_d (fun hlt => ⟨by omega, by omega, fun z hz => ?_⟩) (fun hge => ?_)
  · rw [Int.toNat_natCast] at hz
    rw [wp1 (by omega)]
    have hk2 : k = 0 ∨ k = 1 := by omega
    rcases hk2 with rfl | rfl
    · obtain rfl : x = z := by simpa using hz
      refine cond_n (fun hne => ?_) (fun he => ⟨1, by omega, 1, rfl, by omega, Or.inr he, Or.inl (by omega), rfl⟩)
      rw [if_pos hne] at h; exact h
    · obtain rfl : y = z := by simpa using hz
      have hx : x = 0 := by omega
      rw [if_neg (by omega)] at h
      refine cond_n (fun hne => h) (fun he => ⟨0, by omega, 2, rfl, by omega, Or.inr hx, Or.inr he, rfl⟩)
  · have hx : x = 0 := by omega
    have hy : y = 0 := by omega
    rw [if_neg (by omega), hy] at h; exact h

theorem bef_wp {m : TM} {a b : ByteArray} {K : Int → Prop} (h : K (bef m a b)) : due_Table_before_wp m a b K := by
  unfold due_Table_before_wp cmp_Compare_int_wp strings_Compare_wp internal_bytealg_CompareString_wp
  unfold bef at h
  refine nan_wp (nan_wp ?_)
  dsimp only [cond_false]
  refine cond_d (fun h1 => or_wp ?_) (fun h1 => cond_d (fun h2 => or_wp ?_) (fun h2 => or_wp ?_))
  · rw [if_pos h1] at h
    exact h
  · rw [if_neg (by omega), if_pos (by omega)] at h
    exact h
  · rw [if_neg h1, if_neg (by omega)] at h
    exact h

/-! The table as a list in order -/
def elt (p q : ByteArray × Int) : Prop := p.2 < q.2 ∨ (p.2 = q.2 ∧ cmpB p.1 q.1 < 0)
structure Rep (m L : TM) : Prop where
  kn : KN m
  perm : L.Perm m
  sorted : L.Pairwise elt

theorem elt_irr (p : ByteArray × Int) : ¬ elt p p := by
  unfold elt; rw [cmpB_self]; omega
theorem elt_trans {p q r : ByteArray × Int} (h1 : elt p q) (h2 : elt q r) : elt p r := by
  unfold elt at *
  rcases h1 with h1 | ⟨h1, k1⟩ <;> rcases h2 with h2 | ⟨h2, k2⟩
  · left; omega
  · left; omega
  · left; omega
  · right; exact ⟨by omega, cmpB_trans k1 k2⟩
theorem elt_tot {p q : ByteArray × Int} (h1 : ¬ elt p q) (h : p.1 ≠ q.1) : elt q p := by
  unfold elt at *
  have := cmpB_neg p.1 q.1
  have h2 : cmpB p.1 q.1 ≠ 0 := fun e => h (cmpB_eq e)
  by_cases h3 : q.2 < p.2
  · exact Or.inl h3
  · right
    have h4 : q.2 = p.2 := by omega
    refine ⟨h4, ?_⟩
    have h5 : ¬ cmpB p.1 q.1 < 0 := fun h => h1 (Or.inr ⟨h4.symm, h⟩)
    omega

theorem Rep.get {m L : TM} (h : Rep m L) {p : ByteArray × Int} (hp : p ∈ L) : mapGet m p.1 0 = p.2 := mapGet_mem h.kn (h.perm.mem_iff.1 hp)
theorem Rep.nd {m L : TM} (h : Rep m L) : (L.map fun x => x.1).Nodup := (h.perm.map _).nodup_iff.2 h.kn
theorem Rep.len {m L : TM} (h : Rep m L) : L.length = m.length := h.perm.length_eq

theorem exists_rep (m : TM) (h : KN m) : ∃ L, Rep m L := by
  have key : ∀ m : TM, (m.map fun x => x.1).Nodup → ∃ L : TM, L.Perm m ∧ L.Pairwise elt := by
    intro m
    induction m with
    | nil => exact fun _ => ⟨[], List.Perm.refl _, List.Pairwise.nil⟩
    | cons p m ih =>
      intro h
      rw [List.map_cons, List.nodup_cons] at h
      obtain ⟨L, h1, h2⟩ := ih h.2
      have hne : ∀ q ∈ L, q.1 ≠ p.1 := fun q hq e => h.1 (by rw [← e]; exact List.mem_map_of_mem (h1.mem_iff.1 hq))
      have ins : ∀ L : TM, L.Pairwise elt → (∀ q ∈ L, q.1 ≠ p.1) → ∃ M : TM, M.Perm (p :: L) ∧ M.Pairwise elt := by
        intro L
        induction L with
        | nil => exact fun _ _ => ⟨[p], List.Perm.refl _, List.pairwise_singleton ..⟩
        | cons q L ih2 =>
          intro hs hn
          rw [List.pairwise_cons] at hs
          by_cases hlt : elt p q
          · refine ⟨p :: q :: L, List.Perm.refl _, List.pairwise_cons.2 ⟨fun r hr => ?_, List.pairwise_cons.2 hs⟩⟩
            rcases List.mem_cons.1 hr with rfl | hr
            · exact hlt
            · exact elt_trans hlt (hs.1 r hr)
          · obtain ⟨M, hM1, hM2⟩ := ih2 hs.2 (fun r hr => hn r (List.mem_cons_of_mem _ hr))
            refine ⟨q :: M, (List.Perm.cons q hM1).trans (List.Perm.swap p q L), List.pairwise_cons.2 ⟨fun r hr => ?_, hM2⟩⟩
            rcases List.mem_cons.1 (hM1.mem_iff.1 hr) with rfl | hr
            · exact elt_tot hlt (fun e => hn q List.mem_cons_self e.symm)
            · exact hs.1 r hr
      obtain ⟨M, hM1, hM2⟩ := ins L h2 hne
      exact ⟨M, hM1.trans (List.Perm.cons p h1), hM2⟩
  obtain ⟨L, h1, h2⟩ := key m h
  exact ⟨L, h, h1, h2⟩

theorem keys_wp {σ : Type} {s : σ} {Y : ByteArray → σ → (Bool → σ → Prop) → Prop} {m : TM} {K : σ → Prop} (J : TM → σ → Prop) (h0 : J m s) (hend : ∀ s, J [] s → K s)
    (hstep : ∀ lf i x s (N : Bool → σ → Prop), lf[i]? = some x → J lf s → (∀ s', J (lf.eraseIdx i) s' → N true s') → Y x.1 s N) : maps_Keys_map_string_int_string_int__c1_wp s Y m K := by
  unfold maps_Keys_map_string_int_string_int__c1_wp
  refine ⟨fun n lf s => J lf s ∧ n = lf.length, ⟨_, h0, rfl⟩, ?_⟩
  rintro n lf s ⟨hJ, rfl⟩
  refine ⟨fun h => ?_, fun i x hx => ?_⟩
  · subst h; exact hend s hJ
  · refine hstep lf i x s _ hx hJ fun s' h' => ?_
    have hi : i < lf.length := by
      rcases Nat.lt_or_ge i lf.length with h | h
      · exact h
      · rw [List.getElem?_eq_none h] at hx; cases hx
    exact ⟨_, by rw [List.length_eraseIdx_of_lt hi]; omega, h', rfl⟩

theorem names_wp {m L : TM} {K : List ByteArray → Prop} (h : Rep m L) (hl : m.length ≤ 255) (hK : K (L.map fun x => x.1)) : due_Table_Names_wp m K := by
  unfold due_Table_Names_wp maps_Keys_map_string_int_string_int_wp slices_SortedFunc_string_wp slices_Collect_string_wp slices_AppendSeq_sl_string_string_wp
  refine joinP1.i (keys_wp (J := fun lf s => s.1 = 0 ∧ ∃ done : TM, s.2 = done.map (fun x => x.1) ∧ (done ++ lf).Perm m) ⟨rfl, [], rfl, List.Perm.refl _⟩ ?_ ?_)
  · rintro ⟨s1, s2⟩ ⟨h1, done, h2, h3⟩
    refine ⟨h1, ?_⟩
    dsimp only at h2
    subst h2
    rw [List.append_nil] at h3
    have hy : Ord (bef m) () (fun x_1 x_2 s K_1 => due_Table_before_wp m x_1 x_2 (fun (r : Int) => K_1 r s)) := fun a b K hK => bef_wp hK
    refine sortFunc_wp hy (bef_swo m) (by rw [List.length_map, h3.length_eq]; exact hl) fun ys hp hs => ?_
    have e : ys = L.map fun x => x.1 := by
      refine sorted_eq (r := fun a b => bef m a b < 0) (fun _ => bef_irr) (fun _ _ _ => bef_trans) _ _ ?_ ?_ (fun a => ?_)
      · have nd : ys.Nodup := hp.nodup_iff.2 ((h3.map _).nodup_iff.2 h.kn)
        refine (hs.and nd).imp fun {a b} hab => ?_
        have h5 : ¬ bef m b a < 0 := of_decide_eq_false hab.1
        by_cases h6 : bef m a b < 0
        · exact h6
        · exact absurd (bef_tot h6 h5) hab.2
      · rw [List.pairwise_map]
        refine List.Pairwise.imp_of_mem (fun {a b} ha hb hab => ?_) h.sorted
        rw [bef_lt, h.get ha, h.get hb]; exact hab
      · rw [hp.mem_iff, (h3.map _).mem_iff, (h.perm.map _).mem_iff]
    rw [e]; exact hK
  · rintro lf i x ⟨s1, s2⟩ N hx ⟨h1, done, h2, h3⟩ hN
    refine ⟨h1, ?_, hN _ ⟨rfl, done ++ [x], ?_, ?_⟩⟩
    · have := h3.length_eq
      rw [List.length_append] at this
      rw [h2, List.length_map]
      simp only [List.length_cons, List.length_nil]
      omega
    · dsimp only at h2 ⊢
      rw [h2, List.map_append]; rfl
    · refine List.Perm.trans ?_ h3
      rw [List.append_assoc]
      exact List.Perm.append_left done (eraseIdx_perm lf i x hx).symm

theorem next_wp {m L : TM} {K : ByteArray → Int → Bool → Prop} (h : Rep m L) (hl : m.length ≤ 1000) (h0 : L = [] → K (ByteArray.mk ([]).toArray) 0 false) (h1 : ∀ p M, L = p :: M → K p.1 p.2 true) : due_Table_Next_wp m K := by
  unfold due_Table_Next_wp
  refine cond_e (fun hz => ?_) (fun hz => ?_)
  · refine h0 (List.eq_nil_of_length_eq_zero ?_)
    rw [h.len]; omega
  · obtain ⟨p, M, hL⟩ : ∃ p M, L = p :: M := by
      cases L with
      | nil => have := h.len; rw [List.length_nil] at this; omega
      | cons p M => exact ⟨p, M, rfl⟩
    have hp : p ∈ L := by rw [hL]; exact List.mem_cons_self
    have key := h1 p M hL
    refine joinP2.i (keys_wp (J := fun lf (s : Nat × Bool × ByteArray) => s.1 = 0 ∧ ∃ done : TM, (done ++ lf).Perm m ∧ (s.2.1 = false → done = []) ∧ (s.2.1 = true → (∃ q ∈ done, q.1 = s.2.2) ∧ ∀ q ∈ done, ¬ bef m q.1 s.2.2 < 0)) ⟨rfl, [], List.Perm.refl _, fun _ => rfl, fun e => absurd e (by simp)⟩ ?_ ?_)
    · rintro ⟨s1, s2, s3⟩ ⟨e1, done, hd, hf, ht⟩
      refine ⟨e1, ?_⟩
      rw [List.append_nil] at hd
      dsimp only at hf ht ⊢
      have hs2 : s2 = true := by
        cases s2 with
        | true => rfl
        | false =>
          have := hf rfl
          subst this
          have := hd.length_eq
          rw [List.length_nil] at this
          omega
      obtain ⟨⟨q, hq, rfl⟩, hmin⟩ := ht hs2
      have hqL : q ∈ L := h.perm.mem_iff.2 (hd.mem_iff.1 hq)
      have hpq : q = p := by
        have h2 : ¬ bef m p.1 q.1 < 0 := hmin p (hd.mem_iff.2 (h.perm.mem_iff.1 hp))
        rw [hL] at hqL
        rcases List.mem_cons.1 hqL with e | hqM
        · exact e
        · have := h.sorted
          rw [hL, List.pairwise_cons] at this
          have h3 := this.1 q hqM
          refine absurd ?_ h2
          rw [bef_lt, h.get hp, h.get (by rw [hL]; exact hqL)]
          exact h3
      rw [hpq, h.get hp]; exact key
    · rintro lf i x ⟨s1, s2, s3⟩ N hx ⟨e1, done, hd, hf, ht⟩ hN
      dsimp only at e1 hf ht ⊢
      have hd2 : (done ++ [x] ++ lf.eraseIdx i).Perm m := by
        refine List.Perm.trans ?_ hd
        rw [List.append_assoc]
        exact List.Perm.append_left done (eraseIdx_perm lf i x hx).symm
      refine ⟨e1, ?_⟩
      refine ⟨fun t => (t = true → s2 = false ∨ bef m x.1 s3 < 0) ∧ (t = false → s2 = true ∧ ¬ bef m x.1 s3 < 0), ?_, ?_⟩
      · rintro t ⟨ht1, ht2⟩
        refine cond_b (fun h => hN _ ⟨rfl, done ++ [x], hd2, fun e => absurd e (by simp), fun _ => ⟨⟨x, by simp, rfl⟩, fun q hq => ?_⟩⟩) (fun h => hN _ ⟨rfl, done ++ [x], hd2, fun e => ?_, fun _ => ?_⟩)
        · rcases List.mem_append.1 hq with hq | hq
          · rcases ht1 h with h2 | h2
            · rw [hf h2] at hq; cases hq
            · intro h3
              cases s2 with
              | false => rw [hf rfl] at hq; cases hq
              | true => exact (ht rfl).2 q hq (bef_trans h3 h2)
          · rw [List.mem_singleton.1 hq]; exact bef_irr
        · rw [(ht2 h).1] at e; cases e
        · obtain ⟨h2, h3⟩ := ht2 h
          obtain ⟨⟨q, hq, e⟩, hmin⟩ := ht h2
          refine ⟨⟨q, by simp [hq], e⟩, fun r hr => ?_⟩
          rcases List.mem_append.1 hr with hr | hr
          · exact hmin r hr
          · rw [List.mem_singleton.1 hr]; exact h3
      · refine cond_b (fun h => ⟨fun _ => Or.inl (by simpa using h), fun e => absurd e (by simp)⟩) (fun h => bef_wp ?_)
        have h2 : s2 = true := by simpa using h
        refine ⟨fun e => Or.inr (by simpa using e), fun e => ⟨h2, by simpa using e⟩⟩

theorem nd_of_map {α β : Type} (f : α → β) {l : List α} (h : (l.map f).Nodup) : l.Nodup := by
  unfold List.Nodup at h
  rw [List.pairwise_map] at h
  exact h.imp fun hab e => hab (by rw [e])

theorem Rep.tail {m L : TM} {p : ByteArray × Int} (h : Rep m (p :: L)) : Rep (mapDel m p.1) L := by
  have hnd := h.nd
  rw [List.map_cons, List.nodup_cons] at hnd
  have hs := h.sorted
  rw [List.pairwise_cons] at hs
  refine ⟨h.kn.del _, ?_, hs.2⟩
  have nd2 : (mapDel m p.1).Nodup := nd_of_map _ (h.kn.del p.1)
  have nd1 : L.Nodup := nd_of_map _ hnd.2
  refine (List.perm_ext_iff_of_nodup nd1 nd2).2 fun q => ?_
  obtain ⟨q1, q2⟩ := q
  rw [mem_del h.kn]
  constructor
  · intro hq
    refine ⟨fun e => hnd.1 (by rw [← e]; exact List.mem_map.2 ⟨(q1, q2), hq, rfl⟩), h.perm.mem_iff.1 (List.mem_cons_of_mem _ hq)⟩
  · rintro ⟨hne, hq⟩
    rcases List.mem_cons.1 (h.perm.mem_iff.2 hq) with e | hq
    · exact absurd (congrArg Prod.fst e) hne
    · exact hq

/-- What is told up to a time: each call is answered as `step` says, where `ok` holds. -/
def TellP {σ : Type} (ok : ByteArray → Int → σ → Prop) (step : ByteArray → Int → σ → Bool × σ) (t : Int) : TM → σ → (TM → σ → Prop) → Prop
  | [], s, K => K [] s
  | p :: L, s, K => if t < p.2 then K (p :: L) s else ok p.1 p.2 s ∧ if (step p.1 p.2 s).1 = true then TellP ok step t L (step p.1 p.2 s).2 K else K L (step p.1 p.2 s).2

theorem due_wp {σ : Type} {s : σ} {Y : ByteArray → Int → σ → TM → (Bool → σ → TM → Prop) → Prop} {ok : ByteArray → Int → σ → Prop} {step : ByteArray → Int → σ → Bool × σ} {m L : TM} {t : Int} {K : TM → σ → Prop}
    (hY : ∀ x a s m (N : Bool → σ → TM → Prop), ok x a s → N (step x a s).1 (step x a s).2 m → Y x a s m N) (h : Rep m L) (hl : m.length ≤ 255) (hK : TellP ok step t L s (fun L' s' => ∀ m', Rep m' L' → m'.length ≤ m.length → K m' s')) : due_Table_Due_c1_wp s Y m t K := by
  unfold due_Table_Due_c1_wp
  refine ⟨fun n m1 s1 => ∃ L1, Rep m1 L1 ∧ m1.length ≤ m.length ∧ TellP ok step t L1 s1 (fun L' s' => ∀ m', Rep m' L' → m'.length ≤ m.length → K m' s') ∧ n = L1.length, ⟨_, L, h, Nat.le_refl _, hK, rfl⟩, ?_⟩
  rintro n m1 s1 ⟨L1, h1, hm1, hT, rfl⟩
  refine next_wp h1 (by omega) (fun e => ?_) (fun p M e => ?_)
  · subst e
    refine joinP1.i ?_
    exact hT m1 h1 hm1
  · subst e
    rw [TellP] at hT
    refine joinP1.i ?_
    show cond (decide (t < p.2)) _ _
    refine cond_d (fun h2 => ?_) (fun h2 => ?_)
    · rw [if_pos h2] at hT
      exact hT m1 h1 hm1
    · rw [if_neg h2] at hT
      unfold due_Table_Drop_wp
      refine hY _ _ _ _ _ hT.1 ?_
      have h3 := h1.tail
      have hm2 : (mapDel m1 p.1).length ≤ m.length := by
        have := length_del (m := m1) (k := p.1)
        split at this <;> omega
      refine cond_b (fun hg => ?_) (fun hg => ?_)
      · rw [if_neg (by simpa using hg)] at hT
        exact hT.2 _ h3 hm2
      · rw [if_pos (by simpa using hg)] at hT
        exact ⟨M.length, by simp, M, h3, hm2, hT.2, rfl⟩

end Go.Proofs.Ytdonkmbhlankiaa
