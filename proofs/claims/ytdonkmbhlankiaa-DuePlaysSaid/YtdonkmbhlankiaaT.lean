/- The law of the table: plays. -/
import Derived.Test.YtdonkmbhlankiaaS
namespace Go.Proofs.Ytdonkmbhlankiaa
open Go Go.Eng Go.Proofs Go.Sort
set_option maxRecDepth 20000
set_option maxHeartbeats 2000000

structure Bd (m : TM) : Prop where
  len : m.length ≤ 200
  vals : ∀ p ∈ m, 0 ≤ p.2 ∧ p.2 ≤ 1099511627776
  sz : ∀ p ∈ m, p.1.size ≤ 60

theorem Rep.of_mem {m L : TM} (hk : KN m) (hs : L.Pairwise elt) (h : ∀ q, q ∈ L ↔ q ∈ m) : Rep m L := by
  refine ⟨hk, (List.perm_ext_iff_of_nodup (hs.imp fun {a b} hab e => ?_) (nd_of_map _ hk)).2 h, hs⟩
  rw [e] at hab; exact elt_irr b hab

/-! The document's table -/
theorem find_wp {L : TM} {name : ByteArray} {K : Int → Prop} (hl : L.length ≤ 1000) (h0 : (∀ p ∈ L, p.1 ≠ name) → K (-1)) (h1 : ∀ A q B, L = A ++ q :: B → q.1 = name → K ((A.length : Nat) : Int)) : embrasureref06_Table_find_wp L name K := by
  unfold embrasureref06_Table_find_wp
  refine ⟨fun n i => ∃ k : Nat, i = k ∧ k ≤ L.length ∧ (∀ p ∈ L.take k, p.1 ≠ name) ∧ n = L.length - k, ⟨_, 0, rfl, Nat.zero_le _, by simp, rfl⟩, ?_⟩
  rintro n i ⟨k, rfl, hk, hn, rfl⟩
  refine cond_d (fun h => ⟨by omega, by omega, fun x hx => ?_⟩) (fun h => ?_)
  · rw [Int.toNat_natCast] at hx
    have hk2 : k < L.length := by omega
    have e : L = L.take k ++ x :: L.drop (k + 1) := by
      rw [List.getElem?_eq_getElem hk2] at hx
      cases hx
      rw [← List.drop_eq_getElem_cons hk2, List.take_append_drop]
    rw [ba_beq]
    refine cond_d (fun h2 => ?_) (fun h2 => ?_)
    · have := h1 _ x _ e h2
      rw [List.length_take, Nat.min_eq_left hk] at this
      exact this
    · refine ⟨L.length - (k + 1), by omega, k + 1, wp1 (by omega), by omega, fun p hp => ?_, rfl⟩
      rw [List.take_add_one, hx] at hp
      rcases List.mem_append.1 hp with hp | hp
      · exact hn p hp
      · rw [List.mem_singleton.1 (show p ∈ [x] from hp)]; exact h2
  · refine h0 ?_
    rw [List.take_of_length_le (by omega)] at hn
    exact hn

theorem rdrop_wp {L : TM} {name : ByteArray} {K : Bool → TM → Prop} (hl : L.length ≤ 1000) (h0 : (∀ p ∈ L, p.1 ≠ name) → K false L) (h1 : ∀ A q B, L = A ++ q :: B → q.1 = name → K true (A ++ B)) : embrasureref06_Table_Drop_wp L name K := by
  unfold embrasureref06_Table_Drop_wp
  refine find_wp hl (fun h => cond_t (by decide) (h0 h)) (fun A q B e hq => ?_)
  have hlen : L.length = A.length + (B.length + 1) := by rw [e]; simp
  refine cond_f (decide_eq_false (by omega)) ?_
  rw [wp1 (by omega)]
  have e1 : (L.take (Int.toNat ((A.length : Nat) : Int))).drop 0 = A := by rw [Int.toNat_natCast, List.drop_zero, e, List.take_left']; rfl
  have e2 : (L.take L.length).drop (Int.toNat ((A.length + 1 : Nat) : Int)) = B := by
    rw [Int.toNat_natCast, List.take_length, e, show A ++ q :: B = (A ++ [q]) ++ B by simp, List.drop_left']
    simp
  rw [e1, e2]
  refine ⟨by omega, by omega, by omega, by omega, by simp; omega, by simp; omega, ?_⟩
  rw [List.nil_append]
  exact h1 A q B e hq

theorem rtake_nil {L : TM} {now : Int} {K : ByteArray → Int → Bool → TM → Prop} (h : L = [] ∨ ∃ p M, L = p :: M ∧ p.2 > now) (hK : K (ByteArray.mk ([]).toArray) 0 false L) : embrasureref06_Table_Take_wp L now K := by
  unfold embrasureref06_Table_Take_wp
  refine ⟨fun t => t = true, ?_, ?_⟩
  · rintro t rfl; exact hK
  · rcases h with rfl | ⟨p, M, rfl, hp⟩
    · exact cond_t (by decide) rfl
    · refine cond_f (by simp <;> omega) ⟨by decide, by simp <;> omega, fun x hx => ?_⟩
      obtain rfl : p = x := by simpa using hx
      exact decide_eq_true hp

theorem rtake_cons {M : TM} {p : ByteArray × Int} {now : Int} {K : ByteArray → Int → Bool → TM → Prop} (h : ¬ p.2 > now) (hK : K p.1 p.2 true M) : embrasureref06_Table_Take_wp (p :: M) now K := by
  unfold embrasureref06_Table_Take_wp
  refine ⟨fun t => t = false, ?_, ?_⟩
  · rintro t rfl
    refine ⟨by decide, by simp <;> omega, fun x hx => ?_⟩
    obtain rfl : p = x := by simpa using hx
    refine ⟨by decide, by simp <;> omega, ?_⟩
    rw [List.take_length]; exact hK
  · refine cond_f (by simp <;> omega) ⟨by decide, by simp <;> omega, fun x hx => ?_⟩
    obtain rfl : p = x := by simpa using hx
    exact decide_eq_false h

theorem less_wp {a b : ByteArray} {K : Bool → Prop} (ha : a.size ≤ 1000) (h : K (decide (cmpB a b < 0))) : embrasureref06_less_wp a b K := by
  unfold embrasureref06_less_wp
  have la : a.data.toList.length = a.size := rfl
  have lb : b.data.toList.length = b.size := rfl
  refine joinP0.i ⟨fun n i => ∃ k : Nat, i = k ∧ k ≤ a.size ∧ k ≤ b.size ∧ Lib.compareBytes (a.data.toList.drop k) (b.data.toList.drop k) = cmpB a b ∧ n = a.size - k, ⟨_, 0, rfl, Nat.zero_le _, Nat.zero_le _, rfl, rfl⟩, ?_⟩
  rintro n i ⟨k, rfl, hka, hkb, hc, rfl⟩
  refine ⟨fun t => (t = true ↔ k < a.size ∧ k < b.size), ?_, ?_⟩
  · rintro t htt
    refine cond_b (fun ht => ?_) (fun ht => ?_)
    · obtain ⟨h1, h2⟩ := htt.1 ht
      have ea : a[k]? = some a[k] := getElem?_pos a k h1
      have eb : b[k]? = some b[k] := getElem?_pos b k h2
      have da : a.data.toList.drop k = a[k] :: a.data.toList.drop (k + 1) := by
        rw [List.drop_eq_getElem_cons (by omega)]; rfl
      have db : b.data.toList.drop k = b[k] :: b.data.toList.drop (k + 1) := by
        rw [List.drop_eq_getElem_cons (by omega)]; rfl
      rw [da, db, Lib.compareBytes] at hc
      refine ⟨a[k], by omega, by rw [Int.toNat_natCast]; exact ea, b[k], by omega, by rw [Int.toNat_natCast]; exact eb, ?_⟩
      refine cond_n (fun hne => ?_) (fun he => ?_)
      · refine ⟨a[k], by omega, by rw [Int.toNat_natCast]; exact ea, b[k], by omega, by rw [Int.toNat_natCast]; exact eb, ?_⟩
        have e : decide (((a[k].toNat : Nat) : Int) < ((b[k].toNat : Nat) : Int)) = decide (cmpB a b < 0) := by
          rw [← hc]
          by_cases h3 : a[k] < b[k]
          · have h4 : a[k].toNat < b[k].toNat := UInt8.lt_iff_toNat_lt.1 h3
            rw [if_pos h3, decide_eq_true (by omega)]; rfl
          · have h4 : ¬ a[k].toNat < b[k].toNat := fun h => h3 (UInt8.lt_iff_toNat_lt.2 h)
            have h5 : b[k] < a[k] := UInt8.lt_iff_toNat_lt.2 (by omega)
            rw [if_neg h3, if_pos h5, decide_eq_false (by omega)]; rfl
        rw [e]; exact h
      · have he2 : a[k] = b[k] := UInt8.toNat_inj.1 (by omega)
        rw [he2, if_neg (UInt8.lt_irrefl _), if_neg (UInt8.lt_irrefl _)] at hc
        exact ⟨a.size - (k + 1), by omega, k + 1, wp1 (by omega), by omega, by omega, hc, rfl⟩
    · have hno : ¬ (k < a.size ∧ k < b.size) := fun hh => by rw [htt.2 hh] at ht; cases ht
      have e : decide (((a.size : Nat) : Int) < ((b.size : Nat) : Int)) = decide (cmpB a b < 0) := by
        rw [← hc]
        by_cases h1 : k < a.size
        · have h2 : k = b.size := by omega
          rw [List.drop_eq_nil_of_le (show b.data.toList.length ≤ k by omega), List.drop_eq_getElem_cons (l := a.data.toList) (by omega), Lib.compareBytes, decide_eq_false (by omega)]; rfl
        · have h2 : k = a.size := by omega
          rw [List.drop_eq_nil_of_le (show a.data.toList.length ≤ k by omega)]
          by_cases h3 : k < b.size
          · rw [List.drop_eq_getElem_cons (l := b.data.toList) (by omega), Lib.compareBytes, decide_eq_true (by omega)]; rfl
          · rw [List.drop_eq_nil_of_le (show b.data.toList.length ≤ k by omega), Lib.compareBytes, decide_eq_false (by omega)]; rfl
      rw [e]; exact h
  · refine cond_d (fun h1 => ?_) (fun h1 => ?_)
    · constructor
      · intro h2; have := of_decide_eq_true h2; omega
      · intro h2; exact decide_eq_true (by omega)
    · constructor
      · intro h2; cases h2
      · intro h2; omega

/-- Both tables set a name: alike. -/
theorem sets_wp {m L : TM} {name : ByteArray} {v : Int} {K : Int → Int → TM → TM → Prop} (hR : Rep m L) (hB : Bd m) (hn : name.size ≤ 60) (hK : ∀ r m' L', Rep m' L' → Bd m' → K r r m' L') :
    due_Table_Set_wp m name v (fun r m' => embrasureref06_Table_Set_wp L name v (fun r' L' => K r r' m' L')) := by
  have hLl := hR.len
  have hBl := hB.len
  by_cases hv : v < 0 ∨ v > 1099511627776
  · have h1 : embrasureref06_Table_Set_wp L name v (fun r' L' => K 1 r' m L') := by
      unfold embrasureref06_Table_Set_wp
      refine ⟨fun t => t = true, ?_, ?_⟩
      · rintro t rfl; exact hK 1 m L hR hB
      · exact cond_d (fun _ => rfl) (fun h => decide_eq_true (by omega))
    unfold due_Table_Set_wp
    refine joinP0.i ⟨fun t => t = true, ?_, ?_⟩
    · rintro t rfl; exact h1
    · exact cond_d (fun _ => rfl) (fun h => decide_eq_true (by omega))
  · have hv0 : 0 ≤ v := by omega
    have hv1 : v ≤ 1099511627776 := by omega
    have hmem : mapHas m name = true ↔ ∃ p ∈ L, p.1 = name := by
      rw [mapHas_iff]
      constructor
      · rintro ⟨w, hw⟩; exact ⟨_, hR.perm.mem_iff.2 hw, rfl⟩
      · rintro ⟨p, hp, rfl⟩; exact ⟨p.2, hR.perm.mem_iff.1 hp⟩
    by_cases hfull : mapHas m name = false ∧ 200 ≤ m.length
    · refine set_full hv0 hv1 hfull.1 hfull.2 ?_
      unfold embrasureref06_Table_Set_wp
      refine ⟨fun t => t = false, ?_, ?_⟩
      · rintro t rfl
        refine joinP0.i ⟨fun t => t = true, ?_, ?_⟩
        · rintro t rfl; exact hK 10 m L hR hB
        · refine find_wp (by omega) (fun _ => cond_t (by decide) (decide_eq_true (by omega))) (fun A q B e hq => ?_)
          have := hmem.2 ⟨q, by rw [e]; simp, hq⟩
          rw [hfull.1] at this; cases this
      · exact cond_d (fun h => absurd h (by omega)) (fun _ => decide_eq_false (by omega))
    · have hroom : mapHas m name = true ∨ m.length < 200 := by
        cases hx : mapHas m name with
        | true => exact Or.inl rfl
        | false => right; exact Nat.lt_of_not_le fun h => hfull ⟨hx, h⟩
      refine set_wp hv0 hv1 hroom ?_
      have hB' : Bd (mapPut m name v) := by
        refine ⟨?_, ?_, ?_⟩
        · rw [length_put]
          rcases hroom with h | h
          · rw [if_pos h]; exact hBl
          · split <;> omega
        · rintro ⟨a, b⟩ hp
          rcases (mem_put hR.kn).1 hp with ⟨_, rfl⟩ | ⟨_, h2⟩
          · exact ⟨hv0, hv1⟩
          · exact hB.vals _ h2
        · rintro ⟨a, b⟩ hp
          rcases (mem_put hR.kn).1 hp with ⟨rfl, _⟩ | ⟨_, h2⟩
          · exact hn
          · exact hB.sz _ h2
      -- behind the drop
      have fin : ∀ L2 : TM, L2.Pairwise elt → L2.length ≤ L.length → (∀ q, q ∈ L2 ↔ q ∈ L ∧ q.1 ≠ name) → ∀ i : Nat, i ≤ L2.length → (∀ q ∈ L2.take i, elt q (name, v)) → (∀ q ∈ L2.drop i, ¬ elt q (name, v)) →
          K 0 0 (mapPut m name v) (L2.take i ++ [(name, v)] ++ L2.drop i) := by
        intro L2 hs2 _ hm2 i hi hlo hhi
        refine hK 0 _ _ (Rep.of_mem (hR.kn.put _ _) ?_ (fun q => ?_)) hB'
        · have hs3 : (L2.take i ++ L2.drop i).Pairwise elt := by rw [List.take_append_drop]; exact hs2
          rw [List.pairwise_append] at hs3
          rw [List.append_assoc, List.pairwise_append]
          refine ⟨hs3.1, ?_, ?_⟩
          · rw [List.singleton_append, List.pairwise_cons]
            refine ⟨fun q hq => elt_tot (hhi q hq) ?_, hs3.2.1⟩
            exact ((hm2 q).1 (List.mem_of_mem_drop hq)).2
          · intro p hp q hq
            rw [List.singleton_append] at hq
            rcases List.mem_cons.1 hq with rfl | hq
            · exact hlo p hp
            · exact hs3.2.2 p hp q hq
        · obtain ⟨q1, q2⟩ := q
          rw [mem_put hR.kn, List.append_assoc, List.singleton_append]
          have h1 : (q1, q2) ∈ L2.take i ++ (name, v) :: L2.drop i ↔ (q1, q2) = (name, v) ∨ (q1, q2) ∈ L2 := by
            conv => rhs; rhs; rw [← List.take_append_drop i L2]
            simp only [List.mem_append, List.mem_cons]
            constructor
            · rintro (h | h | h)
              · exact Or.inr (Or.inl h)
              · exact Or.inl h
              · exact Or.inr (Or.inr h)
            · rintro (h | h | h)
              · exact Or.inr (Or.inl h)
              · exact Or.inl h
              · exact Or.inr (Or.inr h)
          rw [h1, hm2, hR.perm.mem_iff, Prod.mk.injEq, and_comm (a := (q1, q2) ∈ m)]
      have ins : ∀ L2 : TM, L2.Pairwise elt → L2.length ≤ L.length → (∀ q, q ∈ L2 ↔ q ∈ L ∧ q.1 ≠ name) → (∀ (r : Bool) (N : Bool → TM → Prop), N r L2 → N r L2) →
          ∃ i : Nat, i ≤ L2.length ∧ (∀ q ∈ L2.take i, elt q (name, v)) ∧ (∀ q ∈ L2.drop i, ¬ elt q (name, v)) ∧ (∀ j, j < i → ∀ q, L2[j]? = some q → elt q (name, v)) ∧ (∀ q, L2[i]? = some q → ¬ elt q (name, v)) := by
        intro L2 hs2 _ hm2 _
        clear fin
        revert hs2
        have key : ∀ M : TM, M.Pairwise elt → ∃ i : Nat, i ≤ M.length ∧ (∀ q ∈ M.take i, elt q (name, v)) ∧ (∀ q ∈ M.drop i, ¬ elt q (name, v)) := by
          intro M
          induction M with
          | nil => exact fun _ => ⟨0, Nat.le_refl _, by simp, by simp⟩
          | cons p M ih =>
            intro hs
            rw [List.pairwise_cons] at hs
            by_cases hp : elt p (name, v)
            · obtain ⟨i, h1, h2, h3⟩ := ih hs.2
              refine ⟨i + 1, by simp; omega, fun q hq => ?_, by simpa using h3⟩
              rw [List.take_succ_cons] at hq
              rcases List.mem_cons.1 hq with rfl | hq
              · exact hp
              · exact h2 q hq
            · refine ⟨0, Nat.zero_le _, by simp, fun q hq => ?_⟩
              rw [List.drop_zero] at hq
              rcases List.mem_cons.1 hq with rfl | hq
              · exact hp
              · exact fun he => hp (elt_trans (hs.1 q hq) he)
        intro hs2
        obtain ⟨i, h1, h2, h3⟩ := key L2 hs2
        refine ⟨i, h1, h2, h3, fun j hj q hq => h2 q ?_, fun q hq => h3 q ?_⟩
        · refine List.mem_of_getElem? (i := j) ?_
          rw [List.getElem?_take, if_pos hj]; exact hq
        · refine List.mem_of_getElem? (i := 0) ?_
          rw [List.getElem?_drop]; exact hq
      unfold embrasureref06_Table_Set_wp
      refine ⟨fun t => t = false, ?_, ?_⟩
      · rintro t rfl
        refine ⟨True, fun _ => ?_, ?_⟩
        · -- the drop, then the place
          have rest : ∀ L2 : TM, L2.Pairwise elt → L2.length ≤ L.length → (∀ q, q ∈ L2 ↔ q ∈ L ∧ q.1 ≠ name) → ∀ i : Nat, i ≤ L2.length → (∀ q ∈ L2.take i, elt q (name, v)) → (∀ q ∈ L2.drop i, ¬ elt q (name, v)) →
              (([] : List (ByteArray × Int)).length + ((L2.take (Int.toNat (i : Int))).drop 0).length) * 24 ≤ 140737488355328 ∧ (((([] : List (ByteArray × Int)) ++ ((L2.take (Int.toNat (i : Int))).drop 0)).length + [(name, v)].length) * 24 ≤ 140737488355328 ∧ ((((([] : List (ByteArray × Int)) ++ ((L2.take (Int.toNat (i : Int))).drop 0)) ++ [(name, v)]).length + ((L2.take L2.length).drop (Int.toNat (i : Int))).length) * 24 ≤ 140737488355328 ∧ (K 0 0 (mapPut m name v) (((([] : List (ByteArray × Int)) ++ ((L2.take (Int.toNat (i : Int))).drop 0)) ++ [(name, v)]) ++ ((L2.take L2.length).drop (Int.toNat (i : Int))))))) := by
            intro L2 g1 g2 g3 i g4 g5 g6
            have := fin L2 g1 g2 g3 i g4 g5 g6
            rw [Int.toNat_natCast, List.drop_zero, List.take_length, List.nil_append]
            have hx : (L2.take i).length ≤ L2.length := by rw [List.length_take]; omega
            have hy : (L2.drop i).length ≤ L2.length := by rw [List.length_drop]; omega
            refine ⟨?_, ?_, ?_, this⟩
            · simp only [List.length_nil]; omega
            · simp only [List.length_cons, List.length_nil]; omega
            · simp only [List.length_append, List.length_cons, List.length_nil]; omega
          have go : ∀ (L2 : TM), L2.Pairwise elt → L2.length ≤ L.length → (∀ q, q ∈ L2 ↔ q ∈ L ∧ q.1 ≠ name) →
              ∃ Q3 : Int → Prop, (∀ i7, Q3 i7 → ∃ i : Nat, i7 = i ∧ i ≤ L2.length ∧ (∀ q ∈ L2.take i, elt q (name, v)) ∧ (∀ q ∈ L2.drop i, ¬ elt q (name, v))) ∧ ∃ (I : Nat → Int → Prop), (∃ (n_5 : Nat), I n_5 0) ∧ ∀ (n_3 : Nat) (i7_1 : Int), I n_3 i7_1 → (joinP1 (fun (t71 : Bool) => cond t71 (∃ (n_4 : Nat), n_4 < n_3 ∧ I n_4 (IntKind.wrap .i64 (i7_1 + 1))) (Q3 i7_1)) (fun (Q_4 : Bool → Prop) => cond (decide ((i7_1 : Int) < ((L2.length : Nat) : Int))) (0 ≤ (i7_1 : Int) ∧ (i7_1 : Int) < ((L2.length : Nat) : Int) ∧ (∀ (x_1 : ByteArray × Int), L2[Int.toNat i7_1]? = some x_1 → (cond (decide ((x_1.2 : Int) < v)) (Q_4 true) (0 ≤ (i7_1 : Int) ∧ (i7_1 : Int) < ((L2.length : Nat) : Int) ∧ (∀ (x_2 : ByteArray × Int), L2[Int.toNat i7_1]? = some x_2 → (cond ((x_2.2 : Int) == v) (0 ≤ (i7_1 : Int) ∧ (i7_1 : Int) < ((L2.length : Nat) : Int) ∧ (∀ (x_3 : ByteArray × Int), L2[Int.toNat i7_1]? = some x_3 → (embrasureref06_less_wp x_3.1 name (fun (r_2 : Bool) => Q_4 r_2)))) (Q_4 false))))))) (Q_4 false))) := by
            intro L2 g1 g2 g3
            obtain ⟨i, k1, k2, k3, k4, k5⟩ := ins L2 g1 g2 g3 (fun _ _ h => h)
            refine ⟨fun i7 => i7 = (i : Int), fun i7 e => ⟨i, e, k1, k2, k3⟩, fun n j => ∃ q : Nat, j = q ∧ q ≤ i ∧ n = i - q, ⟨_, 0, rfl, Nat.zero_le _, rfl⟩, ?_⟩
            rintro n j ⟨q, rfl, hq, rfl⟩
            refine ⟨fun t => (t = true ↔ q < i), ?_, ?_⟩
            · intro t htt
              refine cond_b (fun h => ?_) (fun h => ?_)
              · have := htt.1 h
                exact ⟨i - (q + 1), by omega, q + 1, wp1 (by omega), by omega, rfl⟩
              · have : ¬ q < i := fun hh => by rw [htt.2 hh] at h; cases h
                show ((q : Nat) : Int) = (i : Int)
                omega
            · refine cond_d (fun h => ⟨by omega, by omega, fun x hx => ?_⟩) (fun h => ?_)
              · have rd : ∀ y, L2[Int.toNat ((q : Nat) : Int)]? = some y → y = x := fun y hy => by rw [hx] at hy; cases hy; rfl
                rw [Int.toNat_natCast] at hx
                have hel : q < i ↔ elt x (name, v) := by
                  constructor
                  · exact fun h => k4 q h x hx
                  · intro he
                    rcases Nat.lt_or_ge q i with h | h
                    · exact h
                    · have : q = i := by omega
                      subst this
                      exact absurd he (k5 x hx)
                have hxs : x.1.size ≤ 60 := hB.sz x (hR.perm.mem_iff.1 ((g3 x).1 (List.mem_of_getElem? hx)).1)
                rw [hel]
                unfold elt
                refine cond_d (fun h2 => ⟨fun _ => Or.inl h2, fun _ => rfl⟩) (fun h2 => ⟨by omega, by omega, fun y hy => ?_⟩)
                obtain rfl := rd y hy
                refine cond_e (fun h3 => ⟨by omega, by omega, fun z hz => ?_⟩) (fun h3 => ⟨fun e => by (cases e), fun he => ?_⟩)
                · obtain rfl := rd z hz
                  refine less_wp (by omega) ⟨fun e => Or.inr ⟨h3, of_decide_eq_true e⟩, fun he => decide_eq_true ?_⟩
                  rcases he with he | he
                  · exact absurd he h2
                  · exact he.2
                · rcases he with he | he
                  · exact absurd he h2
                  · exact absurd he.1 h3
              · refine ⟨fun e => by (cases e), fun h2 => ?_⟩
                omega
          refine rdrop_wp (by omega) (fun hno => ?_) (fun A q B e hq => ?_)
          · have g3 : ∀ q, q ∈ L ↔ q ∈ L ∧ q.1 ≠ name := fun q => ⟨fun h => ⟨h, hno q h⟩, fun h => h.1⟩
            obtain ⟨Q3, q1, q2⟩ := go L hR.sorted (Nat.le_refl _) g3
            refine ⟨Q3, fun i7 h7 => ?_, q2⟩
            obtain ⟨i, rfl, k1, k2, k3⟩ := q1 i7 h7
            have hk := rest L hR.sorted (Nat.le_refl _) g3 i k1 k2 k3
            exact ⟨by omega, by omega, by omega, by omega, ⟨hk, hk⟩, hk⟩
          · have hs2 : (A ++ B).Pairwise elt := by
              have := hR.sorted
              rw [e] at this
              exact this.sublist (List.Sublist.append_left (List.sublist_cons_self q B) A)
            have hl2 : (A ++ B).length ≤ L.length := by rw [e]; simp
            have g3 : ∀ r, r ∈ A ++ B ↔ r ∈ L ∧ r.1 ≠ name := by
              have hnd := hR.nd
              rw [e, List.map_append, List.map_cons] at hnd
              have hnd2 := List.perm_middle.nodup_iff.1 hnd
              rw [List.nodup_cons] at hnd2
              intro r
              constructor
              · intro hr
                refine ⟨by rw [e]; rcases List.mem_append.1 hr with h | h <;> simp [h], fun er => hnd2.1 ?_⟩
                rw [hq, ← er, ← List.map_append]
                exact List.mem_map_of_mem hr
              · rintro ⟨hr, hne⟩
                rw [e] at hr
                rcases List.mem_append.1 hr with h | h
                · exact List.mem_append_left _ h
                · rcases List.mem_cons.1 h with h | h
                  · rw [h] at hne; exact absurd hq hne
                  · exact List.mem_append_right _ h
            obtain ⟨Q3, q1, q2⟩ := go (A ++ B) hs2 hl2 g3
            refine ⟨Q3, fun i7 h7 => ?_, q2⟩
            obtain ⟨i, rfl, k1, k2, k3⟩ := q1 i7 h7
            have hk := rest (A ++ B) hs2 hl2 g3 i k1 k2 k3
            exact ⟨by omega, by omega, by omega, by omega, ⟨hk, hk⟩, hk⟩
        · refine ⟨fun t => t = false, ?_, ?_⟩
          · rintro t rfl; exact trivial
          · refine find_wp (by omega) (fun hno => cond_t (by decide) (decide_eq_false ?_)) (fun A q B e hq => cond_f (decide_eq_false (by omega)) rfl)
            rcases hroom with h | h
            · obtain ⟨p, hp, e⟩ := hmem.1 h
              exact absurd e (hno p hp)
            · omega
      · exact cond_d (fun h => absurd h (by omega)) (fun _ => decide_eq_false (by omega))

end Go.Proofs.Ytdonkmbhlankiaa
