/- The plain side of the statements on adverts: what each function of the program answers. -/
import Derived.Test.YtpdabbbemampbaaL
import Derived.Test.YtpdabbbemampbaaEngV
import Derived.Test.YtpdabbbemampbaaEngR
import Derived.Test.YtpdabbbemampbaaEngJ
namespace Go.Proofs.Ytpdabbbemampbaa
open Go Go.Eng

abbrev Ad := Int × Int
/-- A place: host, port, number, by it. -/
abbrev Pl := Int × Int × Int × Bool

def mayA (h p : Int) : Prop := h ≠ 0 ∧ 1 ≤ p ∧ p ≤ 65535
instance (h p : Int) : Decidable (mayA h p) := by unfold mayA; infer_instance

theorem dec_key {P : Prop} [Decidable P] {K : Bool → Prop} (hK : K (decide P)) (b : Bool) (h : b = true ↔ P) : K b := by
  have : decide P = b := by
    cases b with
    | true => simpa using h.1 rfl
    | false => simp only [decide_eq_false_iff_not]; intro hp; exact absurd (h.2 hp) (by simp)
  rwa [← this]

theorem may_wp {h p : Int} {K : Bool → Prop} (hK : K (decide (mayA h p))) : addr_May_wp h p K := by
  unfold addr_May_wp
  refine cond_n (fun a => cond_d (fun b => ?_) (fun b => ?_)) (fun a => ?_)
  all_goals refine dec_key hK _ ?_
  all_goals unfold mayA
  all_goals simp only [decide_eq_true_eq, Bool.false_eq_true]
  all_goals constructor <;> intro hh <;> first | omega | exact hh.elim

theorem rmay_wp {h p : Int} {K : Bool → Prop} (h0 : 0 ≤ h) (hK : K (decide (mayA h p))) : embrasureref03_May_wp h p K := by
  unfold embrasureref03_May_wp
  refine cond_d (fun a => cond_d (fun b => ?_) (fun b => ?_)) (fun a => ?_)
  all_goals refine dec_key hK _ ?_
  all_goals unfold mayA
  all_goals simp only [decide_eq_true_eq, Bool.false_eq_true]
  all_goals constructor <;> intro hh <;> first | omega | exact hh.elim

/-- A relay's place that may be. -/
def mayR (h p id : Int) : Prop := mayA h p ∧ 1 ≤ id ∧ id ≤ 2147483647
instance (h p id : Int) : Decidable (mayR h p id) := by unfold mayR; infer_instance

theorem mayp_wp {h p id : Int} {K : Bool → Prop} (hK : K (decide (mayR h p id))) : addr_MayPlace_wp h p id true K := by
  unfold addr_MayPlace_wp
  refine may_wp (cond_d (fun a => cond_d (fun b => cond_d (fun c => cond_d (fun d => ?_) (fun d => ?_)) (fun c => ?_)) (fun b => ?_)) (fun a => ?_))
  all_goals refine dec_key hK _ ?_
  all_goals unfold mayR
  all_goals simp only [Bool.not_true, Bool.false_eq_true, true_iff, false_iff]
  · exact ⟨a, by omega, c⟩
  · rintro ⟨-, h1, -⟩; omega
  · rintro ⟨-, -, h1⟩; omega
  · rintro ⟨-, h1, -⟩; omega
  · rintro ⟨h1, -⟩; exact a h1

theorem rmayp_wp {h p id : Int} {K : Bool → Prop} (h0 : 0 ≤ h) (hK : K (decide (mayR h p id))) : embrasureref03_Place_wp h p id true K := by
  unfold embrasureref03_Place_wp
  refine joinP1.i (rmay_wp h0 (cond_b (fun a => ?_) (fun a => cond_d (fun b => ?_) (fun b => cond_d (fun c => ?_) (fun c => ?_)))))
  · refine cond_t rfl (dec_key hK _ ?_)
    simp only [Bool.not_eq_true', decide_eq_false_iff_not] at a
    unfold mayR
    simp [a]
  · refine cond_t rfl (dec_key hK _ ?_)
    unfold mayR
    simp; omega
  · refine dec_key hK _ ?_
    unfold mayR
    simp; omega
  · refine cond_f rfl (dec_key hK _ ?_)
    simp only [Bool.not_eq_false', decide_eq_true_eq] at a
    unfold mayR
    simp only [decide_eq_true_eq, a, true_and]
    omega

/-- A host inside. -/
def insideP (h : Int) : Prop := (167772160 ≤ h ∧ h ≤ 184549375) ∨ (2886729728 ≤ h ∧ h ≤ 2887778303) ∨ (3232235520 ≤ h ∧ h ≤ 3232301055)
instance (h : Int) : Decidable (insideP h) := by unfold insideP; infer_instance

theorem inside_wp {h : Int} {K : Bool → Prop} (h0 : 0 ≤ h ∧ h ≤ 4294967295) (hK : K (decide (insideP h))) : advert_Inside_wp h K := by
  unfold advert_Inside_wp
  have e1 : Int.fdiv h (2 ^ (min (Int.toNat 24) (IntKind.bits .u32))) = h / 16777216 := Int.fdiv_eq_ediv_of_nonneg h (by decide)
  have e2 : Int.fdiv h (2 ^ (min (Int.toNat 20) (IntKind.bits .u32))) = h / 1048576 := Int.fdiv_eq_ediv_of_nonneg h (by decide)
  have e3 : Int.fdiv h (2 ^ (min (Int.toNat 16) (IntKind.bits .u32))) = h / 65536 := Int.fdiv_eq_ediv_of_nonneg h (by decide)
  rw [e1, e2, e3]
  refine cond_e (fun a => ?_) (fun a => cond_e (fun b => ?_) (fun b => ?_))
  all_goals refine dec_key hK _ ?_
  all_goals unfold insideP
  all_goals simp only [beq_iff_eq, true_iff]
  all_goals omega

theorem rinside_wp {h : Int} {K : Bool → Prop} (hK : K (decide (insideP h))) : embrasureref21_Inside_wp h K := by
  unfold embrasureref21_Inside_wp
  refine cond_d (fun a => cond_d (fun b => ?_) (fun b => cond_d (fun c => cond_d (fun d => ?_) (fun d => cond_d (fun e => ?_) (fun e => ?_))) (fun c => cond_d (fun e => ?_) (fun e => ?_)))) (fun a => cond_d (fun c => cond_d (fun d => ?_) (fun d => cond_d (fun e => ?_) (fun e => ?_))) (fun c => cond_d (fun e => ?_) (fun e => ?_)))
  all_goals refine dec_key hK _ ?_
  all_goals unfold insideP
  all_goals simp only [decide_eq_true_eq, Bool.false_eq_true, true_iff, false_iff]
  all_goals omega

theorem clone_wp {s : List Ad} {K : List Ad → Prop} (hl : s.length ≤ 1000) (hK : K s) : slices_Clone_sl_api_Addr_api_Addr_wp s K := by
  intro nil hn
  refine cond_b (fun h => ?_) (fun h => ⟨by simp only [List.length_nil]; omega, by simpa using hK⟩)
  rw [hn h] at hK; exact hK

/-- Own addresses that may be. -/
def okOwn (l : List Ad) : Prop := l.length ≤ 8 ∧ ∀ a ∈ l, mayA a.1 a.2

theorem index_wp {σ : Type} {s : List Ad} {st : σ} {Y : Ad → σ → (Bool → σ → Prop) → Prop} {K : Int → σ → Prop} (f : Ad → Bool) (hY : ∀ x ∈ s, ∀ K : Bool → σ → Prop, K (f x) st → Y x st K)
    (hl : s.length ≤ 9223372036854775807) (hK : K (idx f s) st) : slices_IndexFunc_sl_api_Addr_api_Addr_wp s st Y K := indexFuncC f hY hl hK

theorem own_wp {own list : List Ad} {m : List (Ad × Int)} {r : List (Pl × Int)} {K : Int → List Ad → Prop} (hl : list.length ≤ 9223372036854775807) (h1 : ¬ okOwn list → K 1 own) (h0 : okOwn list → K 0 list) : advert_Advert_Own_wp own m r list K := by
  unfold advert_Advert_Own_wp
  refine ⟨fun t => (t = true ↔ ¬ okOwn list), fun t ht => cond_b (fun e => h1 (ht.1 e)) (fun e => ?_), cond_d (fun h => ?_) (fun h => ?_)⟩
  · have hok : okOwn list := Classical.byContradiction fun hc => by rw [ht.2 hc] at e; cases e
    exact clone_wp (by have := hok.1; omega) (h0 hok)
  · simp only [true_iff]
    intro hc
    have := hc.1
    omega
  · unfold slices_ContainsFunc_sl_api_Addr_api_Addr_wp
    refine index_wp (fun x : Ad => !decide (mayA x.1 x.2)) (fun x _ K' hk => by unfold advert_Advert_Own_c1_wp; exact may_wp hk) hl ?_
    simp only [decide_eq_true_eq]
    rcases idx_cases (fun x : Ad => !decide (mayA x.1 x.2)) list with ⟨e, ha⟩ | ⟨i, e, hi, hf, -⟩
    · rw [e]
      simp only [ge_iff_le, Int.reduceNeg, Int.reduceLE, false_iff, Classical.not_not]
      refine ⟨by omega, fun a ha' => ?_⟩
      have := ha a ha'
      simpa using this
    · rw [e]
      have := hf hi
      simp only [Bool.not_eq_true', decide_eq_false_iff_not] at this
      constructor
      · intro _ hc; exact this (hc.2 _ (List.getElem_mem hi))
      · intro _; omega

/-- What is set. -/
def setM {κ : Type} [DecidableEq κ] (m : List (κ × Int)) (k : κ) (u : Int) : Int × List (κ × Int) :=
  if u ≤ 0 then (0, mapDel m k) else if mapHas m k = false ∧ 20 ≤ m.length then (10, m) else (0, mapPut m k u)

theorem setA_wp {m : List (Ad × Int)} {h p u : Int} {K : Int → List (Ad × Int) → Prop} (hK : K (setM m (h, p) u).1 (setM m (h, p) u).2) : advert_set_api_Addr_wp m h p u K := by
  unfold advert_set_api_Addr_wp
  unfold setM at hK
  refine cond_d (fun a => by rw [if_pos a] at hK; exact hK) (fun a => joinP1.i ?_)
  rw [if_neg a] at hK
  refine cond_b (fun b => cond_d (fun c => ?_) (fun c => ?_)) (fun b => ?_)
  · rw [if_pos ⟨by simpa using b, by omega⟩] at hK; exact hK
  · rw [if_neg (by rintro ⟨-, h⟩; omega)] at hK; exact hK
  · rw [if_neg (by rintro ⟨h, -⟩; rw [h] at b; cases b)] at hK; exact hK

theorem setP_wp {m : List (Pl × Int)} {h p id : Int} {v : Bool} {u : Int} {K : Int → List (Pl × Int) → Prop} (hK : K (setM m (h, p, id, v) u).1 (setM m (h, p, id, v) u).2) : advert_set_api_Place_wp m h p id v u K := by
  unfold advert_set_api_Place_wp
  unfold setM at hK
  refine cond_d (fun a => by rw [if_pos a] at hK; exact hK) (fun a => joinP1.i ?_)
  rw [if_neg a] at hK
  refine cond_b (fun b => cond_d (fun c => ?_) (fun c => ?_)) (fun b => ?_)
  · rw [if_pos ⟨by simpa using b, by omega⟩] at hK; exact hK
  · rw [if_neg (by rintro ⟨-, h⟩; omega)] at hK; exact hK
  · rw [if_neg (by rintro ⟨h, -⟩; rw [h] at b; cases b)] at hK; exact hK

theorem mapped_wp {m : List (Ad × Int)} {r : List (Pl × Int)} {h p u : Int} {K : Int → List (Ad × Int) → Prop} (h1 : ¬ (mayA h p ∧ u ≤ 1099511627776) → K 1 m) (h0 : mayA h p → u ≤ 1099511627776 → K (setM m (h, p) u).1 (setM m (h, p) u).2) : advert_Advert_Mapped_wp m r h p u K := by
  unfold advert_Advert_Mapped_wp
  refine joinP1.i (may_wp (cond_b (fun a => cond_t rfl (h1 ?_)) (fun a => cond_d (fun b => h1 ?_) (fun b => setA_wp (h0 (by simpa using a) (by omega))))))
  · simp only [Bool.not_eq_true', decide_eq_false_iff_not] at a
    exact fun h => a h.1
  · exact fun h => by omega

theorem relay_wp {m : List (Ad × Int)} {r : List (Pl × Int)} {h p id : Int} {v : Bool} {u : Int} {K : Int → List (Pl × Int) → Prop} (h1 : ¬ (mayR h p id ∧ u ≤ 1099511627776) → K 1 r) (h0 : mayR h p id → u ≤ 1099511627776 → K (setM r (h, p, id, true) u).1 (setM r (h, p, id, true) u).2) : advert_Advert_Relay_wp m r h p id v u K := by
  unfold advert_Advert_Relay_wp
  refine joinP1.i (mayp_wp (cond_b (fun a => cond_t rfl (h1 ?_)) (fun a => cond_d (fun b => h1 ?_) (fun b => setP_wp (h0 (by simpa using a) (by omega))))))
  · simp only [Bool.not_eq_true', decide_eq_false_iff_not] at a
    exact fun h => a h.1
  · exact fun h => by omega

theorem setM_kn {κ : Type} [DecidableEq κ] {m : List (κ × Int)} (hn : KN m) (k : κ) (u : Int) : KN (setM m k u).2 := by
  unfold setM
  split
  · exact hn.del k
  · split
    · exact hn
    · exact hn.put k u

theorem setM_len {κ : Type} [DecidableEq κ] {m : List (κ × Int)} (k : κ) (u : Int) (h : m.length ≤ 20) : (setM m k u).2.length ≤ 20 := by
  unfold setM
  split
  · simp only []; rw [length_del]; split <;> omega
  · rename_i hu
    split
    · exact h
    · rename_i hc
      simp only []; rw [length_put]
      split
      · exact h
      · rename_i hh
        have : ¬ 20 ≤ m.length := fun h2 => hc ⟨by simpa using hh, h2⟩
        omega

/-! ### What lasts -/

def befP (x y : Pl) : Prop := x.1 < y.1 ∨ x.1 = y.1 ∧ (x.2.1 < y.2.1 ∨ x.2.1 = y.2.1 ∧ x.2.2.1 < y.2.2.1)
theorem befP_irr (a : Pl) : ¬ befP a a := by unfold befP; omega
theorem befP_tr (a b c : Pl) : befP a b → befP b c → befP a c := by unfold befP; omega

def cmpI (a b : Int) : Int := if a < b then -1 else if a > b then 1 else 0
def orI (a b : Int) : Int := if a ≠ 0 then a else b

theorem cmp_wp {a b : Int} {K : Int → Prop} (hK : K (cmpI a b)) : cmp_Compare_int_wp a b K := by
  unfold cmp_Compare_int_wp cmp_isNaN_int_wp
  unfold cmpI at hK
  refine cond_n (fun h => absurd rfl h) (fun _ => cond_n (fun h => absurd rfl h) (fun _ => cond_d (fun h => ?_) (fun h => cond_d (fun h2 => ?_) (fun h2 => ?_))))
  · rwa [if_pos h] at hK
  · rwa [if_neg h, if_pos h2] at hK
  · rwa [if_neg h, if_neg h2] at hK

theorem cmpu_wp {a b : Int} {K : Int → Prop} (hK : K (cmpI a b)) : cmp_Compare_uint32_wp a b K := by
  unfold cmp_Compare_uint32_wp cmp_isNaN_uint32_wp
  unfold cmpI at hK
  refine cond_n (fun h => absurd rfl h) (fun _ => cond_n (fun h => absurd rfl h) (fun _ => cond_d (fun h => ?_) (fun h => cond_d (fun h2 => ?_) (fun h2 => ?_))))
  · rwa [if_pos h] at hK
  · rwa [if_neg h, if_pos h2] at hK
  · rwa [if_neg h, if_neg h2] at hK

theorem or_wp {a b : Int} {K : Int → Prop} (hK : K (orI a b)) : cmp_Or_int_wp [a, b] K := by
  unfold cmp_Or_int_wp
  unfold orI at hK
  have e1 : IntKind.wrap .i64 (0 + 1) = 1 := wrap_i64 (by decide) (by decide)
  have e2 : IntKind.wrap .i64 (1 + 1) = 2 := wrap_i64 (by decide) (by decide)
  refine ⟨fun n i => (n = 2 ∧ i = 0) ∨ (n = 1 ∧ i = 1 ∧ a = 0) ∨ (n = 0 ∧ i = 2 ∧ a = 0 ∧ b = 0), ⟨2, .inl ⟨rfl, rfl⟩⟩, ?_⟩
  rintro n i (⟨rfl, rfl⟩ | ⟨rfl, rfl, h⟩ | ⟨rfl, rfl, h, h2⟩)
  · refine cond_t (by simp) ⟨by decide, by simp, fun x hx => ?_⟩
    obtain rfl : a = x := by simpa using hx
    refine cond_n (fun h => by rwa [if_pos h] at hK) (fun h => ⟨1, by decide, .inr (.inl ⟨rfl, e1, h⟩)⟩)
  · refine cond_t (by simp) ⟨by decide, by simp, fun x hx => ?_⟩
    obtain rfl : b = x := by simpa using hx
    rw [if_neg (by simp [h])] at hK
    refine cond_n (fun _ => hK) (fun h2 => ⟨0, by decide, .inr (.inr ⟨rfl, e2, h, h2⟩)⟩)
  · refine cond_f (by simp) ?_
    rw [if_neg (by simp [h]), h2] at hK
    exact hK

def cfP (x y : Pl) : Int := orI (orI (cmpI x.1 y.1) (cmpI x.2.1 y.2.1)) (cmpI x.2.2.1 y.2.2.1)

theorem cfP_neg {x y : Pl} : cfP x y < 0 ↔ befP x y := by
  unfold cfP orI cmpI befP
  repeat' split
  all_goals first | omega | (simp only [ne_eq, not_true_eq_false, not_false_eq_true] at *; omega)

theorem cfP_wp {x y : Pl} {K : Int → Prop} (hK : K (cfP x y)) : advert_compare_wp x.1 x.2.1 x.2.2.1 x.2.2.2 y.1 y.2.1 y.2.2.1 y.2.2.2 K := by
  unfold advert_compare_wp addr_Compare_wp
  exact cmpu_wp (cmp_wp (or_wp (cmp_wp (or_wp hK))))

/-- The places of what lasts beyond a time, in order. -/
structure Last {κ : Type} (m : List (κ × Int)) (pl : κ → Pl) (now : Int) (zs : List Pl) : Prop where
  srt : zs.Pairwise befP
  mem : ∀ p, p ∈ zs ↔ ∃ k v, (k, v) ∈ m ∧ v > now ∧ pl k = p

theorem Last.uniq {κ κ' : Type} {m : List (κ × Int)} {m' : List (κ' × Int)} {pl : κ → Pl} {pl' : κ' → Pl} {now : Int} {xs ys : List Pl} (h1 : Last m pl now xs) (h2 : Last m' pl' now ys)
    (h : ∀ p, (∃ k v, (k, v) ∈ m ∧ v > now ∧ pl k = p) ↔ ∃ k v, (k, v) ∈ m' ∧ v > now ∧ pl' k = p) : xs = ys :=
  sorted_eq befP_irr befP_tr xs ys h1.srt h2.srt fun a => by rw [h1.mem, h2.mem, h]

def plA (a : Ad) : Pl := (a.1, a.2, 0, false)

theorem keysA_wp {σ : Type} {s : σ} {Y : Ad → σ → (Bool → σ → Prop) → Prop} {t : List (Ad × Int)} {K : σ → Prop} (P : List (Ad × Int) → σ → Prop) (h0 : P t s) (hK : ∀ s, P [] s → K s)
    (hY : ∀ lf s i x (K' : Bool → σ → Prop), P lf s → lf[i]? = some x → (∀ s', P (lf.eraseIdx i) s' → K' true s') → Y x.1 s K') : maps_Keys_map_api_Addr_int_api_Addr_int__c1_wp s Y t K := by
  unfold maps_Keys_map_api_Addr_int_api_Addr_int__c1_wp
  refine ⟨fun n lf s => n = lf.length ∧ P lf s, ⟨_, rfl, h0⟩, ?_⟩
  rintro n lf s ⟨rfl, hp⟩
  refine ⟨fun e => hK s (e ▸ hp), fun i x hx => hY lf s i x _ hp hx (fun s' hs' => cond_f rfl ⟨_, ?_, rfl, hs'⟩)⟩
  have := (eraseIdx_perm lf i x hx).length_eq
  simp only [List.length_cons] at this
  omega

theorem keysP_wp {σ : Type} {s : σ} {Y : Pl → σ → (Bool → σ → Prop) → Prop} {t : List (Pl × Int)} {K : σ → Prop} (P : List (Pl × Int) → σ → Prop) (h0 : P t s) (hK : ∀ s, P [] s → K s)
    (hY : ∀ lf s i x (K' : Bool → σ → Prop), P lf s → lf[i]? = some x → (∀ s', P (lf.eraseIdx i) s' → K' true s') → Y x.1 s K') : maps_Keys_map_api_Place_int_api_Place_int__c1_wp s Y t K := by
  unfold maps_Keys_map_api_Place_int_api_Place_int__c1_wp
  refine ⟨fun n lf s => n = lf.length ∧ P lf s, ⟨_, rfl, h0⟩, ?_⟩
  rintro n lf s ⟨rfl, hp⟩
  refine ⟨fun e => hK s (e ▸ hp), fun i x hx => hY lf s i x _ hp hx (fun s' hs' => cond_f rfl ⟨_, ?_, rfl, hs'⟩)⟩
  have := (eraseIdx_perm lf i x hx).length_eq
  simp only [List.length_cons] at this
  omega

/-- Rows that came out of the map, each once. -/
def Took {κ : Type} (m : List (κ × Int)) (pl : κ → Pl) (now : Int) (lf : List (κ × Int)) (out : List Pl) : Prop :=
  (∃ tk : List (κ × Int), (tk ++ lf).Perm m ∧ out = (tk.filter fun x => decide (x.2 > now)).map fun x => pl x.1)

theorem Took.step {κ : Type} {m : List (κ × Int)} {pl : κ → Pl} {now : Int} {lf : List (κ × Int)} {out : List Pl} (h : Took m pl now lf out) {i : Nat} {x : κ × Int} (hx : lf[i]? = some x) :
    Took m pl now (lf.eraseIdx i) (out ++ if x.2 > now then [pl x.1] else []) := by
  obtain ⟨tk, hp, rfl⟩ := h
  refine ⟨tk ++ [x], ?_, ?_⟩
  · rw [List.append_assoc]
    exact ((eraseIdx_perm lf i x hx).symm.append_left tk).trans hp
  · rw [List.filter_append, List.map_append]
    congr 1
    by_cases h : x.2 > now <;> simp [h]

/-- What is sorted. -/
theorem sort_last {κ : Type} {m : List (κ × Int)} {pl : κ → Pl} {now : Int} {out : List Pl} {b : Bool} (hkn : (m.map fun x => x.1).Nodup) (hinj : ∀ k k', pl k = pl k' → k = k') (hv : ∀ k v, (k, v) ∈ m → (pl k).2.2.2 = b) (hl : m.length ≤ 1000) (hout : Took m pl now [] out)
    {K : List Pl → Unit → Prop} (hK : ∀ zs, Last m pl now zs → zs.length ≤ m.length → K zs ()) : slices_SortFunc_sl_api_Place_api_Place_wp out () (fun x_4 x_5 s_7 K_2 => advert_compare_wp x_4.1 x_4.2.1 x_4.2.2.1 x_4.2.2.2 x_5.1 x_5.2.1 x_5.2.2.1 x_5.2.2.2 (fun (r : Int) => K_2 r s_7)) K := by
  obtain ⟨tk, hp, rfl⟩ := hout
  rw [List.append_nil] at hp
  have hlo : ((tk.filter fun x => decide (x.2 > now)).map fun x => pl x.1).length ≤ m.length := by
    rw [List.length_map]
    exact Nat.le_trans (List.length_filter_le _ _) (Nat.le_of_eq hp.length_eq)
  have hmem : ∀ p, p ∈ ((tk.filter fun x => decide (x.2 > now)).map fun x => pl x.1) ↔ ∃ k v, (k, v) ∈ m ∧ v > now ∧ pl k = p := by
    intro p
    simp only [List.mem_map, List.mem_filter, decide_eq_true_eq]
    constructor
    · rintro ⟨x, ⟨h1, h2⟩, h3⟩; exact ⟨x.1, x.2, hp.mem_iff.1 h1, h2, h3⟩
    · rintro ⟨k, v, h1, h2, h3⟩; exact ⟨(k, v), ⟨hp.mem_iff.2 h1, h2⟩, h3⟩
  have hnd : ((tk.filter fun x => decide (x.2 > now)).map fun x => pl x.1).Nodup := by
    have h1 : (tk.map fun x => x.1).Nodup := ((hp.map _).nodup_iff).2 hkn
    have h2 : ((tk.filter fun x => decide (x.2 > now)).map fun x => x.1).Nodup := h1.sublist (List.filter_sublist.map _)
    rw [List.Nodup, List.pairwise_map] at h2 ⊢
    exact h2.imp fun h e => h (hinj _ _ e)
  unfold slices_SortFunc_sl_api_Place_api_Place_wp sortW
  refine ⟨fun _ => True, cfP, fun _ _ => trivial, fun x y _ _ K' hk => cfP_wp hk, fun x _ => ?_, fun x y z _ _ _ h1 h2 => ?_, fun x y z _ _ _ h1 h2 => ?_, by omega, fun zs hz hs => hK zs ⟨?_, fun p => by rw [hz.mem_iff, hmem]⟩ (by rw [hz.length_eq]; exact hlo)⟩
  · rw [cfP_neg]; exact befP_irr _
  · rw [cfP_neg] at *; exact befP_tr _ _ _ h1 h2
  · rw [cfP_neg] at *; unfold befP at *; omega
  · refine List.Pairwise.imp_of_mem ?_ (List.Pairwise.and (hz.nodup_iff.2 hnd) hs)
    rintro a c ha hc ⟨h1, h2⟩
    rw [cfP_neg] at h2
    rw [hz.mem_iff, hmem] at ha hc
    obtain ⟨k, v, hk, -, e1⟩ := ha
    obtain ⟨k', v', hk', -, e2⟩ := hc
    have v1 := hv k v hk
    have v2 := hv k' v' hk'
    rw [e1] at v1; rw [e2] at v2
    refine Classical.byContradiction fun hc => h1 ?_
    obtain ⟨a1, a2, a3, a4⟩ := a
    obtain ⟨c1, c2, c3, c4⟩ := c
    simp only at v1 v2
    unfold befP at hc h2
    simp only at hc h2
    have : a1 = c1 ∧ a2 = c2 ∧ a3 = c3 := by omega
    rw [this.1, this.2.1, this.2.2, v1, v2]

theorem lastA_wp {m : List (Ad × Int)} {now : Int} {K : List Pl → Unit → Prop} (hn : KN m) (hl : m.length ≤ 20) (hK : ∀ zs, Last m plA now zs → zs.length ≤ m.length → K zs ()) :
    advert_lasting_api_Addr_wp m now () (fun x_1 s K_1 => advert_Advert_Told_c1_wp x_1.1 x_1.2 (fun (r : Int) (r_1 : Int) (r_2 : Int) (r_3 : Bool) => K_1 r r_1 r_2 r_3 s)) K := by
  unfold advert_lasting_api_Addr_wp
  refine ⟨fun out _ => Took m plA now [] out, fun out _ hout => ?_, ?_⟩
  · refine sort_last (b := false) hn (fun k k' e => ?_) (fun k v _ => rfl) (by omega) hout (fun zs h1 h2 => hK zs h1 h2)
    unfold plA at e
    rw [Prod.mk.injEq, Prod.mk.injEq] at e
    exact Prod.ext e.1 e.2.1
  · unfold maps_Keys_map_api_Addr_int_api_Addr_int_wp
    refine keysA_wp (fun lf s => s.1 = 0 ∧ Took m plA now lf s.2.1) ⟨rfl, [], by simp, by simp⟩ (fun s hs => ⟨hs.1, hs.2⟩) (fun lf s i x K' hp hx hk => ⟨hp.1, ?_⟩)
    have hmx : (x.1, x.2) ∈ m := by
      obtain ⟨tk, hpm, -⟩ := hp.2
      exact hpm.mem_iff.1 (List.mem_append.2 (.inr (List.mem_of_getElem? hx)))
    have hst := hp.2.step hx
    have hlen : s.2.1.length ≤ m.length := by
      obtain ⟨tk, hpm, e⟩ := hp.2
      rw [e, List.length_map]
      have := hpm.length_eq
      rw [List.length_append] at this
      have h2 := List.length_filter_le (fun x : Ad × Int => decide (x.2 > now)) tk
      omega
    rw [mapGet_mem hn hmx]
    refine cond_d (fun h => ?_) (fun h => ?_)
    · rw [if_pos h] at hst
      exact ⟨by simp only [List.length_cons, List.length_nil]; omega, hk _ ⟨rfl, hst⟩⟩
    · rw [if_neg h, List.append_nil] at hst
      exact hk _ ⟨rfl, hst⟩

theorem lastP_wp {m : List (Pl × Int)} {now : Int} {K : List Pl → Unit → Prop} (hn : KN m) (hv : ∀ k v, (k, v) ∈ m → k.2.2.2 = true) (hl : m.length ≤ 20) (hK : ∀ zs, Last m (fun k => k) now zs → zs.length ≤ m.length → K zs ()) :
    advert_lasting_api_Place_wp m now () (fun x_4 s_2 K_2 => advert_Advert_Told_c2_wp x_4.1 x_4.2.1 x_4.2.2.1 x_4.2.2.2 (fun (r : Int) (r_1 : Int) (r_2 : Int) (r_3 : Bool) => K_2 r r_1 r_2 r_3 s_2)) K := by
  unfold advert_lasting_api_Place_wp
  refine ⟨fun out _ => Took m (fun k => k) now [] out, fun out _ hout => ?_, ?_⟩
  · exact sort_last (b := true) hn (fun k k' e => e) hv (by omega) hout (fun zs h1 h2 => hK zs h1 h2)
  · unfold maps_Keys_map_api_Place_int_api_Place_int_wp
    refine keysP_wp (fun lf s => s.1 = 0 ∧ Took m (fun k => k) now lf s.2.1) ⟨rfl, [], by simp, by simp⟩ (fun s hs => ⟨hs.1, hs.2⟩) (fun lf s i x K' hp hx hk => ⟨hp.1, ?_⟩)
    have hmx : (x.1, x.2) ∈ m := by
      obtain ⟨tk, hpm, -⟩ := hp.2
      exact hpm.mem_iff.1 (List.mem_append.2 (.inr (List.mem_of_getElem? hx)))
    have hst := hp.2.step hx
    have hlen : s.2.1.length ≤ m.length := by
      obtain ⟨tk, hpm, e⟩ := hp.2
      rw [e, List.length_map]
      have := hpm.length_eq
      rw [List.length_append] at this
      have h2 := List.length_filter_le (fun x : Pl × Int => decide (x.2 > now)) tk
      omega
    rw [mapGet_mem hn hmx]
    refine cond_d (fun h => ?_) (fun h => ?_)
    · rw [if_pos h] at hst
      exact ⟨by simp only [List.length_cons, List.length_nil]; omega, hk _ ⟨rfl, hst⟩⟩
    · rw [if_neg h, List.append_nil] at hst
      exact hk _ ⟨rfl, hst⟩

/-! ### What is told -/

/-- A row of places, handed over one by one. -/
def genW {σ : Type} (Y : Pl → σ → (Bool → σ → Prop) → Prop) (K : σ → Prop) : List Pl → σ → Prop
  | [], s => K s
  | p :: l, s => Y p s fun b s' => cond (!b) (K s') (genW Y K l s')

theorem values_wp {σ : Type} {s : σ} {Y : Pl → σ → (Bool → σ → Prop) → Prop} {t : List Pl} {K : σ → Prop} (hl : t.length ≤ 1000000) (hK : genW Y K t s)
    (hY : ∀ p s (K K' : Bool → σ → Prop), (∀ b s, K b s → K' b s) → Y p s K → Y p s K') : slices_Values_sl_api_Place_api_Place__c1_wp s Y t K := by
  unfold slices_Values_sl_api_Place_api_Place__c1_wp
  refine ⟨fun n i s' => 0 ≤ i ∧ i ≤ t.length ∧ n = t.length - i.toNat ∧ genW Y K (t.drop i.toNat) s', ⟨_, by omega, by omega, rfl, by simpa using hK⟩, ?_⟩
  rintro n i s' ⟨h1, h2, rfl, hg⟩
  refine cond_d (fun hlt => ⟨h1, hlt, fun x hx => ?_⟩) (fun hge => ?_)
  · have hi : i.toNat < t.length := by omega
    rw [List.getElem?_eq_getElem hi] at hx
    cases hx
    rw [List.drop_eq_getElem_cons hi] at hg
    refine hY _ _ _ _ (fun b s h => ?_) hg
    cases b with
    | false => exact h
    | true =>
      refine ⟨t.length - (i + 1).toNat, by omega, ?_⟩
      rw [wrap_i64 (by omega) (by omega)]
      exact ⟨by omega, by omega, rfl, by rw [show (i + 1).toNat = i.toNat + 1 by omega]; exact h⟩
  · rw [show i.toNat = t.length by omega, List.drop_length] at hg
    exact hg

def ownA (own : List Ad) : List Pl := (own.filter fun a => !decide (insideP a.1)).map plA
def seenA (seen : List Ad) (pub : Bool) : List Pl := if pub then ((seen.take 8).filter fun a => decide (mayA a.1 a.2)).map plA else []

def okH (l : List Ad) : Prop := ∀ a ∈ l, 0 ≤ a.1 ∧ a.1 ≤ 4294967295

theorem owned_wp {σ : Type} {s : σ} {Y : Pl → σ → (Bool → σ → Prop) → Prop} {own : List Ad} {m : List (Ad × Int)} {r : List (Pl × Int)} {K : σ → Prop} (hh : okH own) (hl : own.length ≤ 1000000) (hK : genW Y K (ownA own) s)
    (hY : ∀ p s (K K' : Bool → σ → Prop), (∀ b s, K b s → K' b s) → Y p s K → Y p s K') : advert_Advert_owned_c1_wp s Y own m r K := by
  unfold advert_Advert_owned_c1_wp
  refine ⟨fun n i s' => 0 ≤ i ∧ i ≤ own.length ∧ n = own.length - i.toNat ∧ genW Y K (ownA (own.drop i.toNat)) s', ⟨_, by omega, by omega, rfl, by simpa using hK⟩, ?_⟩
  rintro n i s' ⟨h1, h2, rfl, hg⟩
  refine cond_d (fun hlt => ⟨h1, hlt, fun x hx => ?_⟩) (fun hge => ?_)
  · have hi : i.toNat < own.length := by omega
    rw [List.getElem?_eq_getElem hi] at hx
    cases hx
    rw [List.drop_eq_getElem_cons hi] at hg
    unfold ownA at hg
    refine joinP2.i (inside_wp (hh _ (List.getElem_mem hi)) ?_)
    have nxt : ∀ s, genW Y K (ownA (own.drop (i.toNat + 1))) s → ∃ n_2, n_2 < own.length - i.toNat ∧ (fun n i s' => 0 ≤ i ∧ i ≤ (own.length : Int) ∧ n = own.length - i.toNat ∧ genW Y K (ownA (own.drop i.toNat)) s') n_2 (IntKind.wrap .i64 (i + 1)) s := by
      intro s h
      refine ⟨own.length - (i + 1).toNat, by omega, ?_⟩
      rw [wrap_i64 (by omega) (by omega)]
      exact ⟨by omega, by omega, rfl, by rw [show (i + 1).toNat = i.toNat + 1 by omega]; exact h⟩
    refine cond_b (fun e => ?_) (fun e => ?_)
    · rw [List.filter_cons_of_pos (p := fun a : Ad => !decide (insideP a.1)) e, List.map_cons] at hg
      refine hY _ _ _ _ (fun b s h => ?_) hg
      cases b with
      | false => exact cond_t rfl h
      | true => exact cond_f rfl (nxt s h)
    · rw [List.filter_cons_of_neg (by rw [e]; simp)] at hg
      exact cond_f rfl (nxt _ hg)
  · rw [show i.toNat = own.length by omega, List.drop_length] at hg
    exact hg

theorem observed_wp {σ : Type} {s : σ} {Y : Pl → σ → (Bool → σ → Prop) → Prop} {seen : List Ad} {pub : Bool} {K : σ → Prop} (hK : genW Y K (seenA seen pub) s)
    (hY : ∀ p s (K K' : Bool → σ → Prop), (∀ b s, K b s → K' b s) → Y p s K → Y p s K') : advert_observed_c1_wp s Y seen pub K := by
  unfold advert_observed_c1_wp
  have e8 : (Int.toNat (if (8 : Int) < ((seen.length : Nat) : Int) then 8 else ((seen.length : Nat) : Int))) = min 8 seen.length := by split <;> omega
  rw [e8]
  have et : (seen.take (min 8 seen.length)).drop 0 = seen.take 8 := by
    rw [List.drop_zero]
    rcases Nat.le_total 8 seen.length with h | h
    · rw [Nat.min_eq_left h]
    · rw [Nat.min_eq_right h, List.take_length, List.take_of_length_le h]
  rw [et]
  have hlen : (seen.take 8).length = min 8 seen.length := List.length_take ..
  refine ⟨by split <;> omega, by split <;> omega, ?_⟩
  rw [show (min 8 seen.length - 0) = (seen.take 8).length by rw [hlen]; omega]
  unfold seenA at hK
  have hlen8 : (seen.take 8).length ≤ 8 := by rw [hlen]; omega
  generalize seen.take 8 = T at hK hlen8 ⊢
  refine ⟨fun n i s' => 0 ≤ i ∧ i ≤ T.length ∧ n = T.length - i.toNat ∧ genW Y K (if pub then ((T.drop i.toNat).filter fun a => decide (mayA a.1 a.2)).map plA else []) s', ⟨_, by omega, by omega, rfl, by simpa using hK⟩, ?_⟩
  rintro n i s' ⟨h1, h2, rfl, hg⟩
  refine cond_d (fun hlt => ⟨h1, hlt, fun x hx => ?_⟩) (fun hge => ?_)
  · have hi : i.toNat < T.length := by omega
    rw [List.getElem?_eq_getElem hi] at hx
    cases hx
    rw [List.drop_eq_getElem_cons hi] at hg
    have nxt : ∀ s, genW Y K (if pub then ((T.drop (i.toNat + 1)).filter fun a => decide (mayA a.1 a.2)).map plA else []) s → ∃ n_2, n_2 < T.length - i.toNat ∧ (fun n i s' => 0 ≤ i ∧ i ≤ (T.length : Int) ∧ n = T.length - i.toNat ∧ genW Y K (if pub then ((T.drop i.toNat).filter fun a => decide (mayA a.1 a.2)).map plA else []) s') n_2 (IntKind.wrap .i64 (i + 1)) s := by
      intro s h
      refine ⟨T.length - (i + 1).toNat, by omega, ?_⟩
      rw [wrap_i64 (by omega) (by omega)]
      exact ⟨by omega, by omega, rfl, by rw [show (i + 1).toNat = i.toNat + 1 by omega]; exact h⟩
    refine joinP2.i (cond_b (fun hp => may_wp (cond_b (fun e => ?_) (fun e => ?_))) (fun hp => ?_))
    · rw [hp, if_pos rfl, List.filter_cons_of_pos (p := fun a : Ad => decide (mayA a.1 a.2)) e, List.map_cons] at hg
      refine hY _ _ _ _ (fun b s h => ?_) hg
      cases b with
      | false => exact cond_t rfl h
      | true => exact cond_f rfl (nxt s (by rw [hp, if_pos rfl]; exact h))
    · rw [hp, if_pos rfl, List.filter_cons_of_neg (by rw [e]; simp)] at hg
      exact cond_f rfl (nxt _ (by rw [hp, if_pos rfl]; exact hg))
    · rw [hp] at hg
      exact cond_f rfl (nxt _ (by rw [hp]; exact hg))
  · rw [show i.toNat = T.length by omega, List.drop_length] at hg
    cases pub <;> exact hg

/-- One more place is told. -/
def add8 (out : List Pl) (p : Pl) : List Pl := if p ∈ out then out else if out.length = 8 then out else out ++ [p]

theorem add8_len {out : List Pl} (h : out.length ≤ 8) (p : Pl) : (add8 out p).length ≤ 8 := by
  unfold add8
  split
  · exact h
  · split
    · exact h
    · simp only [List.length_append, List.length_cons, List.length_nil]; omega

theorem fold8_len (l : List Pl) : ∀ {out : List Pl}, out.length ≤ 8 → (l.foldl add8 out).length ≤ 8 := by
  induction l with
  | nil => intro out h; exact h
  | cons p l ih => intro out h; exact ih (add8_len h p)

theorem fold8_full (l : List Pl) : ∀ {out : List Pl}, out.length = 8 → l.foldl add8 out = out := by
  induction l with
  | nil => intro out h; rfl
  | cons p l ih =>
    intro out h
    have e : add8 out p = out := by unfold add8; split <;> simp [h]
    rw [List.foldl_cons, e]
    exact ih h

theorem eqP (x y : Pl) : ((((x.1 : Int) == y.1) && (((x.2.1 : Int) == y.2.1) && true)) && (((x.2.2.1 : Int) == y.2.2.1) && ((x.2.2.2 == y.2.2.2) && true))) = decide (x = y) := by
  obtain ⟨x1, x2, x3, x4⟩ := x
  obtain ⟨y1, y2, y3, y4⟩ := y
  rw [Bool.eq_iff_iff]
  simp [Prod.ext_iff, and_assoc]

theorem contains_wp {s : List Pl} {p : Pl} {K : Bool → Prop} (hl : s.length ≤ 8) (hK : K (decide (p ∈ s))) : slices_Contains_sl_api_Place_api_Place_wp s p.1 p.2.1 p.2.2.1 p.2.2.2 K := by
  unfold slices_Contains_sl_api_Place_api_Place_wp slices_Index_sl_api_Place_api_Place_wp
  refine ⟨fun n i => 0 ≤ i ∧ i ≤ s.length ∧ n = s.length - i.toNat ∧ p ∉ s.take i.toNat, ⟨_, by omega, by omega, rfl, by simp⟩, ?_⟩
  rintro n i ⟨h0, h1, rfl, hn⟩
  refine cond_d (fun hlt => ⟨h0, hlt, fun x hx => ?_⟩) (fun hge => ?_)
  · rw [eqP]
    refine cond_d (fun e => ?_) (fun e => ⟨s.length - (i + 1).toNat, by omega, ?_⟩)
    · have : decide (p ∈ s) = decide ((i : Int) ≥ 0) := by
        rw [Bool.eq_iff_iff]; simp only [decide_eq_true_eq]
        exact ⟨fun _ => h0, fun _ => by rw [e]; exact List.mem_of_getElem? hx⟩
      show K (decide ((i : Int) ≥ 0))
      rw [← this]; exact hK
    · rw [wrap_i64 (by omega) (by omega)]
      refine ⟨by omega, by omega, rfl, ?_⟩
      obtain ⟨hi, rfl⟩ := List.getElem?_eq_some_iff.1 hx
      rw [show (i + 1).toNat = i.toNat + 1 by omega, List.take_succ_eq_append_getElem hi]
      simp only [List.mem_append, List.mem_cons, List.not_mem_nil, or_false, not_or]
      exact ⟨hn, e⟩
  · rw [show i.toNat = s.length by omega, List.take_length] at hn
    have : decide (p ∈ s) = decide ((-1 : Int) ≥ 0) := by simp [hn]
    show K (decide ((-1 : Int) ≥ 0))
    rw [← this]; exact hK

/-- What the telling does with a place. -/
def tellY (x : Pl) (s : Nat × List Pl) (K : Bool → Nat × List Pl → Prop) : Prop :=
  s.1 = 0 ∧ (slices_Contains_sl_api_Place_api_Place_wp s.2 x.1 x.2.1 x.2.2.1 x.2.2.2 (fun (r : Bool) => cond r (K true (0, s.2)) (cond ((((s.2.length : Nat) : Int) : Int) == 8) (K false (1, s.2)) ((s.2.length + [x].length) * 32 ≤ 140737488355328 ∧ (K true (0, (s.2 ++ [x])))))))

theorem contains_mono {s : List Pl} {a b c : Int} {d : Bool} {K K' : Bool → Prop} (h : ∀ r, K r → K' r) (hp : slices_Contains_sl_api_Place_api_Place_wp s a b c d K) : slices_Contains_sl_api_Place_api_Place_wp s a b c d K' := by
  unfold slices_Contains_sl_api_Place_api_Place_wp slices_Index_sl_api_Place_api_Place_wp at *
  obtain ⟨I, h0, hI⟩ := hp
  refine ⟨I, h0, fun n i hi => ?_⟩
  have := hI n i hi
  revert this
  cases decide ((i : Int) < ((s.length : Nat) : Int)) with
  | false => exact fun this => h _ this
  | true =>
    rintro ⟨h1, h2, h3⟩
    refine ⟨h1, h2, fun x hx => ?_⟩
    have := h3 x hx
    revert this
    cases ((((a : Int) == x.1) && (((b : Int) == x.2.1) && true)) && (((c : Int) == x.2.2.1) && ((d == x.2.2.2) && true))) with
    | false => exact fun this => this
    | true => exact fun this => h _ this

theorem tellY_mono (p : Pl) (s : Nat × List Pl) (K K' : Bool → Nat × List Pl → Prop) (h : ∀ b s, K b s → K' b s) (hp : tellY p s K) : tellY p s K' := by
  refine ⟨hp.1, contains_mono (fun r hr => ?_) hp.2⟩
  revert hr
  cases r with
  | true => exact fun hr => h _ _ hr
  | false =>
    cases ((((s.2.length : Nat) : Int) : Int) == 8) with
    | true => exact fun hr => h _ _ hr
    | false => exact fun hr => ⟨hr.1, h _ _ hr.2⟩

theorem tell_gen (l : List Pl) : ∀ {out : List Pl} {K : Nat × List Pl → Prop}, out.length ≤ 8 → (∀ b : Nat, b = 0 ∨ (b = 1 ∧ (l.foldl add8 out).length = 8) → K (b, l.foldl add8 out)) → genW tellY K l (0, out) := by
  induction l with
  | nil => intro out K h hK; exact hK 0 (.inl rfl)
  | cons p l ih =>
    intro out K h hK
    refine ⟨rfl, contains_wp h (cond_d (fun hm => ?_) (fun hm => cond_e (fun h8 => ?_) (fun h8 => ⟨by simp only [List.length_cons, List.length_nil]; omega, ?_⟩)))⟩
    · have e : add8 out p = out := by unfold add8; rw [if_pos hm]
      rw [List.foldl_cons, e] at hK
      exact ih h hK
    · have h8' : out.length = 8 := by simp only at h8; omega
      have e := fold8_full (p :: l) h8'
      rw [e] at hK
      exact hK 1 (.inr ⟨rfl, h8'⟩)
    · have h8' : ¬ out.length = 8 := by simp only at h8; omega
      have e : add8 out p = out ++ [p] := by unfold add8; rw [if_neg hm, if_neg h8']
      rw [List.foldl_cons, e] at hK
      exact ih (by simp only [List.length_append, List.length_cons, List.length_nil]; omega) hK

/-- All that is told. -/
def tellL (own : List Ad) (M : List Pl) (seen : List Ad) (pub : Bool) (R : List Pl) : List Pl := (ownA own ++ (M ++ (seenA seen pub ++ R))).foldl add8 []

theorem told_wp {own : List Ad} {m : List (Ad × Int)} {r : List (Pl × Int)} {now : Int} {seen : List Ad} {pub : Bool} {K : List Pl → Prop} (hh : okH own) (hol : own.length ≤ 8) (hm : KN m) (hml : m.length ≤ 20) (hr : KN r) (hrl : r.length ≤ 20) (hrv : ∀ k v, (k, v) ∈ r → k.2.2.2 = true)
    (hK : ∀ M R, Last m plA now M → Last r (fun k => k) now R → K (tellL own M seen pub R)) : advert_Advert_Told_wp own m r now seen pub K := by
  unfold advert_Advert_Told_wp advert_Advert_owned_wp
  refine lastA_wp hm hml (fun M hM hMl => ?_)
  unfold advert_observed_wp
  refine lastP_wp hr hrv hrl (fun R hR hRl => ?_)
  have hK := hK M R hM hR
  unfold tellL at hK
  rw [List.foldl_append, List.foldl_append, List.foldl_append] at hK
  generalize e1 : (ownA own).foldl add8 [] = o1 at hK
  have l1 : o1.length ≤ 8 := by rw [← e1]; exact fold8_len _ (by simp)
  generalize e2 : M.foldl add8 o1 = o2 at hK
  have l2 : o2.length ≤ 8 := by rw [← e2]; exact fold8_len _ l1
  generalize e3 : (seenA seen pub).foldl add8 o2 = o3 at hK
  have l3 : o3.length ≤ 8 := by rw [← e3]; exact fold8_len _ l2
  refine joinP1.i ?_
  refine ⟨fun n out t => (n = 4 ∧ t = 0 ∧ out = []) ∨ (n = 3 ∧ t = 1 ∧ out = o1) ∨ (n = 2 ∧ t = 2 ∧ out = o2) ∨ (n = 1 ∧ t = 3 ∧ out = o3) ∨ (n = 0 ∧ t = 4 ∧ out = R.foldl add8 o3), ⟨4, .inl ⟨rfl, rfl, rfl⟩⟩, ?_⟩
  have w1 : IntKind.wrap .i64 (0 + 1) = 1 := by decide
  have w2 : IntKind.wrap .i64 (1 + 1) = 2 := by decide
  have w3 : IntKind.wrap .i64 (2 + 1) = 3 := by decide
  have w4 : IntKind.wrap .i64 (3 + 1) = 4 := by decide
  rintro n out t (⟨rfl, rfl, rfl⟩ | ⟨rfl, rfl, rfl⟩ | ⟨rfl, rfl, rfl⟩ | ⟨rfl, rfl, rfl⟩ | ⟨rfl, rfl, rfl⟩)
  · refine cond_t (by decide) ⟨by decide, by decide, fun _ => ?_, fun h => absurd h (by decide), fun h => absurd h (by decide), fun h => absurd h (by decide)⟩
    refine owned_wp (Y := tellY) hh (by omega) (tell_gen _ (by simp) ?_) tellY_mono
    rintro b (rfl | ⟨rfl, h8⟩)
    · exact .inl ⟨rfl, 3, by decide, .inr (.inl ⟨rfl, w1, e1⟩)⟩
    · rw [e1] at h8 ⊢
      rw [fold8_full _ h8] at e2; subst e2
      rw [fold8_full _ h8] at e3; subst e3
      rw [fold8_full _ h8] at hK
      exact .inr ⟨Nat.one_ne_zero, hK⟩
  · refine cond_t (by decide) ⟨by decide, by decide, fun h => absurd h (by decide), fun _ => ?_, fun h => absurd h (by decide), fun h => absurd h (by decide)⟩
    refine values_wp (Y := tellY) (by omega) (tell_gen _ l1 ?_) tellY_mono
    rintro b (rfl | ⟨rfl, h8⟩)
    · exact .inl ⟨rfl, 2, by decide, .inr (.inr (.inl ⟨rfl, w2, e2⟩))⟩
    · rw [e2] at h8 ⊢
      rw [fold8_full _ h8] at e3; subst e3
      rw [fold8_full _ h8] at hK
      exact .inr ⟨Nat.one_ne_zero, hK⟩
  · refine cond_t (by decide) ⟨by decide, by decide, fun h => absurd h (by decide), fun h => absurd h (by decide), fun _ => ?_, fun h => absurd h (by decide)⟩
    refine observed_wp (Y := tellY) (tell_gen _ l2 ?_) tellY_mono
    rintro b (rfl | ⟨rfl, h8⟩)
    · exact .inl ⟨rfl, 1, by decide, .inr (.inr (.inr (.inl ⟨rfl, w3, e3⟩)))⟩
    · rw [e3] at h8 ⊢
      rw [fold8_full _ h8] at hK
      exact .inr ⟨Nat.one_ne_zero, hK⟩
  · refine cond_t (by decide) ⟨by decide, by decide, fun h => absurd h (by decide), fun h => absurd h (by decide), fun h => absurd h (by decide), fun _ => ?_⟩
    refine values_wp (Y := tellY) (by omega) (tell_gen _ l3 ?_) tellY_mono
    rintro b (rfl | ⟨rfl, h8⟩)
    · exact .inl ⟨rfl, 0, by decide, .inr (.inr (.inr (.inr ⟨rfl, w4, rfl⟩)))⟩
    · exact .inr ⟨Nat.one_ne_zero, hK⟩
  · exact cond_f (by decide) hK

end Go.Proofs.Ytpdabbbemampbaa
