/- The plain side of the statements on votes: each function's answer. -/
import Derived.Test.YtgcodbcfcaacgaaL
import Derived.Test.YtgcodbcfcaacgaaEngV
import Derived.Test.YtgcodbcfcaacgaaEngR
import Derived.Test.YtgcodbcfcaacgaaEngJ
namespace Go.Proofs.Ytgcodbcfcaacgaa
open Go Go.Eng

/-- A vote: its group, the address, when. -/
abbrev Vo := Int × Int × Int × Int
abbrev Ad := Int × Int
def adr (v : Vo) : Ad := (v.2.1, v.2.2.1)
def dead (n : Int) (v : Vo) : Bool := decide (v.2.2.2 + 600 ≤ n)
def okV (l : List Vo) : Prop := ∀ v ∈ l, 0 ≤ v.2.2.2 ∧ v.2.2.2 ≤ 1099511627776
def onL (n : Int) (l : List Vo) : List Vo := l.filter fun v => !dead n v

theorem okV.on {l : List Vo} (h : okV l) (n : Int) : okV (onL n l) := fun v hv => h v (List.mem_filter.1 hv).1
theorem onL_len (n : Int) (l : List Vo) : (onL n l).length ≤ l.length := List.length_filter_le _ _
theorem onL_on (n : Int) (l : List Vo) : onL n (onL n l) = onL n l := by unfold onL; rw [List.filter_filter]; congr 1; funext v; simp

/-- The time that it is. -/
def nowOn (now t : Int) : Int := if (if (1099511627776 : Int) < t then 1099511627776 else t) > now then (if (1099511627776 : Int) < t then 1099511627776 else t) else now

theorem nowOn_eq {now t : Int} (h0 : now ≤ t) (h1 : t ≤ 1099511627776) : nowOn now t = t := by
  unfold nowOn
  have e : (if (1099511627776 : Int) < t then 1099511627776 else t) = t := by split <;> omega
  rw [e]
  split <;> omega

theorem nowOn_le {now t : Int} (h0 : now ≤ 1099511627776) : nowOn now t ≤ 1099511627776 := by
  unfold nowOn
  split <;> split <;> omega

theorem nowOn_ge {now t : Int} : now ≤ nowOn now t := by
  unfold nowOn
  split <;> split <;> omega

theorem nowOn_again (now t : Int) : nowOn (nowOn now t) t = nowOn now t := by
  unfold nowOn
  split <;> split <;> (try split) <;> omega

theorem delf_wp {s : List Vo} {Y : Vo → Unit → (Bool → Unit → Prop) → Prop} {K : List Vo → Unit → Prop} (f : Vo → Bool)
    (hY : ∀ x ∈ s, ∀ K : Bool → Unit → Prop, K (f x) () → Y x () K)
    (hl : s.length ≤ 9223372036854775000) (hK : K (s.filter fun x => !(f x)) ()) : slices_DeleteFunc_sl_api_Vote_api_Vote_wp s () Y K :=
  deleteFuncS (x0 := ((0, 0, 0, 0) : Vo)) f (fun _ => ()) (fun i h K hk => hY _ (List.getElem_mem h) K hk) hl hK

theorem on_wp {list : List Vo} {now t : Int} {K : List Vo → Int → Prop} (ho : okV list) (hl : list.length ≤ 200) (hK : K (onL (nowOn now t) list) (nowOn now t)) : vote_Box_on_wp list now t K := by
  unfold vote_Box_on_wp
  refine delf_wp (dead (nowOn now t)) (fun x hx K' hk => ?_) (by omega) hK
  unfold vote_Box_on_c1_wp
  have := ho x hx
  rw [wrap_i64 (by omega) (by omega)]
  exact hk

theorem clone_wp {s : List Vo} {K : List Vo → Prop} (hl : s.length ≤ 1000) (hK : K s) : slices_Clone_sl_api_Vote_api_Vote_wp s K := by
  intro nil hn
  refine cond_b (fun h => ?_) (fun h => ⟨by simp only [List.length_nil]; omega, by simpa using hK⟩)
  rw [hn h] at hK; exact hK

theorem cloneA_wp {s : List Ad} {K : List Ad → Prop} (hl : s.length ≤ 1000) (hK : K s) : slices_Clone_sl_api_Addr_api_Addr_wp s K := by
  intro nil hn
  refine cond_b (fun h => ?_) (fun h => ⟨by simp only [List.length_nil]; omega, by simpa using hK⟩)
  rw [hn h] at hK; exact hK

/-- Whether it is an address. -/
def mayA (h p : Int) : Prop := h ≠ 0 ∧ 1 ≤ p ∧ p ≤ 65535
instance (h p : Int) : Decidable (mayA h p) := by unfold mayA; infer_instance

theorem may_wp {h p : Int} {K : Bool → Prop} (hK : K (decide (mayA h p))) : addr_May_wp h p K := by
  unfold addr_May_wp
  unfold mayA at hK
  refine cond_n (fun a => cond_d (fun b => ?_) (fun b => ?_)) (fun a => ?_)
  · by_cases c : p ≤ 65535
    · have : decide (h ≠ 0 ∧ 1 ≤ p ∧ p ≤ 65535) = decide (p ≤ 65535) := by simp [a, c]; omega
      rw [this] at hK; exact hK
    · have : decide (h ≠ 0 ∧ 1 ≤ p ∧ p ≤ 65535) = decide (p ≤ 65535) := by simp [c]
      rw [this] at hK; exact hK
  · have : decide (h ≠ 0 ∧ 1 ≤ p ∧ p ≤ 65535) = false := by simp; omega
    rw [this] at hK; exact hK
  · have : decide (h ≠ 0 ∧ 1 ≤ p ∧ p ≤ 65535) = false := by simp [a]
    rw [this] at hK; exact hK

theorem rmay_wp {h p : Int} {K : Bool → Prop} (h0 : 0 ≤ h) (hK : K (decide (mayA h p))) : embrasureref03_May_wp h p K := by
  unfold embrasureref03_May_wp
  unfold mayA at hK
  refine cond_d (fun a => cond_d (fun b => ?_) (fun b => ?_)) (fun a => ?_)
  · have : decide (h ≠ 0 ∧ 1 ≤ p ∧ p ≤ 65535) = decide (p < 65536) := by rw [Bool.eq_iff_iff]; simp only [decide_eq_true_eq]; omega
    rw [this] at hK; exact hK
  · have : decide (h ≠ 0 ∧ 1 ≤ p ∧ p ≤ 65535) = false := by simp; omega
    rw [this] at hK; exact hK
  · have : decide (h ≠ 0 ∧ 1 ≤ p ∧ p ≤ 65535) = false := by simp; omega
    rw [this] at hK; exact hK

/-- That a group voted for an address. -/
def isP (g : Int) (a : Ad) (v : Vo) : Bool := decide (v.1 = g ∧ adr v = a)
def castL (l : List Vo) (g : Int) (a : Ad) (t : Int) : List Vo := ((l.filter fun v => !isP g a v) ++ [(g, a.1, a.2, t)]).drop ((l.filter fun v => !isP g a v).length + 1 - 100)

theorem castL_len {l : List Vo} {g t : Int} {a : Ad} : (castL l g a t).length ≤ 100 := by
  unfold castL
  rw [List.length_drop, List.length_append]
  simp only [List.length_cons, List.length_nil]
  omega

theorem castL_ok {l : List Vo} {g t : Int} {a : Ad} (h : okV l) (h0 : 0 ≤ t) (h1 : t ≤ 1099511627776) : okV (castL l g a t) := by
  intro v hv
  rcases List.mem_append.1 (List.mem_of_mem_drop hv) with h2 | h2
  · exact h v (List.mem_filter.1 h2).1
  · simp only [List.mem_cons, List.not_mem_nil, or_false] at h2
    subst h2
    exact ⟨h0, h1⟩

/-- What may not be cast. -/
def badC (now t b h p : Int) : Prop := b = 0 ∨ ¬ mayA h p ∨ t < now ∨ t > 1099511627776

theorem same_wp {v : Vo} {g h p : Int} {K : Bool → Prop} (hK : K (isP g (h, p) v)) : vote_Box_Cast_c1_wp v.1 v.2.1 v.2.2.1 v.2.2.2 g h p K := by
  unfold vote_Box_Cast_c1_wp
  unfold isP adr at hK
  refine cond_e (fun e => ?_) (fun e => ?_)
  · have : decide (v.1 = g ∧ (v.2.1, v.2.2.1) = (h, p)) = ((v.2.1 == h) && ((v.2.2.1 == p) && true)) := by
      rw [Bool.eq_iff_iff]; simp [e]
    rw [this] at hK; exact hK
  · have : decide (v.1 = g ∧ (v.2.1, v.2.2.1) = (h, p)) = false := by simp [e]
    rw [this] at hK; exact hK

theorem cast_wp {list : List Vo} {now t b h p : Int} {K : Int → List Vo → Int → Prop} (ho : okV list) (hl : list.length ≤ 100)
    (h1 : badC now t b h p → K 1 list now) (h2 : ¬ badC now t b h p → K 0 (castL (onL t list) (b / 65536) (h, p) t) t) : vote_Box_Cast_wp list now t b h p K := by
  unfold vote_Box_Cast_wp
  refine ⟨fun x => (x = true ↔ badC now t b h p), fun x hx => ?_, ?_⟩
  · refine cond_b (fun e => h1 (hx.1 e)) (fun e => ?_)
    have hm : ¬ badC now t b h p := fun hc => by rw [hx.2 hc] at e; cases e
    have h2 := h2 hm
    unfold badC at hm
    have en : nowOn now t = t := nowOn_eq (by omega) (by omega)
    refine on_wp ho (by omega) ?_
    rw [en]
    have hfl := onL_len t list
    have eg : Int.fdiv b (2 ^ (min (Int.toNat 16) (IntKind.bits .u32))) = b / 65536 := Int.fdiv_eq_ediv_of_nonneg b (by decide)
    rw [eg]
    refine delf_wp (isP (b / 65536) (h, p)) (fun x hx K' hk => same_wp hk) (by omega) ?_
    have hfl2 := List.length_filter_le (fun v => !isP (b / 65536) (h, p) v) (onL t list)
    unfold castL at h2
    generalize (onL t list).filter (fun v => !isP (b / 65536) (h, p) v) = F at h2 hfl2 ⊢
    have hlen : (F ++ [(b / 65536, h, p, t)]).length = F.length + 1 := by simp
    refine ⟨by simp only [List.length_cons, List.length_nil]; omega, ?_⟩
    rw [wrap_i64 (by rw [hlen]; omega) (by rw [hlen]; omega), hlen]
    refine ⟨by split <;> omega, by split <;> omega, clone_wp (by rw [List.length_drop, List.length_take, hlen]; omega) ?_⟩
    have e1 : (if ((((F.length + 1 : Nat) : Int) - 100 : Int) > 0) then (((F.length + 1 : Nat) : Int) - 100) else 0).toNat = F.length + 1 - 100 := by split <;> omega
    rw [e1, ← hlen, List.take_length, hlen]
    exact h2
  · refine cond_e (fun e => ?_) (fun e1 => may_wp (cond_b (fun e2 => ?_) (fun e2 => cond_d (fun e3 => ?_) (fun e3 => ?_))))
    all_goals simp only [Bool.not_eq_true', decide_eq_false_iff_not, Bool.not_eq_false', decide_eq_true_eq, true_iff] at *
    all_goals unfold badC
    · exact .inl e
    · exact .inr (.inl e2)
    · exact .inr (.inr (.inl e3))
    · constructor
      · intro h; exact .inr (.inr (.inr h))
      · rintro (h | h | h | h)
        · exact absurd h e1
        · exact absurd e2 h
        · exact absurd h e3
        · exact h

/-- How many votes are for an address. -/
def cnt (l : List Vo) (a : Ad) : Int := ((l.filter fun v => decide (adr v = a)).length : Int)

theorem cnt_nil (a : Ad) : cnt [] a = 0 := rfl
theorem cnt_snoc (l : List Vo) (v : Vo) (a : Ad) : cnt (l ++ [v]) a = cnt l a + if a = adr v then 1 else 0 := by
  unfold cnt
  rw [List.filter_append]
  by_cases e : a = adr v
  · subst e; simp
  · have : ¬ adr v = a := fun h => e h.symm
    simp [e, this]
theorem cnt_le (l : List Vo) (a : Ad) : 0 ≤ cnt l a ∧ cnt l a ≤ l.length := by
  unfold cnt
  have := List.length_filter_le (fun v => decide (adr v = a)) l
  omega

theorem cnt_pos {l : List Vo} {a : Ad} : 0 < cnt l a ↔ ∃ v ∈ l, adr v = a := by
  unfold cnt
  constructor
  · intro h
    obtain ⟨v, hv⟩ := List.exists_mem_of_length_pos (l := l.filter fun v => decide (adr v = a)) (by omega)
    exact ⟨v, (List.mem_filter.1 hv).1, by simpa using (List.mem_filter.1 hv).2⟩
  · rintro ⟨v, hv, e⟩
    have : 0 < (l.filter fun v => decide (adr v = a)).length := List.length_pos_of_mem (List.mem_filter.2 ⟨hv, by simpa using e⟩)
    omega

/-- The counts, as the box makes them. -/
def cm (l : List Vo) : List (Ad × Int) := l.foldl (fun m v => mapPut m (adr v) (mapGet m (adr v) 0 + 1)) []

theorem cm_snoc (l : List Vo) (v : Vo) : cm (l ++ [v]) = mapPut (cm l) (adr v) (mapGet (cm l) (adr v) 0 + 1) := by unfold cm; rw [List.foldl_append]; rfl

theorem snoc_ind {α : Type} {P : List α → Prop} (h0 : P []) (h1 : ∀ l a, P l → P (l ++ [a])) (l : List α) : P l := by
  have : ∀ (n : Nat) (l : List α), l.length = n → P l := by
    intro n
    induction n with
    | zero => intro l hl; rw [List.length_eq_zero_iff.1 hl]; exact h0
    | succ n ih =>
      intro l hl
      have hne : l ≠ [] := fun e => by rw [e] at hl; simp at hl
      rw [← List.dropLast_concat_getLast hne]
      exact h1 _ _ (ih _ (by rw [List.length_dropLast]; omega))
  exact this _ l rfl

theorem cm_spec (l : List Vo) : KN (cm l) ∧ (∀ a, mapGet (cm l) a 0 = cnt l a) ∧ ∀ a k, (a, k) ∈ cm l ↔ (k = cnt l a ∧ 0 < cnt l a) := by
  refine snoc_ind (P := fun l => KN (cm l) ∧ (∀ a, mapGet (cm l) a 0 = cnt l a) ∧ ∀ a k, (a, k) ∈ cm l ↔ (k = cnt l a ∧ 0 < cnt l a)) ?_ ?_ l
  · refine ⟨KN.nil, fun a => rfl, fun a k => ?_⟩
    simp [cm, cnt_nil]
  · rintro l v ⟨h1, h2, h3⟩
    rw [cm_snoc]
    refine ⟨h1.put _ _, fun a => ?_, fun a k => ?_⟩
    · rw [mapGet_put h1, cnt_snoc, h2]
      split
      · rename_i e; rw [e]
      · rw [h2]; omega
    · rw [mem_put h1, h2, h3, cnt_snoc]
      have := cnt_le l a
      by_cases e : a = adr v
      · subst e
        simp
        intro hk; omega
      · simp [e]

theorem values_wp {σ : Type} {s : σ} {Y : Vo → σ → (Bool → σ → Prop) → Prop} {t : List Vo} {K : σ → Prop} (st : Nat → σ) (h0 : s = st 0)
    (hY : ∀ (i : Nat) (h : i < t.length) (K' : Bool → σ → Prop), K' true (st (i + 1)) → Y t[i] (st i) K') (hl : t.length ≤ 1000000) (hK : K (st t.length)) : slices_Values_sl_api_Vote_api_Vote__c1_wp s Y t K := by
  unfold slices_Values_sl_api_Vote_api_Vote__c1_wp
  refine ⟨fun n i s' => s' = st i.toNat ∧ 0 ≤ i ∧ i ≤ t.length ∧ n = t.length - i.toNat, ⟨_, h0, by omega, by omega, rfl⟩, ?_⟩
  rintro n i s' ⟨rfl, h1, h2, rfl⟩
  refine cond_d (fun hlt => ?_) (fun hge => ?_)
  · have hi : i.toNat < t.length := by omega
    refine ⟨h1, hlt, fun x hx => ?_⟩
    rw [List.getElem?_eq_getElem hi] at hx
    cases hx
    refine hY _ hi _ ?_
    refine ⟨_, ?_, ?_, ?_, ?_, rfl⟩
    all_goals rw [wrap_i64 (by omega) (by omega)]
    · omega
    · rw [show (i + 1).toNat = i.toNat + 1 by omega]
    · omega
    · omega
  · rw [show i.toNat = t.length by omega]
    exact hK

theorem all_wp {list : List Vo} {now t : Int} {K : List Vo → List Vo → Int → Prop} (ho : okV list) (hl : list.length ≤ 200) (hK : K (onL (nowOn now t) list) (onL (nowOn now t) list) (nowOn now t)) : vote_Box_All_wp list now t K := by
  unfold vote_Box_All_wp
  have := onL_len (nowOn now t) list
  exact on_wp ho hl (clone_wp (by omega) hK)

theorem counts_wp {list : List Vo} {now t : Int} {K : List (Ad × Int) → List Vo → Int → Prop} (ho : okV list) (hl : list.length ≤ 200) (hK : K (cm (onL (nowOn now t) list)) (onL (nowOn now t) list) (nowOn now t)) : vote_Box_counts_wp list now t K := by
  unfold vote_Box_counts_wp
  refine joinP3.i ?_
  refine all_wp ho hl ?_
  have hfl := onL_len (nowOn now t) list
  generalize onL (nowOn now t) list = L at hK hfl ⊢
  refine values_wp (fun i => (0, cm (L.take i))) rfl (fun i hi K' hk => ?_) (by omega) ?_
  · refine ⟨rfl, ?_⟩
    rw [List.take_succ_eq_append_getElem hi, cm_snoc] at hk
    have h1 := (cm_spec (L.take i)).2.1 (adr L[i])
    have h2 := cnt_le (L.take i) (adr L[i])
    have h3 : (L.take i).length ≤ L.length := by rw [List.length_take]; omega
    show K' true (0, mapPut (cm (L.take i)) (adr L[i]) (IntKind.wrap .i64 (mapGet (cm (L.take i)) (adr L[i]) 0 + 1)))
    rw [wrap_i64 (by omega) (by omega)]
    exact hk
  · refine ⟨rfl, ?_⟩
    rw [List.take_length]
    exact hK

theorem count_wp {list : List Vo} {now t h p : Int} {K : Int → List Vo → Int → Prop} (ho : okV list) (hl : list.length ≤ 200) (hK : K (cnt (onL (nowOn now t) list) (h, p)) (onL (nowOn now t) list) (nowOn now t)) : vote_Box_Count_wp list now t h p K := by
  unfold vote_Box_Count_wp
  refine counts_wp ho hl ?_
  rw [(cm_spec _).2.1]
  exact hK

/-! ### The order of what is held -/

def bef (f : Ad → Int) (x y : Ad) : Prop := f y < f x ∨ f y = f x ∧ (x.1 < y.1 ∨ x.1 = y.1 ∧ x.2 < y.2)
theorem bef_irr (f : Ad → Int) (a : Ad) : ¬ bef f a a := by unfold bef; omega
theorem bef_tr (f : Ad → Int) (a b c : Ad) : bef f a b → bef f b c → bef f a c := by unfold bef; omega
theorem bef_tot {f : Ad → Int} {a b : Ad} (h : a ≠ b) (h2 : ¬ bef f b a) : bef f a b := by
  unfold bef at *
  obtain ⟨a1, a2⟩ := a
  obtain ⟨b1, b2⟩ := b
  by_cases e : a1 = b1
  · by_cases e2 : a2 = b2
    · exact absurd (by rw [e, e2]) h
    · simp only at *; omega
  · simp only at *; omega

def cmpI (a b : Int) : Int := if a < b then -1 else if a > b then 1 else 0
def orI (a b : Int) : Int := if a ≠ 0 then a else b

theorem cmp_wp {a b : Int} {K : Int → Prop} (hK : K (cmpI a b)) : cmp_Compare_int_wp a b K := by
  unfold cmp_Compare_int_wp cmp_isNaN_int_wp
  unfold cmpI at hK
  refine cond_n (fun h => absurd rfl h) (fun _ => cond_n (fun h => absurd rfl h) (fun _ => cond_d (fun h => ?_) (fun h => cond_d (fun h2 => ?_) (fun h2 => ?_))))
  · rwa [if_pos h] at hK
  · rwa [if_neg h, if_pos h2] at hK
  · rwa [if_neg h, if_neg h2] at hK

theorem cmpu_wp {a b : Int} {K : Int → Prop} (hK : K (cmpI a b)) : cmp_Compare_uint32_wp a b K := by
  unfold cmp_Compare_uint32_wp cmp_isNaN_uint32_wp
  unfold cmpI at hK
  refine cond_n (fun h => absurd rfl h) (fun _ => cond_n (fun h => absurd rfl h) (fun _ => cond_d (fun h => ?_) (fun h => cond_d (fun h2 => ?_) (fun h2 => ?_))))
  · rwa [if_pos h] at hK
  · rwa [if_neg h, if_pos h2] at hK
  · rwa [if_neg h, if_neg h2] at hK

theorem or_wp {a b : Int} {K : Int → Prop} (hK : K (orI a b)) : cmp_Or_int_wp [a, b] K := by
  unfold cmp_Or_int_wp
  unfold orI at hK
  have e1 : IntKind.wrap .i64 (0 + 1) = 1 := wrap_i64 (by decide) (by decide)
  have e2 : IntKind.wrap .i64 (1 + 1) = 2 := wrap_i64 (by decide) (by decide)
  refine ⟨fun n i => (n = 2 ∧ i = 0) ∨ (n = 1 ∧ i = 1 ∧ a = 0) ∨ (n = 0 ∧ i = 2 ∧ a = 0 ∧ b = 0), ⟨2, .inl ⟨rfl, rfl⟩⟩, ?_⟩
  rintro n i (⟨rfl, rfl⟩ | ⟨rfl, rfl, h⟩ | ⟨rfl, rfl, h, h2⟩)
  · refine cond_t (by simp) ⟨by decide, by simp, fun x hx => ?_⟩
    obtain rfl : a = x := by simpa using hx
    refine cond_n (fun h => by rwa [if_pos h] at hK) (fun h => ⟨1, by decide, .inr (.inl ⟨rfl, e1, h⟩)⟩)
  · refine cond_t (by simp) ⟨by decide, by simp, fun x hx => ?_⟩
    obtain rfl : b = x := by simpa using hx
    rw [if_neg (by simp [h])] at hK
    refine cond_n (fun _ => hK) (fun h2 => ⟨0, by decide, .inr (.inr ⟨rfl, e2, h, h2⟩)⟩)
  · refine cond_f (by simp) ?_
    rw [if_neg (by simp [h]), h2] at hK
    exact hK

def cfA (f : Ad → Int) (x y : Ad) : Int := orI (cmpI (f y) (f x)) (orI (cmpI x.1 y.1) (cmpI x.2 y.2))

theorem cfA_neg {f : Ad → Int} {x y : Ad} : cfA f x y < 0 ↔ bef f x y := by
  unfold cfA orI cmpI bef
  repeat' split
  all_goals first | omega | (simp only [ne_eq, not_true_eq_false, not_false_eq_true] at *; omega)

theorem cfA_wp {x y : Ad} {m : List (Ad × Int)} {K : Int → Prop} (hK : K (cfA (fun a => mapGet m a 0) x y)) : vote_Box_Held_c1_wp x.1 x.2 y.1 y.2 m K := by
  unfold vote_Box_Held_c1_wp addr_Compare_wp
  exact cmp_wp (cmpu_wp (cmp_wp (or_wp (or_wp hK))))

/-- All addresses that have enough, in their order. -/
structure Held (L : List Vo) (zs : List Ad) : Prop where
  nd : zs.Nodup
  mem : ∀ a, a ∈ zs ↔ 4 ≤ cnt L a
  srt : zs.Pairwise (bef (cnt L))

theorem Held.uniq {L : List Vo} {xs ys : List Ad} (h1 : Held L xs) (h2 : Held L ys) : xs = ys :=
  sorted_eq (bef_irr _) (bef_tr _) xs ys h1.srt h2.srt fun a => by rw [h1.mem, h2.mem]

def enough (x : Ad × Int) : Bool := decide (x.2 ≥ 4)

theorem held_wp {list : List Vo} {now t : Int} {K : List Ad → List Vo → Int → Prop} (ho : okV list) (hl : list.length ≤ 200)
    (hK : ∀ zs, Held (onL (nowOn now t) list) zs → K (zs.take 3) (onL (nowOn now t) list) (nowOn now t)) : vote_Box_Held_wp list now t K := by
  unfold vote_Box_Held_wp
  refine counts_wp ho hl ?_
  have hfl := onL_len (nowOn now t) list
  generalize onL (nowOn now t) list = L at hK hfl ⊢
  obtain ⟨hkn, hget, hmem⟩ := cm_spec L
  -- how many there are
  have hcl : (cm L).length ≤ L.length := by
    have hp := pigeon ((cm L).map fun x : Ad × Int => x.1) (L.map adr) hkn fun a ha => by
      obtain ⟨x, hx, rfl⟩ := List.mem_map.1 ha
      obtain ⟨v, hv, e⟩ := cnt_pos.1 ((hmem x.1 x.2).1 hx).2
      exact List.mem_map.2 ⟨v, hv, e⟩
    simpa using hp
  refine ⟨fun out => out.Perm (((cm L).filter enough).map fun x => x.1), fun out hout => ?_, ?_⟩
  · have hnd : out.Nodup := hout.nodup_iff.2 (hkn.sublist (List.filter_sublist.map _))
    have hol : out.length ≤ L.length := by
      rw [hout.length_eq, List.length_map]
      exact Nat.le_trans (List.length_filter_le _ _) hcl
    have hout2 : ∀ a, a ∈ out ↔ 4 ≤ cnt L a := by
      intro a
      rw [hout.mem_iff]
      constructor
      · intro ha
        obtain ⟨x, hx, rfl⟩ := List.mem_map.1 ha
        obtain ⟨h1, h2⟩ := List.mem_filter.1 hx
        have := (hmem x.1 x.2).1 h1
        unfold enough at h2
        simp only [decide_eq_true_eq] at h2
        omega
      · intro ha
        refine List.mem_map.2 ⟨(a, cnt L a), List.mem_filter.2 ⟨(hmem _ _).2 ⟨rfl, by omega⟩, ?_⟩, rfl⟩
        unfold enough; simpa using ha
    have hf : (fun a => mapGet (cm L) a 0) = cnt L := funext hget
    unfold slices_SortFunc_sl_api_Addr_api_Addr_wp sortW
    refine ⟨fun _ => True, cfA (cnt L), fun _ _ => trivial, fun x y _ _ K' hk => ?_, fun x _ => ?_, fun x y z _ _ _ h1 h2 => ?_, fun x y z _ _ _ h1 h2 => ?_, by omega, fun zs hz hs => ?_⟩
    · refine cfA_wp ?_
      rw [hf]; exact hk
    · rw [cfA_neg]; exact bef_irr _ _
    · rw [cfA_neg] at *; exact bef_tr _ _ _ _ h1 h2
    · rw [cfA_neg] at *
      unfold bef at *
      omega
    · have hzn : zs.Nodup := hz.nodup_iff.2 hnd
      have hh : Held L zs := ⟨hzn, fun a => by rw [hz.mem_iff, hout2], by
        refine (List.Pairwise.and hzn hs).imp ?_
        rintro a b ⟨h1, h2⟩
        rw [cfA_neg] at h2
        exact bef_tot h1 h2⟩
      have hzl := hz.length_eq
      refine ⟨by split <;> omega, by split <;> omega, ?_⟩
      have e1 : (zs.take (if (3 : Int) < (out.length : Int) then 3 else (out.length : Int)).toNat).drop 0 = zs.take 3 := by
        rw [List.drop_zero]
        split
        · rfl
        · rw [show ((out.length : Nat) : Int).toNat = out.length by omega, ← hzl, List.take_length, List.take_of_length_le (by omega)]
      rw [e1]
      exact cloneA_wp (by rw [List.length_take]; omega) (hK zs hh)
  · refine ⟨fun n out lf => n = lf.length ∧ (out ++ (lf.filter enough).map fun x => x.1).Perm (((cm L).filter enough).map fun x => x.1), ⟨_, rfl, by simp⟩, ?_⟩
    rintro n out lf ⟨rfl, hp⟩
    refine ⟨fun e => ?_, fun i x hx => ?_⟩
    · subst e; simpa using hp
    · have hpx := eraseIdx_perm lf i x hx
      have hlen := hpx.length_eq
      simp only [List.length_cons] at hlen
      have hpl := hp.length_eq
      have h1 := List.length_filter_le enough (cm L)
      simp only [List.length_append, List.length_map] at hpl
      have hp2 := ((hpx.filter enough).map fun x => x.1)
      refine cond_d (fun hc => ⟨by simp only [List.length_cons, List.length_nil]; omega, _, (by omega : (lf.eraseIdx i).length < lf.length), rfl, ?_⟩) (fun hc => ⟨_, (by omega : (lf.eraseIdx i).length < lf.length), rfl, ?_⟩)
      · rw [List.filter_cons_of_pos (by unfold enough; simpa using hc), List.map_cons] at hp2
        rw [List.append_assoc]
        exact (hp2.symm.append_left out).trans hp
      · rw [List.filter_cons_of_neg (by unfold enough; simpa using hc)] at hp2
        exact (hp2.symm.append_left out).trans hp

end Go.Proofs.Ytgcodbcfcaacgaa
