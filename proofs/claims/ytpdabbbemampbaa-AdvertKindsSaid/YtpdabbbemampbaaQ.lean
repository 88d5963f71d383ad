/- The plain side of the statements on adverts: what the reference answers; what is asked first; AdvertInside. -/
import Derived.Test.YtpdabbbemampbaaP
namespace Go.Proofs.Ytpdabbbemampbaa
open Go Go.Eng

theorem i64b {h : Int} (hh : inK .i64 h) : -9223372036854775808 ≤ h ∧ h ≤ 9223372036854775807 := by simp [inK, IntKind.min, IntKind.max, IntKind.signed, IntKind.bits] at hh; omega
theorem u8b {h : Int} (hh : inK .u8 h) : 0 ≤ h ∧ h ≤ 255 := by simp [inK, IntKind.min, IntKind.max, IntKind.signed, IntKind.bits] at hh; omega
theorem u32b {h : Int} (hh : inK .u32 h) : 0 ≤ h ∧ h ≤ 4294967295 := by simp [inK, IntKind.min, IntKind.max, IntKind.signed, IntKind.bits] at hh; omega

theorem take_snoc {α : Type} {l : List α} {i : Int} {x : α} (h0 : 0 ≤ i) (hx : l[i.toNat]? = some x) : l.take (i + 1).toNat = l.take i.toNat ++ [x] := by
  obtain ⟨hi, rfl⟩ := List.getElem?_eq_some_iff.1 hx
  rw [show (i + 1).toNat = i.toNat + 1 by omega, List.take_succ_eq_append_getElem hi]

theorem take_all {α : Type} {l : List α} {i : Int} (h : ¬ i < l.length) (h1 : i ≤ l.length) : l.take i.toNat = l := by
  rw [show i.toNat = l.length by omega, List.take_length]

theorem drop_cons {α : Type} {l : List α} {i : Int} {x : α} (h0 : 0 ≤ i) (hx : l[i.toNat]? = some x) : l.drop i.toNat = x :: l.drop (i + 1).toNat := by
  obtain ⟨hi, rfl⟩ := List.getElem?_eq_some_iff.1 hx
  rw [show (i + 1).toNat = i.toNat + 1 by omega, List.drop_eq_getElem_cons hi]

/-! ### What is asked first -/

theorem last_nil {κ : Type} {pl : κ → Pl} {now : Int} {zs : List Pl} (h : Last ([] : List (κ × Int)) pl now zs) : zs = [] := by
  cases zs with
  | nil => rfl
  | cons a zs =>
    obtain ⟨k, v, hk, -⟩ := (h.mem a).1 (List.mem_cons_self ..)
    simp at hk

theorem last_over {κ : Type} {m : List (κ × Int)} {pl : κ → Pl} {now : Int} {zs : List Pl} (h : Last m pl now zs) (ho : ∀ k v, (k, v) ∈ m → v ≤ now) : zs = [] := by
  cases zs with
  | nil => rfl
  | cons a zs =>
    obtain ⟨k, v, hk, hv, -⟩ := (h.mem a).1 (List.mem_cons_self ..)
    have := ho k v hk
    omega

theorem last_one {κ : Type} {k : κ} {v : Int} {pl : κ → Pl} {now : Int} {zs : List Pl} (h : Last [(k, v)] pl now zs) (hv : v > now) : zs = [pl k] := by
  refine sorted_eq befP_irr befP_tr zs [pl k] h.srt (by simp) fun a => ?_
  rw [h.mem]
  simp only [List.mem_cons, List.not_mem_nil, or_false, Prod.mk.injEq]
  constructor
  · rintro ⟨k', v', ⟨rfl, rfl⟩, -, e⟩; exact e.symm
  · rintro rfl; exact ⟨k, v, ⟨rfl, rfl⟩, hv, rfl⟩

theorem awake_wp {K : Bool → Prop} (hK : K true) : embrasurelaw21_awake_wp K := by
  unfold embrasurelaw21_awake_wp advert_New_wp
  refine own_wp (by decide) (fun h => absurd (by unfold okOwn; decide) h) (fun _ => ?_)
  refine mapped_wp (fun h => absurd (by decide) h) (fun _ _ => ?_)
  have e1 : (setM ([] : List (Ad × Int)) (3405803777, 7) 9).2 = [((3405803777, 7), 9)] := by decide
  have e0 : (setM ([] : List (Ad × Int)) (3405803777, 7) 9).1 = 0 := by decide
  rw [e1, e0]
  have hh : okH [(167772161, 5)] := by unfold okH; decide
  have kn1 : KN [(((3405803777, 7) : Ad), (9 : Int))] := by unfold KN; decide
  refine told_wp hh (by decide) kn1 (by decide) KN.nil (by decide) (fun k v h => by simp at h) (fun M R hM hR => ?_)
  obtain rfl := last_one hM (by decide)
  obtain rfl := last_nil hR
  have t1 : tellL [(167772161, 5)] [plA (3405803777, 7)] [] false [] = [(3405803777, 7, 0, false)] := by decide
  rw [t1]
  refine cond_t rfl (cond_t rfl (cond_t rfl ⟨by decide, by decide, fun x hx => ?_⟩))
  obtain rfl : ((3405803777, 7, 0, false) : Pl) = x := by simpa using hx
  refine cond_t (by decide) (told_wp hh (by decide) kn1 (by decide) KN.nil (by decide) (fun k v h => by simp at h) (fun M R hM hR => ?_))
  obtain rfl := last_over hM (fun k v h => by simp only [List.mem_cons, List.not_mem_nil, or_false, Prod.mk.injEq] at h; omega)
  obtain rfl := last_nil hR
  have t2 : tellL [(167772161, 5)] [] [] true [] = [] := by decide
  rw [t2]
  refine cond_t rfl (inside_wp (by decide) (cond_t (by decide) (inside_wp (by decide) ?_)))
  have : (!decide (insideP 3232301313)) = true := by decide
  rw [this]; exact hK

theorem advertInside_plain {host : Int} (h : inK .u32 host) : embrasurelaw21_AdvertInside_wp host (· = true) := by
  unfold embrasurelaw21_AdvertInside_wp
  exact awake_wp (cond_f rfl (inside_wp (u32b h) (rinside_wp (by simp))))

/-! ### The reference -/

/-- A place, and till when. -/
abbrev Un := Int × Int × Int × Bool × Int
def plU (u : Un) : Pl := (u.1, u.2.1, u.2.2.1, u.2.2.2.1)
def mkU (p : Pl) (v : Int) : Un := (p.1, p.2.1, p.2.2.1, p.2.2.2, v)

theorem plU_mk (p : Pl) (v : Int) : plU (mkU p v) = p := rfl

theorem rown_wp {own l : List Ad} {K : Int → List Ad → Prop} (hh : okH l) (hl : l.length ≤ 1000000) (h1 : ¬ okOwn l → K 1 own) (h0 : okOwn l → K 0 l) : embrasureref21_Advert_SetOwn_wp own l K := by
  unfold embrasureref21_Advert_SetOwn_wp
  refine ⟨∀ a ∈ l, mayA a.1 a.2, fun hall => cond_d (fun h => h1 fun hc => by have := hc.1; omega) (fun h => ⟨by simp only [List.length_nil]; omega, by simpa using h0 ⟨by omega, hall⟩⟩), ?_⟩
  refine ⟨fun n i => 0 ≤ i ∧ i ≤ l.length ∧ n = l.length - i.toNat ∧ ∀ a ∈ l.take i.toNat, mayA a.1 a.2, ⟨_, by omega, by omega, rfl, by simp⟩, ?_⟩
  rintro n i ⟨i0, i1, rfl, ha⟩
  refine cond_d (fun hlt => ⟨i0, hlt, fun x hx => rmay_wp (hh x (List.mem_of_getElem? hx)).1 (cond_b (fun e => ?_) (fun e => ?_))⟩) (fun hge => by rw [take_all hge i1] at ha; exact ha)
  · simp only [Bool.not_eq_true', decide_eq_false_iff_not] at e
    exact h1 fun hc => e (hc.2 x (List.mem_of_getElem? hx))
  · simp only [Bool.not_eq_false', decide_eq_true_eq] at e
    rw [wrap_i64 (by omega) (by omega)]
    refine ⟨l.length - (i + 1).toNat, by omega, by omega, by omega, rfl, ?_⟩
    rw [take_snoc i0 hx]
    intro a hm
    rcases List.mem_append.1 hm with hm | hm
    · exact ha a hm
    · simp only [List.mem_cons, List.not_mem_nil, or_false] at hm
      subst hm; exact e

def notP (p : Pl) (u : Un) : Bool := !decide (plU u = p)

instance (x y : Pl) : Decidable (befP x y) := by unfold befP; infer_instance

/-- Put into its place. -/
def insU (p : Pl) (u : Int) : List Un → List Un
  | [] => [mkU p u]
  | x :: l => if plU x = p then insU p u l else if befP p (plU x) then mkU p u :: x :: l.filter (notP p) else x :: insU p u l

def fin (p : Pl) (u : Int) (put : Bool) (l : List Un) : List Un := if put then l.filter (notP p) else insU p u l

theorem fin_cons (p : Pl) (u : Int) (put : Bool) (x : Un) (l : List Un) : fin p u put (x :: l) = if plU x = p then fin p u put l else if put = false ∧ befP p (plU x) then mkU p u :: x :: fin p u true l else x :: fin p u put l := by
  unfold fin
  cases put with
  | true =>
    by_cases h : plU x = p
    · simp [h, notP]
    · simp [h, notP]
  | false =>
    by_cases h : plU x = p
    · simp [insU, h]
    · by_cases h2 : befP p (plU x)
      · simp [insU, h, h2]
      · simp [insU, h, h2]

theorem eqU (x : Un) (p : Pl) : ((((x.1 : Int) == p.1) && (((x.2.1 : Int) == p.2.1) && true)) && (((x.2.2.1 : Int) == p.2.2.1) && ((x.2.2.2.1 == p.2.2.2) && true))) = decide (plU x = p) := by
  obtain ⟨p1, p2, p3, p4⟩ := p
  unfold plU
  rw [Bool.eq_iff_iff]
  simp [Prod.ext_iff, and_assoc]

theorem less_wp {a b c d : Int} {K : Bool → Prop} (hK : K (decide (a < c ∨ a = c ∧ b < d))) : embrasureref03_Less_wp a b c d K := by
  unfold embrasureref03_Less_wp
  refine cond_d (fun h => ?_) (fun h => cond_e (fun h2 => ?_) (fun h2 => ?_))
  all_goals refine dec_key hK _ ?_
  all_goals simp only [decide_eq_true_eq, Bool.false_eq_true, true_iff, false_iff]
  all_goals omega

theorem rset_wp {l : List Un} {p : Pl} {u : Int} {K : Int → Prop} {KX : List Un → Int → Prop} (hl : l.length ≤ 20)
    (h1 : u > 0 → (∀ x ∈ l, plU x ≠ p) → l.length ≥ 20 → K 10) (h0 : ¬ (u > 0 ∧ (∀ x ∈ l, plU x ≠ p) ∧ l.length ≥ 20) → KX (fin p u (decide (u ≤ 0)) l) 0) : embrasureref21_Set_wp l p.1 p.2.1 p.2.2.1 p.2.2.2 u K KX := by
  unfold embrasureref21_Set_wp
  refine ⟨fun out there put => out ++ fin p u put [] = fin p u (decide (u ≤ 0)) l ∧ out.length ≤ 30 ∧ there = decide (∃ x ∈ l, plU x = p), fun out there put h => ?_, ?_⟩
  · obtain ⟨he, hol, ht⟩ := h
    refine ⟨fun o => o = fin p u (decide (u ≤ 0)) l, fun o ho => ?_, cond_b (fun e => ⟨by simp only [List.length_cons, List.length_nil]; omega, ?_⟩) (fun e => ?_)⟩
    · subst ho
      have key : ∀ t : Bool, (t = true ↔ (u > 0 ∧ (∀ x ∈ l, plU x ≠ p) ∧ l.length ≥ 20)) → cond t (K 10) (KX (fin p u (decide (u ≤ 0)) l) 0) := fun t ht => cond_b (fun e => by obtain ⟨a, b, c⟩ := ht.1 e; exact h1 a b c) (fun e => h0 fun hc => by rw [ht.2 hc] at e; cases e)
      refine joinP1.i (cond_d (fun a => cond_b (fun b => key _ ?_) (fun b => key _ ?_)) (fun a => key _ ?_))
      · rw [ht] at b
        have hno : ∀ x ∈ l, plU x ≠ p := fun x hx e => by
          simp only [Bool.not_eq_true', decide_eq_false_iff_not] at b
          exact b ⟨x, hx, e⟩
        simp only [decide_eq_true_eq]
        constructor
        · intro h; exact ⟨a, hno, by omega⟩
        · rintro ⟨-, -, h⟩; omega
      · rw [ht] at b
        simp only [Bool.not_eq_false', decide_eq_true_eq] at b
        obtain ⟨x, hx, e⟩ := b
        simp only [Bool.false_eq_true, false_iff]
        rintro ⟨-, h, -⟩
        exact h x hx e
      · simp only [Bool.false_eq_true, false_iff]
        rintro ⟨h, -⟩
        exact a h
    · cases put with
      | true => cases e
      | false => exact he
    · cases put with
      | false => cases e
      | true => simpa [fin] using he
  · refine ⟨fun n out there put i => 0 ≤ i ∧ i ≤ l.length ∧ n = l.length - i.toNat ∧ out ++ fin p u put (l.drop i.toNat) = fin p u (decide (u ≤ 0)) l ∧ (out.length : Int) ≤ i + (if put then 1 else 0) ∧ there = decide (∃ x ∈ l.take i.toNat, plU x = p), ⟨_, by omega, by omega, rfl, by simp, by split <;> simp, by simp⟩, ?_⟩
    rintro n out there put i ⟨i0, i1, rfl, he, hol, ht⟩
    refine cond_d (fun hlt => ⟨i0, hlt, fun x hx => ?_⟩) (fun hge => ?_)
    · rw [drop_cons i0 hx, fin_cons] at he
      rw [eqU, wrap_i64 (x := i + 1) (by omega) (by omega)]
      have htk := take_snoc i0 hx
      refine cond_d (fun e => ⟨l.length - (i + 1).toNat, by omega, by omega, by omega, rfl, ?_, ?_, ?_⟩) (fun e => ?_)
      · rw [if_pos e] at he; exact he
      · omega
      · rw [htk]
        symm
        simp only [decide_eq_true_eq]
        exact ⟨x, by simp, e⟩
      · rw [if_neg e] at he
        refine ⟨fun a => a = decide (befP p (plU x)), fun a ha => ?_, ⟨i0, hlt, fun y hy => ?_⟩⟩
        · subst ha
          refine ⟨fun o q => o ++ (x :: fin p u q (l.drop (i + 1).toNat)) = fin p u (decide (u ≤ 0)) l ∧ (o.length : Int) ≤ i + (if q then 1 else 0), fun o q ho => ⟨i0, hlt, fun z hz => ?_⟩, ?_⟩
          · rw [hx] at hz; cases hz
            obtain ⟨ho1, ho2⟩ := ho
            refine ⟨by simp only [List.length_cons, List.length_nil]; split at ho2 <;> omega, l.length - (i + 1).toNat, by omega, by omega, by omega, rfl, ?_, ?_, ?_⟩
            · rw [List.append_assoc]; exact ho1
            · simp only [List.length_append, List.length_cons, List.length_nil]; split at ho2 <;> split <;> simp_all <;> omega
            · rw [ht, htk, Bool.eq_iff_iff]
              simp only [decide_eq_true_eq]
              constructor
              · rintro ⟨y, hy, e2⟩; exact ⟨y, List.mem_append.2 (.inl hy), e2⟩
              · rintro ⟨y, hy, e2⟩
                rcases List.mem_append.1 hy with hy | hy
                · exact ⟨y, hy, e2⟩
                · simp only [List.mem_cons, List.not_mem_nil, or_false] at hy
                  subst hy; exact absurd e2 e
          · refine joinP1.i (cond_b (fun hp => cond_d (fun hb => ?_) (fun hb => ?_)) (fun hp => cond_f rfl ?_))
            · cases put with
              | true => cases hp
              | false =>
                rw [if_pos ⟨rfl, hb⟩] at he
                refine ⟨by simp only [List.length_cons, List.length_nil]; simp at hol; omega, ?_, ?_⟩
                · rw [List.append_assoc]; exact he
                · simp only [List.length_append, List.length_cons, List.length_nil]; simp at hol; simp; omega
            · rw [if_neg (fun h => hb h.2)] at he
              exact ⟨he, hol⟩
            · cases put with
              | false => cases hp
              | true =>
                rw [if_neg (fun h => by cases h.1)] at he
                exact ⟨he, hol⟩
        · rw [hx] at hy; cases hy
          refine less_wp (cond_d (fun h => ?_) (fun h => ⟨i0, hlt, fun z hz => ?_⟩))
          · show true = decide _
            symm; simp only [decide_eq_true_eq]; unfold befP plU; simp only; omega
          · rw [hx] at hz; cases hz
            refine cond_b (fun h2 => ⟨i0, hlt, fun w hw => ?_⟩) (fun h2 => ?_)
            · rw [hx] at hw; cases hw
              simp at h2
              rw [Bool.eq_iff_iff]
              simp only [decide_eq_true_eq]
              unfold befP plU
              simp only; omega
            · show false = decide _
              symm
              simp only [decide_eq_false_iff_not]
              intro hc
              unfold befP plU at hc
              simp only at hc
              rw [Bool.eq_false_iff] at h2
              refine h2 ?_
              simp
              omega
    · rw [show i.toNat = l.length by omega, List.drop_length] at he
      rw [take_all hge i1] at ht
      refine ⟨he, ?_, ht⟩
      split at hol <;> omega

/-- What was told to last, as a row. -/
def mapL (now : Int) (l : List Un) : List Pl := (l.filter fun u => decide (u.2.2.2.2 > now)).map plU

theorem fold_snoc (l : List Pl) (p : Pl) : (l ++ [p]).foldl add8 [] = add8 (l.foldl add8 []) p := by rw [List.foldl_append]; rfl

theorem seen_len (seen : List Ad) (pub : Bool) : (seenA seen pub).length ≤ 8 := by
  unfold seenA
  split
  · rw [List.length_map]
    refine Nat.le_trans (List.length_filter_le _ _) ?_
    rw [List.length_take]; omega
  · simp

theorem rtold_wp {own : List Ad} {M R : List Un} {now : Int} {seen : List Ad} {pub : Bool} {K : List Pl → Prop} (hsn : okH seen) (hsl : seen.length ≤ 40) (hol : own.length ≤ 8) (hml : M.length ≤ 20) (hrl : R.length ≤ 20)
    (hK : K (tellL own (mapL now M) seen pub (mapL now R))) : embrasureref21_Advert_Told_wp own M R now seen pub K := by
  unfold embrasureref21_Advert_Told_wp
  have lm : ∀ (L : List Un), (mapL now L).length ≤ L.length := fun L => by unfold mapL; rw [List.length_map]; exact List.length_filter_le _ _
  have lo : (ownA own).length ≤ 8 := by unfold ownA; rw [List.length_map]; exact Nat.le_trans (List.length_filter_le _ _) hol
  have ls := seen_len seen pub
  have lM := lm M
  have lR := lm R
  -- own
  refine ⟨fun a => a = ownA own, fun a ha => ?_, ?_⟩
  rotate_left
  · refine ⟨fun n a i => 0 ≤ i ∧ i ≤ own.length ∧ n = own.length - i.toNat ∧ a = ownA (own.take i.toNat), ⟨_, by omega, by omega, rfl, by simp [ownA]⟩, ?_⟩
    rintro n a i ⟨i0, i1, rfl, rfl⟩
    refine cond_d (fun hlt => ⟨i0, hlt, fun x hx => rinside_wp (cond_b (fun e => ⟨i0, hlt, fun y hy => ?_⟩) (fun e => ?_))⟩) (fun hge => by rw [take_all hge i1])
    · rw [hx] at hy; cases hy
      rw [wrap_i64 (x := i + 1) (by omega) (by omega)]
      have hlen : (ownA (own.take i.toNat)).length ≤ 8 := by unfold ownA; rw [List.length_map]; exact Nat.le_trans (List.length_filter_le _ _) (by rw [List.length_take]; omega)
      refine ⟨by simp only [List.length_cons, List.length_nil]; omega, own.length - (i + 1).toNat, by omega, by omega, by omega, rfl, ?_⟩
      rw [take_snoc i0 hx]
      unfold ownA
      rw [List.filter_append, List.map_append, List.filter_cons_of_pos (p := fun a : Ad => !decide (insideP a.1)) e]
      rfl
    · rw [wrap_i64 (x := i + 1) (by omega) (by omega)]
      refine ⟨own.length - (i + 1).toNat, by omega, by omega, by omega, rfl, ?_⟩
      rw [take_snoc i0 hx]
      unfold ownA
      rw [List.filter_append, List.map_append, List.filter_cons_of_neg (p := fun a : Ad => !decide (insideP a.1)) (by rw [e]; simp)]
      simp
  subst ha
  -- mapped
  refine ⟨fun a => a = ownA own ++ mapL now M, fun a ha => ?_, ?_⟩
  rotate_left
  · refine ⟨fun n a i => 0 ≤ i ∧ i ≤ M.length ∧ n = M.length - i.toNat ∧ a = ownA own ++ mapL now (M.take i.toNat), ⟨_, by omega, by omega, rfl, by simp [mapL]⟩, ?_⟩
    rintro n a i ⟨i0, i1, rfl, rfl⟩
    have := lm (M.take i.toNat)
    rw [List.length_take] at this
    refine cond_d (fun hlt => ⟨i0, hlt, fun x hx => cond_d (fun e => ⟨i0, hlt, fun y hy => ?_⟩) (fun e => ?_)⟩) (fun hge => by rw [take_all hge i1])
    · rw [hx] at hy; cases hy
      rw [wrap_i64 (x := i + 1) (by omega) (by omega)]
      refine ⟨by simp only [List.length_append, List.length_cons, List.length_nil]; omega, M.length - (i + 1).toNat, by omega, by omega, by omega, rfl, ?_⟩
      rw [take_snoc i0 hx, List.append_assoc]
      unfold mapL
      rw [List.filter_append, List.map_append, List.filter_cons_of_pos (p := fun u : Un => decide (u.2.2.2.2 > now)) (by simpa using e)]
      rfl
    · rw [wrap_i64 (x := i + 1) (by omega) (by omega)]
      refine ⟨M.length - (i + 1).toNat, by omega, by omega, by omega, rfl, ?_⟩
      rw [take_snoc i0 hx]
      unfold mapL
      rw [List.filter_append, List.map_append, List.filter_cons_of_neg (p := fun u : Un => decide (u.2.2.2.2 > now)) (by simpa using e)]
      simp
  subst ha
  -- seen
  refine ⟨fun a => a = (ownA own ++ mapL now M) ++ seenA seen pub, fun a ha => ?_, ?_⟩
  rotate_left
  · refine ⟨fun n a i => 0 ≤ i ∧ i ≤ 8 ∧ i ≤ seen.length ∧ n = 8 - i.toNat ∧ a = (ownA own ++ mapL now M) ++ seenA (seen.take i.toNat) pub, ⟨8, by omega, by omega, by omega, rfl, by simp [seenA]⟩, ?_⟩
    rintro n a i ⟨i0, i8, i1, rfl, rfl⟩
    have hlen := seen_len (seen.take i.toNat) pub
    refine ⟨fun t => (t = true ↔ i < seen.length ∧ i < 8 ∧ pub = true), fun t ht => cond_b (fun e => ?_) (fun e => ?_), ?_⟩
    · obtain ⟨hlt, h8, hp⟩ := ht.1 e
      refine ⟨i0, hlt, fun x hx => rmay_wp (hsn x (List.mem_of_getElem? hx)).1 ?_⟩
      have htk := take_snoc i0 hx
      have hmin : ∀ j : Int, 0 ≤ j → j ≤ 8 → (seen.take j.toNat).take 8 = seen.take j.toNat := fun j h0 h1 => by rw [List.take_take]; congr 1; omega
      have hs1 : seenA (seen.take (i + 1).toNat) pub = seenA (seen.take i.toNat) pub ++ ([x].filter fun a : Ad => decide (mayA a.1 a.2)).map plA := by
        unfold seenA
        rw [hp, if_pos rfl, if_pos rfl, hmin _ (by omega) (by omega), hmin _ (by omega) (by omega), htk, List.filter_append, List.map_append]
      rw [wrap_i64 (x := i + 1) (by omega) (by omega)]
      refine cond_d (fun hm => ⟨i0, hlt, fun y hy => ?_⟩) (fun hm => ⟨8 - (i + 1).toNat, by omega, by omega, by omega, by omega, rfl, ?_⟩)
      · rw [hx] at hy; cases hy
        refine ⟨by simp only [List.length_append, List.length_cons, List.length_nil]; omega, 8 - (i + 1).toNat, by omega, by omega, by omega, by omega, rfl, ?_⟩
        rw [hs1, List.filter_cons_of_pos (p := fun a : Ad => decide (mayA a.1 a.2)) (by simpa using hm)]
        simp [plA]
      · rw [hs1, List.filter_cons_of_neg (p := fun a : Ad => decide (mayA a.1 a.2)) (by simpa using hm)]
        simp
    · have hn : ¬ (i < seen.length ∧ i < 8 ∧ pub = true) := fun hc => by rw [ht.2 hc] at e; cases e
      have : seenA (seen.take i.toNat) pub = seenA seen pub := by
        unfold seenA
        cases pub with
        | false => rfl
        | true =>
          rw [if_pos rfl, if_pos rfl, List.take_take]
          rcases Nat.lt_or_ge i.toNat 8 with h | h
          · have hlen2 : seen.length ≤ i.toNat := by
              have : ¬ i < seen.length := fun hc => hn ⟨hc, by omega, rfl⟩
              omega
            rw [List.take_of_length_le (by omega), List.take_of_length_le (by omega)]
          · rw [show min 8 i.toNat = 8 by omega]
      rw [this]
    · refine cond_d (fun h1 => cond_d (fun h2 => ?_) (fun h2 => ?_)) (fun h1 => ?_)
      · exact ⟨fun h => ⟨h1, h2, h⟩, fun h => h.2.2⟩
      · simp only [Bool.false_eq_true, false_iff]; exact fun h => h2 h.2.1
      · simp only [Bool.false_eq_true, false_iff]; exact fun h => h1 h.1
  subst ha
  -- relays
  refine ⟨fun a => a = ((ownA own ++ mapL now M) ++ seenA seen pub) ++ mapL now R, fun a ha => ?_, ?_⟩
  rotate_left
  · refine ⟨fun n a i => 0 ≤ i ∧ i ≤ R.length ∧ n = R.length - i.toNat ∧ a = ((ownA own ++ mapL now M) ++ seenA seen pub) ++ mapL now (R.take i.toNat), ⟨_, by omega, by omega, rfl, by simp [mapL]⟩, ?_⟩
    rintro n a i ⟨i0, i1, rfl, rfl⟩
    have := lm (R.take i.toNat)
    rw [List.length_take] at this
    refine cond_d (fun hlt => ⟨i0, hlt, fun x hx => cond_d (fun e => ⟨i0, hlt, fun y hy => ?_⟩) (fun e => ?_)⟩) (fun hge => by rw [take_all hge i1])
    · rw [hx] at hy; cases hy
      rw [wrap_i64 (x := i + 1) (by omega) (by omega)]
      refine ⟨by simp only [List.length_append, List.length_cons, List.length_nil]; omega, R.length - (i + 1).toNat, by omega, by omega, by omega, rfl, ?_⟩
      rw [take_snoc i0 hx, List.append_assoc _ _ [_]]
      congr 1
      unfold mapL
      rw [List.filter_append, List.map_append, List.filter_cons_of_pos (p := fun u : Un => decide (u.2.2.2.2 > now)) (by simpa using e)]
      rfl
    · rw [wrap_i64 (x := i + 1) (by omega) (by omega)]
      refine ⟨R.length - (i + 1).toNat, by omega, by omega, by omega, rfl, ?_⟩
      rw [take_snoc i0 hx]
      congr 1
      unfold mapL
      rw [List.filter_append, List.map_append, List.filter_cons_of_neg (p := fun u : Un => decide (u.2.2.2.2 > now)) (by simpa using e)]
      simp
  subst ha
  have hall : tellL own (mapL now M) seen pub (mapL now R) = (((ownA own ++ mapL now M) ++ seenA seen pub) ++ mapL now R).foldl add8 [] := by unfold tellL; rw [List.append_assoc, List.append_assoc]
  rw [hall] at hK
  have hal : (((ownA own ++ mapL now M) ++ seenA seen pub) ++ mapL now R).length ≤ 100 := by simp only [List.length_append]; omega
  generalize ((ownA own ++ mapL now M) ++ seenA seen pub) ++ mapL now R = A at hK hal ⊢
  refine ⟨fun n out i => 0 ≤ i ∧ i ≤ A.length ∧ n = A.length - i.toNat ∧ out = (A.take i.toNat).foldl add8 [], ⟨_, by omega, by omega, rfl, by simp⟩, ?_⟩
  rintro n out i ⟨i0, i1, rfl, hout⟩
  have hol8 : out.length ≤ 8 := by rw [hout]; exact fold8_len _ (by simp)
  refine cond_d (fun hlt => ?_) (fun hge => by rw [take_all hge i1] at hout; rw [hout]; exact hK)
  obtain ⟨x, hx⟩ : ∃ x, A[i.toNat]? = some x := ⟨A[i.toNat]'(by omega), List.getElem?_eq_getElem (by omega)⟩
  refine ⟨fun f => f = decide (x ∉ out), fun f hf => ?_, ?_⟩
  · have hst : (A.take (i + 1).toNat).foldl add8 [] = add8 out x := by rw [take_snoc i0 hx, fold_snoc, hout]
    rw [wrap_i64 (x := i + 1) (by omega) (by omega)]
    refine joinP1.i (cond_b (fun e => cond_d (fun h8 => ⟨i0, hlt, fun y hy => ?_⟩) (fun h8 => ?_)) (fun e => ?_))
    · rw [hx] at hy; cases hy
      rw [hf] at e
      simp only [decide_eq_true_eq] at e
      refine ⟨by simp only [List.length_cons, List.length_nil]; omega, A.length - (i + 1).toNat, by omega, by omega, by omega, rfl, ?_⟩
      rw [hst]; unfold add8; rw [if_neg e, if_neg (by omega)]
    · rw [hf] at e
      simp only [decide_eq_true_eq] at e
      refine ⟨A.length - (i + 1).toNat, by omega, by omega, by omega, rfl, ?_⟩
      rw [hst]; unfold add8; rw [if_neg e, if_pos (by omega)]
    · rw [hf] at e
      simp only [decide_eq_false_iff_not, Classical.not_not] at e
      refine cond_f rfl ⟨A.length - (i + 1).toNat, by omega, by omega, by omega, rfl, ?_⟩
      rw [hst]; unfold add8; rw [if_pos e]
  · refine ⟨fun n f k => 0 ≤ k ∧ k ≤ out.length ∧ n = out.length - k.toNat ∧ f = decide (x ∉ out.take k.toNat), ⟨_, by omega, by omega, rfl, by simp⟩, ?_⟩
    rintro n f k ⟨k0, k1, rfl, hf⟩
    refine cond_d (fun hkl => ?_) (fun hkl => by rw [take_all hkl k1] at hf; exact hf)
    have hk1 : k.toNat < out.length := by omega
    have htk := List.take_succ_eq_append_getElem hk1
    rw [show k.toNat + 1 = (k + 1).toNat by omega] at htk
    rw [wrap_i64 (x := k + 1) (by omega) (by omega)]
    refine cond_b (fun e => ⟨k0, hkl, fun y hy => ⟨i0, hlt, fun z hz => ?_⟩⟩) (fun e => ⟨out.length - (k + 1).toNat, by omega, by omega, by omega, rfl, ?_⟩)
    · rw [hx] at hz; cases hz
      rw [List.getElem?_eq_getElem hk1, Option.some.injEq] at hy
      rw [hf] at e
      simp only [decide_eq_true_eq] at e
      refine ⟨out.length - (k + 1).toNat, by omega, by omega, by omega, rfl, ?_⟩
      rw [eqP, htk, hy, Bool.eq_iff_iff]
      simp only [Bool.not_eq_true', decide_eq_false_iff_not, decide_eq_true_eq, List.mem_append, List.mem_cons, List.not_mem_nil, or_false, not_or]
      exact ⟨fun h => ⟨e, fun h2 => h h2.symm⟩, fun h h2 => h.2 h2.symm⟩
    · rw [hf] at e
      simp only [decide_eq_false_iff_not, Classical.not_not] at e
      symm
      simp only [decide_eq_false_iff_not, Classical.not_not]
      rw [htk]
      exact List.mem_append.2 (.inl e)

theorem places_wp {a b : List Pl} {K : Bool → Prop} (h : a = b) (hl : a.length ≤ 1000) (hK : K true) : embrasureref21_Places_wp a b K := by
  subst h
  unfold embrasureref21_Places_wp
  refine cond_n (fun h => absurd rfl h) (fun _ => ⟨fun n i => 0 ≤ i ∧ i ≤ a.length ∧ n = a.length - i.toNat, ⟨_, by omega, by omega, rfl⟩, ?_⟩)
  rintro n i ⟨h0, h1, rfl⟩
  refine cond_d (fun hlt => ⟨h0, hlt, fun x hx => ⟨h0, hlt, fun y hy => ?_⟩⟩) (fun _ => hK)
  rw [hx] at hy; cases hy
  refine cond_f (by rw [eqP]; simp) ⟨a.length - (i + 1).toNat, by omega, ?_⟩
  rw [wrap_i64 (by omega) (by omega)]
  exact ⟨by omega, by omega, rfl⟩

end Go.Proofs.Ytpdabbbemampbaa
