/- The plain side of the statements on path: places, and the ways. -/
import Derived.Test.YtjlmpfoaiaolhaaL
import Derived.Test.YtjlmpfoaiaolhaaEngS
import Derived.Test.YtjlmpfoaiaolhaaEngR
namespace Go.Proofs.Ytjlmpfoaiaolhaa
open Go Go.Eng

abbrev Pl := Int × Int × Int × Bool

theorem dec_key {P : Prop} [Decidable P] {K : Bool → Prop} (hK : K (decide P)) (b : Bool) (h : b = true ↔ P) : K b := by
  have : b = decide P := by
    cases b with
    | true => exact (decide_eq_true (h.1 rfl)).symm
    | false => exact (decide_eq_false (fun hp => by have := h.2 hp; cases this)).symm
  rwa [this]

def mayP (h p : Int) : Prop := h ≠ 0 ∧ 1 ≤ p ∧ p ≤ 65535
instance (h p : Int) : Decidable (mayP h p) := by unfold mayP; infer_instance
def plP (x : Pl) : Prop := mayP x.1 x.2.1 ∧ 0 ≤ x.2.2.1 ∧ x.2.2.1 ≤ 2147483647 ∧ (x.2.2.1 > 0 ∨ x.2.2.2 = false)
instance (x : Pl) : Decidable (plP x) := by unfold plP; infer_instance

theorem may_wp {h p : Int} {K : Bool → Prop} (hK : K (decide (mayP h p))) : addr_May_wp h p K := by
  unfold addr_May_wp
  refine cond_n (fun a => cond_d (fun b => ?_) (fun b => ?_)) (fun a => ?_)
  all_goals refine dec_key hK _ ?_
  all_goals simp only [mayP, decide_eq_true_eq, Bool.false_eq_true]
  all_goals constructor <;> intro hh <;> first | omega | exact hh.elim

theorem rmay_wp {h p : Int} {K : Bool → Prop} (h0 : 0 ≤ h) (hK : K (decide (mayP h p))) : embrasureref03_May_wp h p K := by
  unfold embrasureref03_May_wp
  refine cond_d (fun a => cond_d (fun b => ?_) (fun b => ?_)) (fun a => ?_)
  all_goals refine dec_key hK _ ?_
  all_goals simp only [mayP, decide_eq_true_eq, Bool.false_eq_true]
  all_goals constructor <;> intro hh <;> first | omega | exact hh.elim

theorem mayPlace_wp {x : Pl} {K : Bool → Prop} (hK : K (decide (plP x))) : addr_MayPlace_wp x.1 x.2.1 x.2.2.1 x.2.2.2 K := by
  unfold addr_MayPlace_wp
  refine may_wp (cond_b (fun a => cond_d (fun b => cond_d (fun c => cond_d (fun d => ?_) (fun d => ?_)) (fun c => ?_)) (fun b => ?_)) (fun a => ?_))
  all_goals refine dec_key hK _ ?_
  all_goals simp only [plP, decide_eq_true_eq, decide_eq_false_iff_not, Bool.not_eq_true', Bool.false_eq_true] at *
  · exact ⟨fun _ => ⟨a, b, c, .inl d⟩, fun _ => trivial⟩
  · exact ⟨fun e => ⟨a, b, c, .inr e⟩, fun e => e.2.2.2.resolve_left d⟩
  · exact ⟨fun e => e.elim, fun e => c e.2.2.1⟩
  · exact ⟨fun e => e.elim, fun e => b e.2.1⟩
  · exact ⟨fun e => e.elim, fun e => a e.1⟩

theorem rplace_wp {x : Pl} {K : Bool → Prop} (h0 : 0 ≤ x.1) (hK : K (decide (plP x))) : embrasureref03_Place_wp x.1 x.2.1 x.2.2.1 x.2.2.2 K := by
  unfold embrasureref03_Place_wp
  refine ⟨fun t => (t = true ↔ ¬ (mayP x.1 x.2.1 ∧ 0 ≤ x.2.2.1 ∧ x.2.2.1 ≤ 2147483647)), fun t ht => ?_, ?_⟩
  · cases t with
    | true =>
      refine cond_t rfl (dec_key hK _ ?_)
      have := ht.1 rfl
      exact ⟨fun e => (by cases e), fun e => absurd ⟨e.1, e.2.1, e.2.2.1⟩ this⟩
    | false =>
      have hq : mayP x.1 x.2.1 ∧ 0 ≤ x.2.2.1 ∧ x.2.2.1 ≤ 2147483647 := by
        by_cases hq : mayP x.1 x.2.1 ∧ 0 ≤ x.2.2.1 ∧ x.2.2.1 ≤ 2147483647
        · exact hq
        · have := ht.2 hq; cases this
      refine cond_f rfl (cond_b (fun b => ?_) (fun b => ?_))
      all_goals refine dec_key hK _ ?_
      all_goals simp only [plP, decide_eq_true_eq] at *
      · exact ⟨fun _ => ⟨hq.1, hq.2.1, hq.2.2, .inr (by simpa using b)⟩, fun _ => trivial⟩
      · exact ⟨fun e => ⟨hq.1, hq.2.1, hq.2.2, .inl e⟩, fun e => e.2.2.2.resolve_right (by simpa using b)⟩
  · refine rmay_wp h0 (cond_b (fun a => ?_) (fun a => cond_d (fun b => ?_) (fun b => ?_)))
    all_goals simp only [Bool.not_eq_true', decide_eq_false_iff_not, Bool.not_eq_false', decide_eq_true_eq, true_iff] at *
    · exact fun e => a e.1
    · exact fun e => by omega
    · constructor
      · intro e q; omega
      · intro e
        by_cases hc : x.2.2.1 > 2147483647
        · exact hc
        · exact absurd ⟨a, by omega, by omega⟩ e

def insideP (h : Int) : Prop := (167772160 ≤ h ∧ h ≤ 184549375) ∨ (2886729728 ≤ h ∧ h ≤ 2887778303) ∨ (3232235520 ≤ h ∧ h ≤ 3232301055)
instance (h : Int) : Decidable (insideP h) := by unfold insideP; infer_instance

theorem inside_wp {h : Int} {K : Bool → Prop} (hK : K (decide (insideP h))) : advert_Inside_wp h K := by
  unfold advert_Inside_wp
  have e1 : Int.fdiv h (2 ^ (min (Int.toNat 24) (IntKind.bits .u32))) = h / 16777216 := fdiv_pow h 24
  have e2 : Int.fdiv h (2 ^ (min (Int.toNat 20) (IntKind.bits .u32))) = h / 1048576 := fdiv_pow h 20
  have e3 : Int.fdiv h (2 ^ (min (Int.toNat 16) (IntKind.bits .u32))) = h / 65536 := fdiv_pow h 16
  rw [e1, e2, e3]
  refine cond_e (fun a => ?_) (fun a => cond_e (fun b => ?_) (fun b => ?_))
  all_goals refine dec_key hK _ ?_
  all_goals simp only [insideP, beq_iff_eq, true_iff]
  all_goals omega

theorem rinside_wp {h : Int} {K : Bool → Prop} (hK : K (decide (insideP h))) : embrasureref21_Inside_wp h K := by
  unfold embrasureref21_Inside_wp
  refine cond_d (fun a => cond_d (fun b => ?_) (fun b => cond_d (fun c => cond_d (fun d => ?_) (fun d => cond_d (fun e => ?_) (fun e => ?_))) (fun c => cond_d (fun e => ?_) (fun e => ?_))))
    (fun a => cond_d (fun c => cond_d (fun d => ?_) (fun d => cond_d (fun e => ?_) (fun e => ?_))) (fun c => cond_d (fun e => ?_) (fun e => ?_)))
  all_goals refine dec_key hK _ ?_
  all_goals simp only [insideP, decide_eq_true_eq, true_iff, Bool.false_eq_true, false_iff]
  all_goals omega

/-- The kinds of places, as the program goes through them. -/
def kindB (own : Int) : Nat → Pl → Bool
  | 0, x => decide (plP x) && (!x.2.2.2 && !decide (insideP x.1))
  | 1, x => decide (plP x) && (!x.2.2.2 && (decide (insideP x.1) && decide (x.1 / 256 = own / 256)))
  | _, x => decide (plP x) && x.2.2.2

def step (out : List Pl) (x : Pl) : List Pl := if out.length = 8 then out else if x ∈ out then out else out ++ [x]
def ways (own : Int) (l : List Pl) : List Pl := ((l.filter (kindB own 0) ++ l.filter (kindB own 1)) ++ l.filter (kindB own 2)).foldl step []

/-- A range over the places that are so, till one that is the last. -/
def run {σ : Type} (good : Pl → Bool) (f : σ → Pl → Bool × σ) : List Pl → σ → σ
  | [], s => s
  | x :: xs, s => if good x then (if (f s x).1 then run good f xs (f s x).2 else (f s x).2) else run good f xs s

theorem some_wp {σ0 σ1 : Type} {s0 : σ0} {Y0 : Pl → σ0 → (Bool → σ0 → Prop) → Prop} {t : List Pl} {s1 : σ1} {Y1 : Pl → σ1 → (Bool → σ1 → Prop) → Prop} {K : σ0 → σ1 → Prop} (Inv : σ0 → Prop) (is : Pl → Bool) (f : σ0 → Pl → Bool × σ0)
    (hl : t.length ≤ 9223372036854775000) (hY1 : ∀ x K, K (is x) s1 → Y1 x s1 K) (hY0 : ∀ x s K, Inv s → K (f s x).1 (f s x).2 → Y0 x s K) (hI : ∀ s x, Inv s → (f s x).1 = true → Inv (f s x).2) (h0 : Inv s0)
    (hK : K (run (fun x => decide (plP x) && is x) f t s0) s1) : path_some_c1_wp s0 Y0 t s1 Y1 K := by
  unfold path_some_c1_wp
  refine ⟨fun n i s s' => s' = s1 ∧ 0 ≤ i ∧ i ≤ t.length ∧ n = t.length - i.toNat ∧ Inv s ∧ run (fun x => decide (plP x) && is x) f (t.drop i.toNat) s = run (fun x => decide (plP x) && is x) f t s0, ⟨_, rfl, by omega, by omega, rfl, h0, rfl⟩, ?_⟩
  rintro n i s s' ⟨rfl, hi0, hi1, rfl, hInv, hr⟩
  refine cond_d (fun hlt => ⟨hi0, hlt, fun x hx => ?_⟩) (fun hge => ?_)
  · have hd : t.drop i.toNat = x :: t.drop (i.toNat + 1) := by
      have hi : i.toNat < t.length := by omega
      rw [List.getElem?_eq_getElem hi] at hx
      cases hx
      exact List.drop_eq_getElem_cons hi
    rw [hd, run] at hr
    have hback : ∀ (z : σ0), Inv z → run (fun x => decide (plP x) && is x) f (t.drop (i.toNat + 1)) z = run (fun x => decide (plP x) && is x) f t s0 →
        ∃ n, n < t.length - i.toNat ∧ s' = s' ∧ 0 ≤ IntKind.wrap .i64 (i + 1) ∧ IntKind.wrap .i64 (i + 1) ≤ t.length ∧ n = t.length - (IntKind.wrap .i64 (i + 1)).toNat ∧ Inv z ∧
          run (fun x => decide (plP x) && is x) f (t.drop (IntKind.wrap .i64 (i + 1)).toNat) z = run (fun x => decide (plP x) && is x) f t s0 := by
      intro z hz hrz
      rw [wrap_i64 (by omega) (by omega), show (i + 1).toNat = i.toNat + 1 by omega]
      exact ⟨_, by omega, rfl, by omega, by omega, rfl, hz, hrz⟩
    refine joinP3.i (mayPlace_wp (cond_b (fun a => ?_) (fun a => ?_)))
    · refine hY1 x _ (cond_b (fun b => ?_) (fun b => ?_))
      · rw [if_pos (by rw [a, b]; rfl)] at hr
        refine hY0 x s _ hInv ?_
        refine cond_b (fun c => ?_) (fun c => ?_)
        · have c : (f s x).1 = false := by simpa using c
          rw [if_neg (by simp [c])] at hr
          rw [hr]
          exact hK
        · have c : (f s x).1 = true := by simpa using c
          rw [if_pos c] at hr
          exact hback _ (hI _ _ hInv c) hr
      · rw [if_neg (by rw [b]; simp)] at hr
        exact cond_f rfl (hback _ hInv hr)
    · rw [if_neg (by rw [a]; simp)] at hr
      exact cond_f rfl (hback _ hInv hr)
  · rw [List.drop_eq_nil_of_le (by omega)] at hr
    rw [← hr] at hK
    exact hK

end Go.Proofs.Ytjlmpfoaiaolhaa
