/- The plain side: what is asked for, what is told of all. -/
import Derived.Test.YthhbnjcebmhilaaQ
import Derived.Test.YthhbnjcebmhilaaEngZ
namespace Go.Proofs.Ythhbnjcebmhilaa
open Go Go.Eng

/-! ### What is asked for -/

def setU (u : Int) (x : BX) : BX := (x.1, x.2.1, x.2.2.1, x.2.2.2.1, x.2.2.2.2.1, u, x.2.2.2.2.2.2.1, x.2.2.2.2.2.2.2)

def natAsk (lo hi mo : Int) (bs : List BX) (ih ip wish u : Int) : (Int × Int) × List BX :=
  match bs.findIdx? (isAsked ih ip) with
  | some i => match bs[i]? with
    | some x => ((x.2.2.2.2.1, 0), bs.set i (setU u x))
    | none => ((0, 10), bs)
  | none => match chooseP lo hi wish bs with
    | some p => if (bs.length : Int) < mo then ((p, 0), bs ++ [(ih, ip, 0, 0, p, u, true, [])]) else ((0, 10), bs)
    | none => ((0, 10), bs)

theorem ask_wp {h lo hi mp fi li mo now t ih ip wish u : Int} {l : List (Option Nat)} {m : SB} {bs : List BX} {K : Int → Int → List (Option Nat) → Int → SB → Prop} (hr : Rep m l bs) (hb : bs.length ≤ 100000) (hlo : 1 ≤ lo) (hhi : hi ≤ 65535)
    (h1 : ¬ (mayP ih ip ∧ t < u ∧ u ≤ 1099511627776 ∧ now ≤ t ∧ t ≤ 1099511627776) → K 0 1 l now m)
    (h2 : mayP ih ip ∧ t < u ∧ u ≤ 1099511627776 ∧ now ≤ t ∧ t ≤ 1099511627776 → ∀ l' m', Rep m' l' (natAsk lo hi mo (live t bs) ih ip wish u).2 → Fr m m' l l' → K (natAsk lo hi mo (live t bs) ih ip wish u).1.1 (natAsk lo hi mo (live t bs) ih ip wish u).1.2 l' t m') :
    nat_Nat_Ask_wp h lo hi mp fi li mo l now t ih ip wish u m K := by
  unfold nat_Nat_Ask_wp
  refine ⟨fun l' n' x => (x = true ∧ l' = l ∧ n' = now ∧ ¬ (mayP ih ip ∧ t < u ∧ u ≤ 1099511627776 ∧ now ≤ t ∧ t ≤ 1099511627776)) ∨ (x = false ∧ n' = t ∧ Rep m l' (live t bs) ∧ (∀ p ∈ l', p ∈ l) ∧ (mayP ih ip ∧ t < u ∧ u ≤ 1099511627776 ∧ now ≤ t ∧ t ≤ 1099511627776)), ?_, ?_⟩
  · rintro l' n' x (⟨rfl, rfl, rfl, hc⟩ | ⟨rfl, rfl, hr', hsub, hc⟩)
    · exact cond_t rfl (h1 hc)
    · refine cond_f rfl ?_
      have h2 := h2 hc
      have hfl : (live n' bs).length ≤ bs.length := List.length_filter_le _ _
      have hf0 : Fr m m l l' := Fr.sub hsub
      refine asked_wp hr' (by omega) (fun hn => ?_) (fun i p x hia hp hx hpx => ?_)
      · refine ⟨fun l2 b2 m2 => ∃ p b, b2 = some b ∧ chooseP lo hi wish (live n' bs) = some p ∧ ((live n' bs).length : Int) < mo ∧ Rep m2 l2 (live n' bs ++ [(ih, ip, 0, 0, p, 0, true, [])]) ∧ l2 = l' ++ [some b] ∧ getS m2 b = some (ih, ip, 0, 0, p, 0, true, []) ∧ Fr m m2 l l2, ?_, cond_t rfl (made_wp hr' (by omega) hlo hhi (fun hc2 => ?_) (fun p b hp hlt hr2 hf2 => ?_))⟩
        · rintro l2 b2 m2 ⟨p, b, rfl, hp, hlt, hr2, rfl, hg, hf2⟩
          refine ⟨b, rfl, _, hg, ?_⟩
          have hi2 : (l' ++ [some b])[l'.length]? = some (some b) := by simp
          obtain ⟨q1, q2⟩ := hr2.set hi2 (ih, ip, 0, 0, p, u, true, [])
          have e : natAsk lo hi mo (live n' bs) ih ip wish u = ((p, 0), live n' bs ++ [(ih, ip, 0, 0, p, u, true, [])]) := by
            unfold natAsk
            rw [hn]
            simp only [hp]
            rw [if_pos hlt]
          rw [e] at h2
          refine h2 _ _ ?_ (hf2.trans q2)
          have : (live n' bs ++ [((ih, ip, 0, 0, p, 0, true, []) : BX)]).set l'.length (ih, ip, 0, 0, p, u, true, []) = live n' bs ++ [(ih, ip, 0, 0, p, u, true, [])] := by
            rw [hr'.all.length]; simp
          rwa [this] at q1
        · have e : natAsk lo hi mo (live n' bs) ih ip wish u = ((0, 10), live n' bs) := by
            unfold natAsk
            rw [hn]
            rcases hc2 with hc2 | hc2
            · simp only [hc2]
            · cases hch : chooseP lo hi wish (live n' bs) with
              | none => rfl
              | some p => simp only []; rw [if_neg (by omega)]
          rw [e] at h2
          exact cond_t rfl (h2 l' m hr' hf0)
        · refine cond_f rfl ⟨p, b, rfl, hp, hlt, hr2, rfl, by rw [getS_put, if_pos rfl], hf0.trans hf2⟩
      · obtain ⟨b, rfl, hbx⟩ := hpx
        refine ⟨fun l2 b2 m2 => l2 = l' ∧ b2 = some b ∧ m2 = m, ?_, cond_f rfl ⟨rfl, rfl, rfl⟩⟩
        rintro l2 b2 m2 ⟨rfl, rfl, rfl⟩
        refine ⟨b, rfl, x, hbx, ?_⟩
        have e : natAsk lo hi mo (live n' bs) ih ip wish u = ((x.2.2.2.2.1, 0), (live n' bs).set i (setU u x)) := by
          unfold natAsk
          rw [hia]
          simp only [hx]
        rw [e] at h2
        obtain ⟨q1, q2⟩ := hr'.set hp (setU u x)
        exact h2 _ _ q1 (hf0.trans q2)
  · refine addrMay_wp (cond_b (fun a => .inl ⟨rfl, rfl, rfl, fun hc => ?_⟩) (fun a => cond_d (fun b => .inl ⟨rfl, rfl, rfl, fun hc => ?_⟩) (fun b => cond_d (fun c => .inl ⟨rfl, rfl, rfl, fun hc => ?_⟩) (fun c => on_wp hr (by omega) (fun d => .inl ⟨rfl, rfl, rfl, fun hc => d hc.2.2.2⟩) (fun d l' hr' hsub => .inr ⟨rfl, rfl, hr', hsub, ?_, by omega, by omega, d⟩)))))
    · simp [hc.1] at a
    · omega
    · omega
    · simpa using a

/-! ### All -/

abbrev BI := Int × Int × Int × Int × Int × Int × Bool
def bi (x : BX) : BI := (x.1, x.2.1, x.2.2.1, x.2.2.2.1, x.2.2.2.2.1, x.2.2.2.2.2.1, x.2.2.2.2.2.2.1)

def cmpI (x y : Int) : Int := if x < y then -1 else if x > y then 1 else 0

theorem cmpI_lt (x y : Int) : cmpI x y < 0 ↔ x < y := by
  unfold cmpI
  split
  · omega
  · split <;> omega

theorem compare_wp {x y : Int} {K : Int → Prop} (hK : K (cmpI x y)) : cmp_Compare_int_wp x y K := by
  unfold cmp_Compare_int_wp cmp_isNaN_int_wp
  unfold cmpI at hK
  refine cond_f (by simp) (cond_f (by simp) (cond_d (fun a => ?_) (fun a => cond_d (fun b => ?_) (fun b => ?_))))
  · rw [if_pos a] at hK; exact hK
  · rw [if_neg a, if_pos b] at hK; exact hK
  · rw [if_neg a, if_neg b] at hK; exact hK

theorem all_wp {h lo hi mp fi li mo now t : Int} {l : List (Option Nat)} {m : SB} {bs : List BX} {K : List BI → List (Option Nat) → Int → SB → Prop} (hr : Rep m l bs) (hb : bs.length ≤ 100000)
    (h1 : ¬ (now ≤ t ∧ t ≤ 1099511627776) → K [] l now m)
    (h2 : now ≤ t ∧ t ≤ 1099511627776 → ∀ l' m' rs, Rep m' l' (live t bs) → Fr m m' l l' → rs.Perm ((live t bs).map bi) → rs.Pairwise (fun a b => a.2.2.2.2.1 ≤ b.2.2.2.2.1) → K rs l' t m') :
    nat_Nat_All_wp h lo hi mp fi li mo l now t m K := by
  unfold nat_Nat_All_wp
  refine on_wp hr (by omega) (fun hc => cond_t rfl (h1 hc)) (fun hc l' hr' hsub => cond_f rfl ?_)
  have h2 := h2 hc
  have hfl : (live t bs).length ≤ bs.length := List.length_filter_le _ _
  have hlen := hr'.all.length
  refine ⟨fun out m2 => out = (live t bs).map bi ∧ Rep m2 l' (live t bs) ∧ Fr m m2 l l', ?_, fun n out i m2 => 0 ≤ i ∧ i ≤ l'.length ∧ n = l'.length - i.toNat ∧ out = ((live t bs).take i.toNat).map bi ∧ Rep m2 l' (live t bs) ∧ Fr m m2 l l', ⟨_, by omega, by omega, rfl, rfl, hr', Fr.sub hsub⟩, ?_⟩
  · rintro out m2 ⟨rfl, hr2, hf2⟩
    unfold slices_SortFunc_sl_api_Binding_api_Binding_wp
    refine ⟨fun _ => True, fun a b => cmpI a.2.2.2.2.1 b.2.2.2.2.1, fun _ _ => trivial, fun x y _ _ K' hK' => ?_, fun x _ => ?_, fun x y z _ _ _ => ?_, fun x y z _ _ _ => ?_, by simp; omega, fun zs hp hs => h2 l' m2 zs hr2 hf2 hp (hs.imp fun {a b} hab => ?_)⟩
    · unfold nat_Nat_All_c1_wp
      exact compare_wp hK'
    all_goals simp only [cmpI_lt] at *
    all_goals omega
  · rintro n out i m2 ⟨i0, i1, rfl, rfl, hr2, hf2⟩
    refine cond_d (fun hlt => ⟨i0, hlt, fun p hp => ?_⟩) (fun hge => ⟨?_, hr2, hf2⟩)
    · obtain ⟨x, hx, b, rfl, hbx⟩ := hr2.all.get _ _ hp
      refine ⟨b, rfl, x, hbx, ?_, _, ?_, ?_, ?_, rfl, ?_, ?_⟩
      · simp; omega
      all_goals try rw [wrap_i64 (by omega) (by omega)]
      · omega
      · omega
      · omega
      · rw [show (i + 1).toNat = i.toNat + 1 by omega, List.take_add_one, hx]
        simp [bi]
      · obtain ⟨q1, q2⟩ := hr2.set hp x
        have hset : (live t bs).set i.toNat x = live t bs := by
          have hi := (List.getElem?_eq_some_iff.1 hx).1
          rw [List.getElem?_eq_getElem hi] at hx
          cases hx
          exact List.set_getElem_self hi
        rw [hset] at q1
        exact ⟨q1, hf2.trans q2⟩
    · rw [show i.toNat = (live t bs).length by omega, List.take_length]

end Go.Proofs.Ythhbnjcebmhilaa
