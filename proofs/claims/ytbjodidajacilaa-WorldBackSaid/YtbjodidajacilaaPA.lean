/- The plain side: what is told of all. -/
import Derived.Test.YtbjodidajacilaaP
import Derived.Test.YtbjodidajacilaaEngZ
namespace Go.Proofs.Ytbjodidajacilaa
open Go Go.Eng

/-! ### All -/

abbrev BI := Int × Int × Int × Int × Int × Int × Bool
def bi (x : BX) : BI := (x.1, x.2.1, x.2.2.1, x.2.2.2.1, x.2.2.2.2.1, x.2.2.2.2.2.1, x.2.2.2.2.2.2.1)

def cmpI (x y : Int) : Int := if x < y then -1 else if x > y then 1 else 0

theorem cmpI_lt (x y : Int) : cmpI x y < 0 ↔ x < y := by
  unfold cmpI
  split
  · omega
  · split <;> omega

theorem compare_wp {x y : Int} {K : Int → Prop} (hK : K (cmpI x y)) : cmp_Compare_int_wp x y K := by
  unfold cmp_Compare_int_wp cmp_isNaN_int_wp
  unfold cmpI at hK
  refine cond_f (by simp) (cond_f (by simp) (cond_d (fun a => ?_) (fun a => cond_d (fun b => ?_) (fun b => ?_))))
  · rw [if_pos a] at hK; exact hK
  · rw [if_neg a, if_pos b] at hK; exact hK
  · rw [if_neg a, if_neg b] at hK; exact hK

theorem all_wp {h lo hi mp fi li mo now t : Int} {l : List (Option Nat)} {m : SB} {bs : List BX} {K : List BI → List (Option Nat) → Int → SB → Prop} (hr : Rep m l bs) (hb : bs.length ≤ 100000)
    (h1 : ¬ (now ≤ t ∧ t ≤ 1099511627776) → K [] l now m)
    (h2 : now ≤ t ∧ t ≤ 1099511627776 → ∀ l' m' rs, Rep m' l' (live t bs) → Fr m m' l l' → rs.Perm ((live t bs).map bi) → rs.Pairwise (fun a b => a.2.2.2.2.1 ≤ b.2.2.2.2.1) → K rs l' t m') :
    nat_Nat_All_wp h lo hi mp fi li mo l now t m K := by
  unfold nat_Nat_All_wp
  refine on_wp hr (by omega) (fun hc => cond_t rfl (h1 hc)) (fun hc l' hr' hsub => cond_f rfl ?_)
  have h2 := h2 hc
  have hfl : (live t bs).length ≤ bs.length := List.length_filter_le _ _
  have hlen := hr'.all.length
  refine ⟨fun out m2 => out = (live t bs).map bi ∧ Rep m2 l' (live t bs) ∧ Fr m m2 l l', ?_, fun n out i m2 => 0 ≤ i ∧ i ≤ l'.length ∧ n = l'.length - i.toNat ∧ out = ((live t bs).take i.toNat).map bi ∧ Rep m2 l' (live t bs) ∧ Fr m m2 l l', ⟨_, by omega, by omega, rfl, rfl, hr', Fr.sub hsub⟩, ?_⟩
  · rintro out m2 ⟨rfl, hr2, hf2⟩
    unfold slices_SortFunc_sl_api_Binding_api_Binding_wp
    refine ⟨fun _ => True, fun a b => cmpI a.2.2.2.2.1 b.2.2.2.2.1, fun _ _ => trivial, fun x y _ _ K' hK' => ?_, fun x _ => ?_, fun x y z _ _ _ => ?_, fun x y z _ _ _ => ?_, by simp; omega, fun zs hp hs => h2 l' m2 zs hr2 hf2 hp (hs.imp fun {a b} hab => ?_)⟩
    · unfold nat_Nat_All_c1_wp
      exact compare_wp hK'
    all_goals simp only [cmpI_lt] at *
    all_goals omega
  · rintro n out i m2 ⟨i0, i1, rfl, rfl, hr2, hf2⟩
    refine cond_d (fun hlt => ⟨i0, hlt, fun p hp => ?_⟩) (fun hge => ⟨?_, hr2, hf2⟩)
    · obtain ⟨x, hx, b, rfl, hbx⟩ := hr2.all.get _ _ hp
      refine ⟨b, rfl, x, hbx, ?_, _, ?_, ?_, ?_, rfl, ?_, ?_⟩
      · simp; omega
      all_goals try rw [wrap_i64 (by omega) (by omega)]
      · omega
      · omega
      · omega
      · rw [show (i + 1).toNat = i.toNat + 1 by omega, List.take_add_one, hx]
        simp [bi]
      · obtain ⟨q1, q2⟩ := hr2.set hp x
        have hset : (live t bs).set i.toNat x = live t bs := by
          have hi := (List.getElem?_eq_some_iff.1 hx).1
          rw [List.getElem?_eq_getElem hi] at hx
          cases hx
          exact List.set_getElem_self hi
        rw [hset] at q1
        exact ⟨q1, hf2.trans q2⟩
    · rw [show i.toNat = (live t bs).length by omega, List.take_length]

end Go.Proofs.Ytbjodidajacilaa
