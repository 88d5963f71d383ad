/- The plain side: PathOrder. -/
import Derived.Test.YtjlmpfoaiaolhaaE
namespace Go.Proofs.Ytjlmpfoaiaolhaa
open Go Go.Eng

theorem fk2_via {own : Int} {l : List Pl} {x : Pl} (h : x ∈ fk own l 2) : x.2.2.2 = true := by
  have := fk_mem h
  simp [kindB] at this
  exact this.2
theorem fk01_via {own : Int} {l : List Pl} {x : Pl} (h : x ∈ fk own l 0 ++ fk own l 1) : x.2.2.2 = false := by
  rcases List.mem_append.1 h with h | h
  · have := fk_mem h; simp [kindB] at this; exact this.2.1
  · have := fk_mem h; simp [kindB] at this; exact this.2.1

/-- No way by a relay is ahead of one that isn't. -/
theorem via_mono {own : Int} {l : List Pl} {i j : Nat} {x y : Pl} (hij : i ≤ j) (hx : (ways own l)[i]? = some x) (hy : (ways own l)[j]? = some y) (hv : x.2.2.2 = true) : y.2.2.2 = true := by
  rw [ways_fk] at hx hy
  rw [List.getElem?_take] at hx hy
  split at hx
  · split at hy
    · by_cases hi : i < (fk own l 0 ++ fk own l 1).length
      · rw [List.getElem?_append_left hi] at hx
        have := fk01_via (List.mem_of_getElem? hx)
        rw [hv] at this; cases this
      · rw [List.getElem?_append_right (by omega)] at hy
        exact fk2_via (List.mem_of_getElem? hy)
    · cases hy
  · cases hx

theorem ways_nodup (own : Int) (l : List Pl) : (ways own l).Nodup := by
  rw [ways_fk]
  exact (all_nodup own l).sublist (List.take_sublist _ _)

theorem pathOrder_plain {own : Int} {places : List Pl} (ho : inK .u32 own) (hp : ∀ x ∈ places, inK .u32 x.1 ∧ inK .i64 x.2.1 ∧ inK .i64 x.2.2.1 ∧ True) (hl : places.length ≤ 9223372036854775807) :
    embrasurelaw29_PathOrder_wp own places (· = true) := by
  have ho := u32b ho
  have hu : ∀ x ∈ places, uP x := fun x hx => u32b (hp x hx).1
  unfold embrasurelaw29_PathOrder_wp
  refine awake_wp (cond_f rfl (cond_d (fun _ => rfl) (fun hlen => new_wp (by omega) (rways_wp hu ho (by omega) ?_))))
  have h8 := ways_le own places
  have hnd := ways_nodup own places
  have hmono := fun i j x y => @via_mono own places i j x y
  generalize ways own places = W at h8 hnd hmono ⊢
  -- how it stands ahead of the step i
  let St : Int → Int → Int → Int → Bool → Int → Int → Int → Int → Int → Bool → Int → Bool → Prop := fun i a0 a1 a2 av at_ s b0 b1 b2 bv nx ok =>
    (∀ x : Pl, W[i.toNat]? = some x → i < W.length → ok = true ∧ a0 = x.1 ∧ a1 = x.2.1 ∧ a2 = x.2.2.1 ∧ av = x.2.2.2 ∧ at_ = i ∧ s = 1 ∧ nx = 10 * i + 10) ∧
    (i ≥ W.length → ok = false ∧ s = 4 ∧ b0 = 0 ∧ b1 = 0 ∧ b2 = 0 ∧ bv = false ∧ nx = 0)
  have tryOk : ∀ (i now : Int) (K : KW), 0 ≤ i → now = 10 * i → (∀ a0 a1 a2 av ok at_ s b0 b1 b2 bv nx, St i a0 a1 a2 av at_ s b0 b1 b2 bv nx ok → K a0 a1 a2 av ok at_ s b0 b1 b2 bv nx) → tryK W now i K := by
    intro i now K hi hnow hK
    refine ⟨fun h => hK _ _ _ _ _ _ _ _ _ _ _ _ ⟨fun x _ hlt => absurd hlt (by omega), fun _ => ⟨rfl, rfl, rfl, rfl, rfl, rfl, rfl⟩⟩, fun x hlt hx => hK _ _ _ _ _ _ _ _ _ _ _ _ ⟨fun y hy _ => ?_, fun h => absurd h (by omega)⟩⟩
    rw [hx] at hy
    cases hy
    exact ⟨rfl, rfl, rfl, rfl, rfl, rfl, rfl, by omega⟩
  refine start_wp ⟨fun _ => tryOk 0 0 _ (by omega) (by omega) ?_, fun h => absurd ⟨⟨by omega, by omega⟩, .inl rfl⟩ h⟩
  intro a0 a1 a2 av ok at_ s b0 b1 b2 bv nx hs
  refine ⟨fun a0 a1 a2 av at_ s b0 b1 b2 bv nx ok => St W.length a0 a1 a2 av at_ s b0 b1 b2 bv nx ok, ?_, ?_⟩
  · intro a0 a1 a2 av at_ s b0 b1 b2 bv nx ok hs
    obtain ⟨rfl, rfl, rfl, rfl, rfl, rfl, rfl⟩ := hs.2 (by omega)
    refine cond_t (F := (false = true)) rfl (cond_t (F := (false = true)) rfl ?_)
    simp; omega
  · refine ⟨fun n a0 a1 a2 av at_ s b0 b1 b2 bv nx ok via i => 0 ≤ i ∧ i ≤ W.length ∧ n = W.length - i.toNat ∧ St i a0 a1 a2 av at_ s b0 b1 b2 bv nx ok ∧ (via = true → ∀ x : Pl, W[i.toNat]? = some x → x.2.2.2 = true), ⟨_, by omega, by omega, rfl, hs, fun h => by cases h⟩, ?_⟩
    rintro n a0 a1 a2 av at_ s b0 b1 b2 bv nx ok via i ⟨i0, i1, rfl, hs, hvia⟩
    refine cond_d (fun hlt => ?_) (fun hge => ?_)
    · have hi : i.toNat < W.length := by omega
      obtain ⟨x, hx⟩ : ∃ x, W[i.toNat]? = some x := ⟨_, List.getElem?_eq_getElem hi⟩
      obtain ⟨rfl, rfl, rfl, rfl, rfl, rfl, rfl, rfl⟩ := hs.1 x hx hlt
      rw [wrap_i64 (x := 10 * at_) (by omega) (by omega), wrap_i64 (x := 10 * at_ + 9) (by omega) (by omega), wrap_i64 (x := 10 * at_ + 10) (by omega) (by omega)]
      refine joinP0.i ⟨fun t => t = false, ?_, ?_⟩
      · rintro t rfl
        refine cond_f rfl (joinP0.i ?_)
        refine ⟨fun n k => 0 ≤ k ∧ k ≤ at_ ∧ n = (at_ - k).toNat, ⟨_, by omega, by omega, rfl⟩, ?_⟩
        rintro m k ⟨k0, k1, rfl⟩
        refine cond_d (fun hk => ⟨k0, by omega, fun y hy => ?_⟩) (fun hk => ?_)
        · rw [eqpl y x]
          have hne : ¬ y = x := fun e => by
            subst e
            have hk' : k.toNat < W.length := by omega
            rw [List.getElem?_eq_getElem hk'] at hy
            rw [List.getElem?_eq_getElem hi] at hx
            have := (List.getElem_inj hnd).1 ((Option.some.inj hy).trans (Option.some.inj hx).symm)
            omega
          refine cond_f (decide_eq_false hne) ?_
          rw [wrap_i64 (by omega) (by omega)]
          exact ⟨_, by omega, by omega, by omega, rfl⟩
        · refine tick_wp (by omega) (by omega) ⟨fun h => absurd h.2.2 (by omega), fun _ => cond_f rfl ?_⟩
          refine tick_wp (by omega) (by omega) ⟨fun _ => tryOk (at_ + 1) _ _ (by omega) (by omega) ?_, fun h => absurd ⟨⟨by omega, by omega⟩, rfl, by omega⟩ h⟩
          intro a0 a1 a2 av ok at2 s b0 b1 b2 bv nx hs2
          rw [wrap_i64 (x := at_ + 1) (by omega) (by omega)]
          refine ⟨_, ?_, by omega, by omega, rfl, hs2, fun hv y hy => hmono _ _ x y (by omega : at_.toNat ≤ (at_ + 1).toNat) hx hy hv⟩
          omega
      · refine cond_f rfl ⟨i0, hlt, fun y hy => ?_⟩
        rw [hx] at hy
        cases hy
        rw [eqpl x x]
        refine cond_f (by simp) (cond_b (fun a => cond_f (by rw [hvia a x hx]; rfl) rfl) (fun _ => rfl))
    · have e : i = W.length := by omega
      subst e
      exact hs

end Go.Proofs.Ytjlmpfoaiaolhaa
