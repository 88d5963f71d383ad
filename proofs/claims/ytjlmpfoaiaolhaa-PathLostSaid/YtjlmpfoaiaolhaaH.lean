/- The plain side: PathLost. -/
import Derived.Test.YtjlmpfoaiaolhaaG
namespace Go.Proofs.Ytjlmpfoaiaolhaa
open Go Go.Eng

theorem pathLost_plain {own h p : Int} {places : List Pl} (ho : inK .u32 own) (hp : ∀ x ∈ places, inK .u32 x.1 ∧ inK .i64 x.2.1 ∧ inK .i64 x.2.2.1 ∧ True) (hl : places.length ≤ 9223372036854775807)
    (hh : inK .u32 h) (hpp : inK .i64 p) : embrasurelaw29_PathLost_wp own places h p (· = true) := by
  have ho := u32b ho
  have hh := u32b hh
  unfold embrasurelaw29_PathLost_wp
  refine awake_wp (cond_f rfl (cond_d (fun _ => rfl) (fun hlen => ways_wp (by omega) (new_wp (by omega) ⟨fun t => t = false → (ways own places).length ≠ 0, ?_, cond_f rfl fun h0 => by simpa using h0⟩))))
  intro t ht
  refine cond_b (fun _ => rfl) (fun hb => ?_)
  have h8 := ways_le own places
  have hne := ht hb
  generalize ways own places = W at h8 hne ⊢
  obtain ⟨y0, hy0⟩ : ∃ y, W[0]? = some y := ⟨_, List.getElem?_eq_getElem (by omega)⟩
  obtain ⟨z, hz⟩ : ∃ z, W[W.length - 1]? = some z := ⟨_, List.getElem?_eq_getElem (by omega)⟩
  refine start_wp ⟨fun _ => ⟨fun h => absurd h (by omega), fun x hlt hx => ?_⟩, fun c => absurd ⟨⟨by omega, by omega⟩, .inl rfl⟩ c⟩
  refine ⟨fun a s b0 b1 b2 bv nx => a = W.length - 1 ∧ s = 1 ∧ b0 = z.1 ∧ b1 = z.2.1 ∧ b2 = z.2.2.1 ∧ bv = z.2.2.2, ?_, ?_⟩
  · rintro a s b0 b1 b2 bv nx ⟨rfl, rfl, rfl, rfl, rfl, rfl⟩
    refine open_wp (fun _ => ?_) (fun c => absurd ⟨⟨by omega, by omega⟩, rfl⟩ c)
    refine cond_f rfl ?_
    unfold path_Walker_State_wp
    rw [wrap_i64 (by omega) (by omega)]
    refine ⟨by omega, by omega, fun x1 hx1 => ?_⟩
    rw [show ((W.length : Int) - 1).toNat = W.length - 1 by omega, hz] at hx1
    cases hx1
    refine ⟨fun t => t = false, ?_, ?_⟩
    · rintro t rfl
      refine cond_f rfl ?_
      have lost : ∀ {s b0 b1 b2 : Int} {bv : Bool} {nx : Int} {K : Int → Int → Int → Bool → Bool → Int → Int → Int → Int → Int → Bool → Int → Prop}, (s = 2 ∨ s = 3) → K y0.1 y0.2.1 y0.2.2.1 y0.2.2.2 true 0 1 y0.1 y0.2.1 y0.2.2.1 y0.2.2.2 1012 → path_Walker_Lost_wp W (W.length - 1) s b0 b1 b2 bv nx 1002 K := by
        intro s b0 b1 b2 bv nx K hs hK
        refine lost_wp ⟨fun _ => ⟨fun q => absurd q (by omega), fun y _ hy => ?_⟩, fun c => absurd ⟨⟨by omega, by omega⟩, hs⟩ c⟩
        rw [show (0 : Int).toNat = 0 from rfl, hy0] at hy
        cases hy
        exact hK
      have fin : ∀ {F : Prop}, cond true (0 ≤ (0 : Int) ∧ (0 : Int) < ((W.length : Nat) : Int) ∧ (∀ (x_3 : Int × Int × Int × Bool), W[Int.toNat 0]? = some x_3 → (cond ((((y0.1 : Int) == x_3.1) && (((y0.2.1 : Int) == x_3.2.1) && true)) && (((y0.2.2.1 : Int) == x_3.2.2.1) && ((y0.2.2.2 == x_3.2.2.2) && true))) (cond ((1 : Int) == 1) (((1012 : Int) == 1012) = true) (false = true)) (false = true)))) F := by
        intro F
        refine ⟨by omega, by omega, fun y hy => ?_⟩
        rw [show (0 : Int).toNat = 0 from rfl, hy0] at hy
        cases hy
        exact cond_t (by simp) (cond_t rfl rfl)
      refine punched_wp hh.1 (fun c => ?_) (fun c => ?_)
      · obtain ⟨-, c1, c2⟩ := c
        have hv : z.2.2.2 = true := by cases hz : z.2.2.2 <;> rw [hz] at c1 <;> simp at c1 ⊢
        refine joinP0.i ⟨fun t => t = false, ?_, ?_⟩
        · rintro t rfl
          exact cond_f rfl (lost (.inl rfl) fin)
        · obtain ⟨c3, c4, c5⟩ := c2
          refine cond_t hv (cond_t (by simpa using c3) (cond_t (by simpa using c4) (cond_f (by simp [c5]) (cond_t rfl (cond_f rfl ?_)))))
          simp
      · have c : ¬ (z.2.2.2 = true ∧ mayP h p) := fun q => c ⟨⟨by omega, by omega⟩, by rw [q.1]; rfl, q.2⟩
        refine joinP0.i ⟨fun t => t = false, ?_, ?_⟩
        · rintro t rfl
          exact cond_f rfl (lost (by cases z.2.2.2 <;> simp) fin)
        · refine cond_b (fun hv => cond_n (fun h1 => cond_d (fun h2 => ?_) (fun h2 => ?_)) (fun h1 => ?_)) (fun hv => ?_)
          · refine cond_f ?_ (cond_f rfl rfl)
            have : ¬ p ≤ 65535 := fun h3 => c ⟨hv, h1, h2, h3⟩
            simp; omega
          all_goals exact cond_f rfl (cond_f rfl rfl)
    · refine cond_f (by simp) (cond_f (by cases z.2.2.2 <;> simp) ?_)
      simp
  · rw [show (0 : Int).toNat = 0 from rfl, hy0] at hx
    cases hx
    refine ⟨fun n a s b0 b1 b2 bv nx i => 1 ≤ i ∧ i ≤ W.length ∧ n = W.length - i.toNat ∧ a = i - 1 ∧ s = 1 ∧ nx = 10 * i ∧ ∀ x : Pl, W[(i - 1).toNat]? = some x → b0 = x.1 ∧ b1 = x.2.1 ∧ b2 = x.2.2.1 ∧ bv = x.2.2.2,
      ⟨_, by omega, by omega, rfl, rfl, rfl, rfl, fun x hx => ?_⟩, ?_⟩
    · rw [show ((1 : Int) - 1).toNat = 0 from rfl, hy0] at hx
      cases hx
      exact ⟨rfl, rfl, rfl, rfl⟩
    · rintro n a s b0 b1 b2 bv nx i ⟨i0, i1, rfl, rfl, rfl, rfl, hb⟩
      refine cond_d (fun hlt => ?_) (fun hge => ?_)
      · rw [wrap_i64 (x := 10 * i) (by omega) (by omega), wrap_i64 (x := i + 1) (by omega) (by omega)]
        refine tick_wp (by omega) (by omega) ⟨fun _ => ?_, fun c => absurd ⟨⟨by omega, by omega⟩, rfl, by omega⟩ c⟩
        rw [show i - 1 + 1 = i by omega]
        refine ⟨fun q => absurd q (by omega), fun x _ hx => ⟨_, ?_, by omega, by omega, rfl, by omega, rfl, by omega, fun y hy => ?_⟩⟩
        · omega
        · rw [show i + 1 - 1 = i by omega, hx] at hy
          cases hy
          exact ⟨rfl, rfl, rfl, rfl⟩
      · have e : i = W.length := by omega
        subst e
        have := hb z (by rw [← hz]; congr 1; omega)
        exact ⟨by omega, rfl, this.1, this.2.1, this.2.2.1, this.2.2.2⟩

end Go.Proofs.Ytjlmpfoaiaolhaa
