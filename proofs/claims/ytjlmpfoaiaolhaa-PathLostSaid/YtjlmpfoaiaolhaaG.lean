/- The plain side: PathPlays. -/
import Derived.Test.YtjlmpfoaiaolhaaF
namespace Go.Proofs.Ytjlmpfoaiaolhaa
open Go Go.Eng

/-- How a walker stands. -/
def Fit (W : List Pl) (at_ s : Int) : Prop := 0 ≤ at_ ∧ at_ ≤ W.length ∧ (s = 1 → at_ < W.length)

theorem try_both {W : List Pl} {now i : Int} {K K2 : KW} (h0 : 0 ≤ i) (h1 : i ≤ W.length)
    (h : ∀ a0 a1 a2 av ok at_ s b0 b1 b2 bv nx, Fit W at_ s → (tryK W now i (fun a0' a1' a2' av' ok' at_' s' b0' b1' b2' bv' nx' =>
      (a0 = a0' ∧ a1 = a1' ∧ a2 = a2' ∧ av = av' ∧ ok = ok' ∧ at_ = at_' ∧ s = s' ∧ b0 = b0' ∧ b1 = b1' ∧ b2 = b2' ∧ bv = bv' ∧ nx = nx'))) → K a0 a1 a2 av ok at_ s b0 b1 b2 bv nx) : tryK W now i K := by
  refine ⟨fun hg => h _ _ _ _ _ _ _ _ _ _ _ _ ⟨h0, h1, fun q => by cases q⟩ ⟨fun _ => ⟨rfl, rfl, rfl, rfl, rfl, rfl, rfl, rfl, rfl, rfl, rfl, rfl⟩, fun x hlt _ => absurd hlt (by omega)⟩,
    fun x hlt hx => h _ _ _ _ _ _ _ _ _ _ _ _ ⟨h0, h1, fun _ => hlt⟩ ⟨fun hg => absurd hg (by omega), fun y _ hy => ?_⟩⟩
  rw [hx] at hy
  cases hy
  exact ⟨rfl, rfl, rfl, rfl, rfl, rfl, rfl, rfl, rfl, rfl, rfl, rfl⟩

theorem tryK_mono {W : List Pl} {now i : Int} {K K2 : KW} (h : tryK W now i K) (hk : ∀ a0 a1 a2 av ok at_ s b0 b1 b2 bv nx, K a0 a1 a2 av ok at_ s b0 b1 b2 bv nx → K2 a0 a1 a2 av ok at_ s b0 b1 b2 bv nx) : tryK W now i K2 :=
  ⟨fun hg => hk _ _ _ _ _ _ _ _ _ _ _ _ (h.1 hg), fun x hlt hx => hk _ _ _ _ _ _ _ _ _ _ _ _ (h.2 x hlt hx)⟩

section
variable {W : List Pl} {at_ s b0 b1 b2 nx now : Int} {bv : Bool} {K : Int → Int → Int → Bool → Bool → Int → Int → Int → Int → Int → Bool → Int → Int → Int → Int → Bool → Bool → Int → Int → Int → Int → Int → Bool → Int → Prop}

theorem start_both (hf : Fit W at_ s) (hK : ∀ a0 a1 a2 av ok at_ s b0 b1 b2 bv nx, Fit W at_ s → K a0 a1 a2 av ok at_ s b0 b1 b2 bv nx a0 a1 a2 av ok at_ s b0 b1 b2 bv nx) :
    path_Walker_Start_wp W at_ s b0 b1 b2 bv nx now (fun a0 a1 a2 av ok at1 s1 c0 c1 c2 cv nx1 => embrasureref29_Walker_Start_wp W at_ s b0 b1 b2 bv nx now (K a0 a1 a2 av ok at1 s1 c0 c1 c2 cv nx1)) := by
  refine start_wp ⟨fun c => try_both (K2 := fun _ _ _ _ _ _ _ _ _ _ _ _ => True) (by omega) (by omega) fun a0 a1 a2 av ok at1 s1 c0 c1 c2 cv nx1 hfit ht => rstart_wp ⟨fun _ => tryK_mono ht ?_, fun q => absurd c q⟩, fun c => rstart_wp ⟨fun q => absurd q c, fun _ => hK _ _ _ _ _ _ _ _ _ _ _ _ hf⟩⟩
  rintro _ _ _ _ _ _ _ _ _ _ _ _ ⟨rfl, rfl, rfl, rfl, rfl, rfl, rfl, rfl, rfl, rfl, rfl, rfl⟩
  exact hK _ _ _ _ _ _ _ _ _ _ _ _ hfit

theorem lost_both (hf : Fit W at_ s) (hK : ∀ a0 a1 a2 av ok at_ s b0 b1 b2 bv nx, Fit W at_ s → K a0 a1 a2 av ok at_ s b0 b1 b2 bv nx a0 a1 a2 av ok at_ s b0 b1 b2 bv nx) :
    path_Walker_Lost_wp W at_ s b0 b1 b2 bv nx now (fun a0 a1 a2 av ok at1 s1 c0 c1 c2 cv nx1 => embrasureref29_Walker_Lost_wp W at_ s b0 b1 b2 bv nx now (K a0 a1 a2 av ok at1 s1 c0 c1 c2 cv nx1)) := by
  refine lost_wp ⟨fun c => try_both (K2 := fun _ _ _ _ _ _ _ _ _ _ _ _ => True) (by omega) (by omega) fun a0 a1 a2 av ok at1 s1 c0 c1 c2 cv nx1 hfit ht => rlost_wp ⟨fun _ => tryK_mono ht ?_, fun q => absurd c q⟩, fun c => rlost_wp ⟨fun q => absurd q c, fun _ => hK _ _ _ _ _ _ _ _ _ _ _ _ hf⟩⟩
  rintro _ _ _ _ _ _ _ _ _ _ _ _ ⟨rfl, rfl, rfl, rfl, rfl, rfl, rfl, rfl, rfl, rfl, rfl, rfl⟩
  exact hK _ _ _ _ _ _ _ _ _ _ _ _ hfit

theorem tick_both (h8 : W.length ≤ 8) (hf : Fit W at_ s) (hK : ∀ a0 a1 a2 av ok at_ s b0 b1 b2 bv nx, Fit W at_ s → K a0 a1 a2 av ok at_ s b0 b1 b2 bv nx a0 a1 a2 av ok at_ s b0 b1 b2 bv nx) :
    path_Walker_Tick_wp W at_ s b0 b1 b2 bv nx now (fun a0 a1 a2 av ok at1 s1 c0 c1 c2 cv nx1 => embrasureref29_Walker_Tick_wp W at_ s b0 b1 b2 bv nx now (K a0 a1 a2 av ok at1 s1 c0 c1 c2 cv nx1)) := by
  obtain ⟨f0, f1, f2⟩ := hf
  refine tick_wp f0 (by omega) ⟨fun c => try_both (K2 := fun _ _ _ _ _ _ _ _ _ _ _ _ => True) (by omega) (by have := f2 c.2.1; omega) fun a0 a1 a2 av ok at1 s1 c0 c1 c2 cv nx1 hfit ht => rtick_wp f0 (by omega) ⟨fun _ => tryK_mono ht ?_, fun q => absurd c q⟩, fun c => rtick_wp f0 (by omega) ⟨fun q => absurd q c, fun _ => hK _ _ _ _ _ _ _ _ _ _ _ _ ⟨f0, f1, f2⟩⟩⟩
  rintro _ _ _ _ _ _ _ _ _ _ _ _ ⟨rfl, rfl, rfl, rfl, rfl, rfl, rfl, rfl, rfl, rfl, rfl, rfl⟩
  exact hK _ _ _ _ _ _ _ _ _ _ _ _ hfit

end

theorem pathPlays_plain {own : Int} {places : List Pl} {script : List (Int × Int × Int × Int)} (ho : inK .u32 own) (hp : ∀ x ∈ places, inK .u32 x.1 ∧ inK .i64 x.2.1 ∧ inK .i64 x.2.2.1 ∧ True) (hl : places.length ≤ 9223372036854775807)
    (hs : ∀ x ∈ script, inK .i64 x.1 ∧ inK .i64 x.2.1 ∧ inK .u32 x.2.2.1 ∧ inK .i64 x.2.2.2) (hl2 : script.length ≤ 9223372036854775807) :
    embrasurelaw29_PathPlays_wp own places script (· = true) := by
  have ho := u32b ho
  have hu : ∀ x ∈ places, uP x := fun x hx => u32b (hp x hx).1
  unfold embrasurelaw29_PathPlays_wp
  refine awake_wp (cond_f rfl (cond_d (fun _ => rfl) (fun hlen => ⟨by simp; omega, ?_⟩)))
  rw [List.nil_append]
  refine ways_wp (by omega) (new_wp (by omega) (rways_wp hu ho (by omega) ⟨fun t => t = false, ?_, ?_⟩))
  · rintro t rfl
    have h8 := ways_le own places
    generalize ways own places = W at h8 ⊢
    refine cond_f rfl ⟨fun n a1 s1 x0 x1 x2 xv nx a2 s2 y0 y1 y2 yv ny now i => a1 = a2 ∧ s1 = s2 ∧ x0 = y0 ∧ x1 = y1 ∧ x2 = y2 ∧ xv = yv ∧ nx = ny ∧ Fit W a1 s1 ∧ 0 ≤ i ∧ i ≤ 60 ∧ -1000 * i ≤ now ∧ now ≤ 8796093022208 ∧ n = 60 - i.toNat,
      ⟨_, rfl, rfl, rfl, rfl, rfl, rfl, rfl, ⟨by omega, by omega, fun q => by cases q⟩, by omega, by omega, by omega, by omega, rfl⟩, ?_⟩
    rintro n a1 s1 x0 x1 x2 xv nx a2 s2 y0 y1 y2 yv ny now i ⟨rfl, rfl, rfl, rfl, rfl, rfl, rfl, hf, i0, i1, n0, n1, rfl⟩
    refine ⟨fun t => (t = true → i < script.length ∧ i < 60), ?_, cond_d (fun h1 h => ⟨h1, by simpa using h⟩) (fun h1 h => by cases h)⟩
    intro t ht
    refine cond_b (fun hb => ?_) (fun _ => rfl)
    obtain ⟨hi, hi60⟩ := ht hb
    refine ⟨i0, hi, fun x hx => ?_⟩
    have hxs := hs x (List.mem_of_getElem? hx)
    have hx1 := u32b hxs.2.2.1
    refine ⟨fun now' => -1000 * (i + 1) ≤ now' ∧ now' ≤ 8796093022208, ?_, ?_⟩
    · rintro now' ⟨n0', n1'⟩
      refine ⟨fun c0 c1 c2 cv d0 d1 d2 dv a1 s1 x0 x1 x2 xv nx a2 s2 y0 y1 y2 yv ny p q => c0 = d0 ∧ c1 = d1 ∧ c2 = d2 ∧ cv = dv ∧ a1 = a2 ∧ s1 = s2 ∧ x0 = y0 ∧ x1 = y1 ∧ x2 = y2 ∧ xv = yv ∧ nx = ny ∧ p = q ∧ Fit W a1 s1, ?_, ?_⟩
      · rintro c0 c1 c2 cv d0 d1 d2 dv a1 s1 x0 x1 x2 xv nx a2 s2 y0 y1 y2 yv ny p q ⟨rfl, rfl, rfl, rfl, rfl, rfl, rfl, rfl, rfl, rfl, rfl, rfl, hf⟩
        refine ⟨fun t => t = false, ?_, ?_⟩
        · rintro t rfl
          refine cond_f rfl ⟨59 - i.toNat, by omega, rfl, rfl, rfl, rfl, rfl, rfl, rfl, hf, ?_⟩
          rw [wrap_i64 (by omega) (by omega)]
          refine ⟨by omega, by omega, by omega, by omega, by omega⟩
        · refine cond_f (by simp) (cond_f (by simp) ?_)
          unfold path_Walker_State_wp
          simp
      · refine cond_e (fun _ => ?_) (fun _ => cond_e (fun _ => ?_) (fun _ => cond_e (fun _ => ?_) (fun _ => cond_e (fun _ => ?_) (fun _ => ?_))))
        · exact start_both hf fun _ _ _ _ _ _ _ _ _ _ _ _ hf => ⟨rfl, rfl, rfl, rfl, rfl, rfl, rfl, rfl, rfl, rfl, rfl, rfl, hf⟩
        · exact tick_both h8 hf fun _ _ _ _ _ _ _ _ _ _ _ _ hf => ⟨rfl, rfl, rfl, rfl, rfl, rfl, rfl, rfl, rfl, rfl, rfl, rfl, hf⟩
        · have hf2 : Fit W a1 (if xv then 3 else 2) := ⟨hf.1, hf.2.1, fun q => by cases xv <;> simp at q⟩
          exact open_wp (fun c => ropen_wp (fun _ => ⟨rfl, rfl, rfl, rfl, rfl, rfl, rfl, rfl, rfl, rfl, rfl, rfl, hf2⟩) (fun q => absurd c q)) (fun c => ropen_wp (fun q => absurd q c) (fun _ => ⟨rfl, rfl, rfl, rfl, rfl, rfl, rfl, rfl, rfl, rfl, rfl, rfl, hf⟩))
        · have hf2 : Fit W a1 2 := ⟨hf.1, hf.2.1, fun q => by cases q⟩
          exact punched_wp hx1.1 (fun c => rpunched_wp hx1.1 (fun _ => ⟨rfl, rfl, rfl, rfl, rfl, rfl, rfl, rfl, rfl, rfl, rfl, rfl, hf2⟩) (fun q => absurd c q)) (fun c => rpunched_wp hx1.1 (fun q => absurd q c) (fun _ => ⟨rfl, rfl, rfl, rfl, rfl, rfl, rfl, rfl, rfl, rfl, rfl, rfl, hf⟩))
        · exact lost_both hf fun _ _ _ _ _ _ _ _ _ _ _ _ hf => ⟨rfl, rfl, rfl, rfl, rfl, rfl, rfl, rfl, rfl, rfl, rfl, rfl, hf⟩
    · refine ⟨fun t => t = true → -1000 < x.2.1 ∧ x.2.1 < 2199023255552 ∧ now < 4398046511104, ?_, ?_⟩
      · intro t ht
        refine cond_b (fun hb => ?_) (fun _ => ⟨by omega, n1⟩)
        obtain ⟨w0, w1, w2⟩ := ht hb
        rw [wrap_i64 (by omega) (by omega)]
        exact ⟨by omega, by omega⟩
      · refine cond_d (fun w0 => cond_d (fun w1 h => ⟨w0, w1, by simpa using h⟩) (fun _ h => by cases h)) (fun _ h => by cases h)
  · refine cond_f rfl (places_wp (by have := ways_le own places; omega) (cond_f (by simp) (places_wp (by omega) ?_)))
    simp

end Go.Proofs.Ytjlmpfoaiaolhaa
