/- The plain side: the document's ways; places compared. -/
import Derived.Test.YtjlmpfoaiaolhaaM
namespace Go.Proofs.Ytjlmpfoaiaolhaa
open Go Go.Eng

def uP (x : Pl) : Prop := 0 ≤ x.1 ∧ x.1 ≤ 4294967295

theorem rkind_wp {own : Int} {x : Pl} {K : Int → Prop} (hx : uP x) (ho : 0 ≤ own ∧ own ≤ 4294967295) (hK : ∀ r : Int, (∀ k : Nat, k ≤ 2 → (r = (k : Int) + 1 ↔ kindB own k x = true)) → K r) :
    embrasureref29_kind_wp own x.1 x.2.1 x.2.2.1 x.2.2.2 K := by
  unfold embrasureref29_kind_wp
  unfold uP at hx
  have key : ∀ r : Int, (r = 1 ↔ kindB own 0 x = true) → (r = 2 ↔ kindB own 1 x = true) → (r = 3 ↔ kindB own 2 x = true) → K r := by
    intro r h1 h2 h3
    refine hK r fun k hk => ?_
    have : k = 0 ∨ k = 1 ∨ k = 2 := by omega
    rcases this with rfl | rfl | rfl
    · exact h1
    · exact h2
    · exact h3
  refine rplace_wp hx.1 (cond_b (fun a => ?_) (fun a => cond_b (fun b => ?_) (fun b => rinside_wp (cond_b (fun c => ?_) (fun c => ?_)))))
  · have a : decide (plP x) = false := by simpa using a
    refine key 0 ?_ ?_ ?_ <;> simp [kindB, a]
  · have a : decide (plP x) = true := by simpa using a
    refine key 3 ?_ ?_ ?_ <;> simp [kindB, a, b]
  · have a : decide (plP x) = true := by simpa using a
    have c : decide (insideP x.1) = false := by simpa using c
    refine key 1 ?_ ?_ ?_ <;> simp [kindB, a, b, c]
  · have a : decide (plP x) = true := by simpa using a
    have c : decide (insideP x.1) = true := by simpa using c
    rw [tdiv_pos hx.1, tdiv_pos ho.1, wrap_u32 (by omega) (by omega), wrap_u32 (by omega) (by omega)]
    refine cond_e (fun d => ?_) (fun d => ?_)
    · refine key 2 ?_ ?_ ?_ <;> simp [kindB, a, b, c, d]
    · refine key 0 ?_ ?_ ?_ <;> simp [kindB, a, b, c, d]

theorem places_wp {s t : List Pl} {K : Bool → Prop} (hl : s.length ≤ 9223372036854775000) (hK : K (decide (s = t))) : embrasureref21_Places_wp s t K := by
  unfold embrasureref21_Places_wp
  refine cond_n (fun he => ?_) (fun he => ?_)
  · have : ¬ s = t := fun e => he (by rw [e])
    rwa [decide_eq_false this] at hK
  · refine ⟨fun n i => 0 ≤ i ∧ i ≤ s.length ∧ n = s.length - i.toNat ∧ ∀ j, j < i.toNat → s[j]? = t[j]?, ⟨_, by omega, by omega, rfl, by omega⟩, ?_⟩
    rintro n i ⟨h0, h1, rfl, hj⟩
    refine cond_d (fun hlt => ?_) (fun hge => ?_)
    · refine ⟨h0, hlt, fun x hx => ⟨h0, by omega, fun y hy => ?_⟩⟩
      rw [eqpl x y]
      refine cond_b (fun hne => ?_) (fun heq => ?_)
      · have hne : ¬ x = y := by simpa using hne
        have : ¬ s = t := fun e => by
          subst e; rw [hx] at hy; exact hne (Option.some.inj hy)
        rwa [decide_eq_false this] at hK
      · have heq : x = y := by simpa using heq
        subst heq
        refine ⟨_, ?_, ?_, ?_, rfl, ?_⟩
        all_goals rw [wrap_i64 (by omega) (by omega)]
        · omega
        · omega
        · omega
        · intro j hj'
          by_cases e : j = i.toNat
          · subst e; rw [hx, hy]
          · exact hj j (by omega)
    · have : s = t := by
        apply List.ext_getElem?
        intro j
        by_cases h : j < i.toNat
        · exact hj j h
        · rw [List.getElem?_eq_none (by omega), List.getElem?_eq_none (by omega)]
      rwa [decide_eq_true this] at hK

theorem rways_wp {own : Int} {l : List Pl} {K : List Pl → Prop} (hu : ∀ x ∈ l, uP x) (ho : 0 ≤ own ∧ own ≤ 4294967295) (hl : l.length ≤ 9223372036854775000) (hK : K (ways own l)) : embrasureref29_Ways_wp own l K := by
  unfold embrasureref29_Ways_wp
  refine ⟨fun n out k => 1 ≤ k ∧ k ≤ 4 ∧ n = 4 - k.toNat ∧ out = upto own l (k.toNat - 1), ⟨_, by omega, by omega, rfl, rfl⟩, ?_⟩
  rintro n out k ⟨h0, h1, rfl, rfl⟩
  refine cond_d (fun hlt => ?_) (fun hge => ?_)
  · obtain ⟨q, rfl⟩ : ∃ q : Nat, k = (q : Int) + 1 := ⟨k.toNat - 1, by omega⟩
    have ek : ((q : Int) + 1).toNat - 1 = q := by omega
    rw [ek]
    refine ⟨fun n out i => 0 ≤ i ∧ i ≤ l.length ∧ n = l.length - i.toNat ∧ out = ((l.take i.toNat).filter (kindB own q)).foldl step (upto own l q), ⟨_, by omega, by omega, rfl, by simp⟩, ?_⟩
    rintro n out i ⟨i0, i1, rfl, hout⟩
    have hle : out.length ≤ 8 := by rw [hout]; exact fold_le _ (upto_le _ _ _)
    refine cond_d (fun hil => ?_) (fun hil => ?_)
    · have hi : i.toNat < l.length := by omega
      obtain ⟨x, hx⟩ : ∃ x, l[i.toNat]? = some x := ⟨_, List.getElem?_eq_getElem hi⟩
      have hnext : ((l.take (i.toNat + 1)).filter (kindB own q)).foldl step (upto own l q) = if kindB own q x = true then step out x else out := by
        rw [List.take_add_one, hx, Option.toList_some, List.filter_append, List.foldl_append, ← hout]
        by_cases hk : kindB own q x = true
        · rw [if_pos hk, List.filter_cons_of_pos hk]; rfl
        · rw [if_neg hk, List.filter_cons_of_neg hk]; rfl
      refine ⟨fun fr => (fr = true ↔ (kindB own q x = true ∧ out.length < 8)), fun fr0 hfr0 => ⟨fun fr => (fr = true ↔ ((kindB own q x = true ∧ out.length < 8) ∧ x ∉ out)), fun fr hfr => ?_, ?_⟩, ?_⟩
      · rw [wrap_i64 (by omega) (by omega)]
        dsimp only at hfr ⊢
        have ei : (i + 1).toNat = i.toNat + 1 := by omega
        rw [ei, hnext]
        refine cond_b (fun a => ⟨i0, hil, fun y hy => ⟨by simp; omega, ?_⟩⟩) (fun a => ?_)
        · rw [hx] at hy
          cases hy
          have hf := hfr.1 a
          refine ⟨_, ?_, by omega, by omega, rfl, ?_⟩
          · omega
          · rw [if_pos hf.1.1]
            unfold step
            rw [if_neg (by omega), if_neg hf.2]
        · refine ⟨_, ?_, by omega, by omega, rfl, ?_⟩
          · omega
          · by_cases hk : kindB own q x = true
            · rw [if_pos hk]
              unfold step
              by_cases h8 : out.length = 8
              · rw [if_pos h8]
              · rw [if_neg h8]
                by_cases hm : x ∈ out
                · rw [if_pos hm]
                · have := hfr.2 ⟨⟨hk, by omega⟩, hm⟩
                  rw [a] at this; cases this
            · rw [if_neg hk]
      · refine ⟨fun n fr j => 0 ≤ j ∧ j ≤ out.length ∧ n = out.length - j.toNat ∧ (fr = true ↔ ((kindB own q x = true ∧ out.length < 8) ∧ ∀ m, m < j.toNat → out[m]? ≠ some x)), ⟨_, by omega, by omega, rfl, ?_⟩, ?_⟩
        · dsimp only at hfr0
          rw [hfr0]
          exact ⟨fun h => ⟨h, by omega⟩, fun h => h.1⟩
        · rintro n fr j ⟨j0, j1, rfl, hf⟩
          refine cond_d (fun hjl => ?_) (fun hjl => ?_)
          · rw [wrap_i64 (by omega) (by omega)]
            have ej : (j + 1).toNat = j.toNat + 1 := by omega
            refine cond_b (fun a => ⟨j0, hjl, fun y hy => ⟨i0, hil, fun z hz => ?_⟩⟩) (fun a => ?_)
            · rw [hx] at hz
              cases hz
              rw [eqpl y x]
              refine ⟨_, ?_, by omega, by omega, rfl, ?_⟩
              · omega
              · rw [ej]
                have hf' := hf.1 a
                constructor
                · intro h
                  have hyx : ¬ y = x := by simpa using h
                  refine ⟨hf'.1, fun m hm => ?_⟩
                  by_cases e : m = j.toNat
                  · subst e; rw [hy]; exact fun h => hyx (Option.some.inj h)
                  · exact hf'.2 m (by omega)
                · intro h
                  have := h.2 j.toNat (by omega)
                  rw [hy] at this
                  have hyx : ¬ y = x := fun e => this (by rw [e])
                  simpa using hyx
            · refine ⟨_, ?_, by omega, by omega, rfl, ?_⟩
              · omega
              · rw [ej]
                refine ⟨fun h => (by cases h), fun h => ?_⟩
                have := hf.2 ⟨h.1, fun m hm => h.2 m (by omega)⟩
                rw [a] at this; cases this
          · show fr = true ↔ _
            rw [hf]
            refine ⟨fun h => ⟨h.1, fun hm => ?_⟩, fun h => ⟨h.1, fun m hm he => h.2 (List.mem_of_getElem? he)⟩⟩
            obtain ⟨m, hml, he⟩ := List.getElem_of_mem hm
            exact h.2 m (by omega) (by rw [List.getElem?_eq_getElem hml, he])
      · refine ⟨i0, hil, fun y hy => ?_⟩
        rw [hx] at hy
        cases hy
        refine rkind_wp (hu x (List.mem_of_getElem? hx)) ho (fun r hr => ?_)
        have hr := hr q (by omega)
        refine cond_e (fun a => ?_) (fun a => ?_)
        · have hk := hr.1 a
          constructor
          · intro h; have := of_decide_eq_true h; exact ⟨hk, by omega⟩
          · intro h; have := h.2; exact decide_eq_true (by omega)
        · exact ⟨fun h => (by cases h), fun h => absurd (hr.2 h.1) a⟩
    · rw [wrap_i64 (by omega) (by omega)]
      refine ⟨_, ?_, by omega, by omega, rfl, ?_⟩
      · omega
      · rw [hout, show i.toNat = l.length by omega, List.take_length, show ((q : Int) + 1 + 1).toNat - 1 = q + 1 by omega]
        rfl
  · rw [show k.toNat - 1 = 3 by omega, ← ways_upto]
    exact hK

end Go.Proofs.Ytjlmpfoaiaolhaa
