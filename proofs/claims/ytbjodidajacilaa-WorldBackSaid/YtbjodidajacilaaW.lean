/- The plain side of the statements on worlds: boxes in their order, a way through them. -/
import Derived.Test.YtbjodidajacilaaP
import Derived.Test.YtbjodidajacilaaEngV
namespace Go.Proofs.Ytbjodidajacilaa
open Go Go.Eng

abbrev CF := Int × Int × Int × Int × Int × Int × Int
abbrev EN := Int × Int × Int × Int × Int × Int × Int × List (Option Nat) × Int
abbrev SN := List (Nat × EN)
/-- A box: how it is made, its bindings, its time. -/
abbrev BS := CF × List BX × Int

def mkN (s : BS) (l : List (Option Nat)) : EN := (s.1.1, s.1.2.1, s.1.2.2.1, s.1.2.2.2.1, s.1.2.2.2.2.1, s.1.2.2.2.2.2.1, s.1.2.2.2.2.2.2, l, s.2.2)

/-- The world's memory: each box in its place. -/
structure WR (m : SN) (mb : SB) (bx : List (Option Nat)) (ls : List (List (Option Nat))) (st : List BS) : Prop where
  ent : ∀ (i : Nat) (s : BS), st[i]? = some s → ∃ b l, bx[i]? = some (some b) ∧ ls[i]? = some l ∧ getS m b = some (mkN s l) ∧ Rep mb l s.2.1
  len : bx.length = st.length ∧ ls.length = st.length
  nd : bx.Nodup
  dj : ∀ (i j : Nat) (l l' : List (Option Nat)), i ≠ j → ls[i]? = some l → ls[j]? = some l' → ∀ p ∈ l, p ∉ l'

theorem WR.same {m : SN} {mb : SB} {bx : List (Option Nat)} {ls : List (List (Option Nat))} {st : List BS} (h : WR m mb bx ls st) {b : Nat} {x : EN} (hx : getS m b = some x) : WR (putS m b x) mb bx ls st := by
  refine ⟨fun i s hs => ?_, h.len, h.nd, h.dj⟩
  obtain ⟨b', l, h1, h2, h3, h4⟩ := h.ent i s hs
  refine ⟨b', l, h1, h2, ?_, h4⟩
  rw [getS_put]
  split
  · rename_i e; subst e; rw [← hx, h3]
  · exact h3

theorem WR.turn {m : SN} {mb mb' : SB} {bx : List (Option Nat)} {ls : List (List (Option Nat))} {st : List BS} (h : WR m mb bx ls st) {i b : Nat} {l l' : List (Option Nat)} {s : BS} {bs' : List BX} {t : Int}
    (hs : st[i]? = some s) (hb : bx[i]? = some (some b)) (hl : ls[i]? = some l) (hr : Rep mb' l' bs') (hf : Fr mb mb' l l') : WR (putS m b (mkN (s.1, bs', t) l')) mb' bx (ls.set i l') (st.set i (s.1, bs', t)) := by
  have hil := (List.getElem?_eq_some_iff.1 hs).1
  have hll := (List.getElem?_eq_some_iff.1 hl).1
  have fr : ∀ (j : Nat) (s' : BS) (k : List (Option Nat)), j ≠ i → st[j]? = some s' → ls[j]? = some k → Rep mb' k s'.2.1 ∧ ∀ p ∈ k, p ∉ l' := by
    intro j s' k hj hs' hk
    obtain ⟨b', k', -, h2, -, h4⟩ := h.ent j s' hs'
    rw [hk] at h2; cases h2
    exact h4.frame hf (h.dj j i k l hj hk hl)
  refine ⟨fun j s' hs' => ?_, by simpa using h.len, h.nd, fun j k q q' hjk hq hq' p hp hp' => ?_⟩
  · by_cases e : j = i
    · subst e
      rw [List.getElem?_set_self hil] at hs'
      cases hs'
      exact ⟨b, l', hb, List.getElem?_set_self hll, by rw [getS_put, if_pos rfl], hr⟩
    · rw [List.getElem?_set_ne (fun c => e c.symm)] at hs'
      obtain ⟨b', k, h1, h2, h3, h4⟩ := h.ent j s' hs'
      refine ⟨b', k, h1, by rw [List.getElem?_set_ne (fun c => e c.symm)]; exact h2, ?_, (fr j s' k e hs' h2).1⟩
      rw [getS_put, if_neg fun c => ?_, h3]
      subst c
      obtain ⟨w1, e1⟩ := List.getElem?_eq_some_iff.1 h1
      obtain ⟨w2, e2⟩ := List.getElem?_eq_some_iff.1 hb
      exact e ((List.getElem_inj h.nd).1 (e1.trans e2.symm))
  · have get : ∀ n k', ls[n]? = some k' → ∃ s', st[n]? = some s' := fun n k' hn => by
      have := (List.getElem?_eq_some_iff.1 hn).1
      exact ⟨_, List.getElem?_eq_getElem (by have := h.len.2; omega)⟩
    by_cases e1 : j = i
    · subst e1
      rw [List.getElem?_set_self hll] at hq; cases hq
      rw [List.getElem?_set_ne hjk] at hq'
      obtain ⟨s', hs'⟩ := get k q' hq'
      exact (fr k s' q' (fun c => hjk c.symm) hs' hq').2 p hp' hp
    · rw [List.getElem?_set_ne (fun c => e1 c.symm)] at hq
      by_cases e2 : k = i
      · subst e2
        rw [List.getElem?_set_self hll] at hq'; cases hq'
        obtain ⟨s', hs'⟩ := get j q hq
        exact (fr j s' q e1 hs' hq).2 p hp hp'
      · rw [List.getElem?_set_ne (fun c => e2 c.symm)] at hq'
        exact h.dj j k q q' hjk hq hq' p hp hp'

/-! ### Sites -/

def isS (H at_ : Int) (s : Int × Int) : Bool := (H == s.1) && ((at_ == s.2) && true)

theorem indexS_wp {s : List (Int × Int)} {H at_ : Int} {K : Int → Prop} (hl : s.length ≤ 1000000) (hK : K (idx (isS H at_) s)) : slices_Index_sl_api_Site_api_Site_wp s H at_ K := by
  unfold slices_Index_sl_api_Site_api_Site_wp
  rcases idx_cases (isS H at_) s with ⟨e, hall⟩ | ⟨i, e, hi, hf, hj⟩
  · rw [e] at hK
    refine ⟨fun n t => 0 ≤ t ∧ t ≤ s.length ∧ n = s.length - t.toNat, ⟨_, by omega, by omega, rfl⟩, ?_⟩
    rintro n t ⟨t0, t1, rfl⟩
    refine cond_d (fun hlt => ⟨t0, hlt, fun a ha => cond_f (hall a (List.mem_of_getElem? ha)) ⟨_, ?_, ?_, ?_, rfl⟩⟩) (fun _ => hK)
    all_goals rw [wrap_i64 (by omega) (by omega)]
    all_goals omega
  · rw [e] at hK
    refine ⟨fun n t => 0 ≤ t ∧ t ≤ i ∧ n = s.length - t.toNat, ⟨_, by omega, by omega, rfl⟩, ?_⟩
    rintro n t ⟨t0, t1, rfl⟩
    refine cond_d (fun hlt => ⟨t0, hlt, fun a ha => ?_⟩) (fun h => absurd (show t < s.length by omega) h)
    obtain ⟨hl1, e1⟩ := List.getElem?_eq_some_iff.1 ha
    by_cases et : t = i
    · subst et
      refine cond_t ?_ hK
      rw [← e1]
      exact hf hi
    · refine cond_f ?_ ⟨_, ?_, ?_, ?_, rfl⟩
      · rw [← e1]
        exact hj t.toNat hl1 (by omega)
      all_goals rw [wrap_i64 (by omega) (by omega)]
      all_goals omega

theorem idx_ge {s : List (Int × Int)} {H at_ : Int} : decide ((idx (isS H at_) s : Int) ≥ 0) = s.any (isS H at_) := by
  rcases idx_cases (isS H at_) s with ⟨e, h⟩ | ⟨i, e, hi, hf, -⟩
  · rw [e]; symm; simpa using h
  · rw [e]
    have : s.any (isS H at_) = true := List.any_eq_true.2 ⟨_, List.getElem_mem hi, hf hi⟩
    rw [this]; simp

theorem isS_iff {H at_ : Int} {s : Int × Int} : isS H at_ s = true ↔ s = (H, at_) := by
  unfold isS
  obtain ⟨a, b⟩ := s
  simp
  omega

def apartP (l : List (Int × Int)) : Prop := l.Nodup ∧ ∀ s ∈ l, s.1 ≠ 0

theorem apart_wp {l : List (Int × Int)} {K : Bool → Prop} (hl : l.length ≤ 1000000) (h0 : ¬ apartP l → K false) (h1 : apartP l → K true) : world_apart_wp l K := by
  unfold world_apart_wp
  refine ⟨fun n t => 0 ≤ t ∧ t ≤ l.length ∧ n = l.length - t.toNat ∧ apartP (l.take t.toNat), ⟨_, by omega, by omega, rfl, by simp [apartP]⟩, ?_⟩
  rintro n t ⟨t0, t1, rfl, hp⟩
  refine cond_d (fun hlt => ⟨t0, hlt, fun a ha => ?_⟩) (fun hge => h1 (by rw [show t.toNat = l.length by omega, List.take_length] at hp; exact hp))
  have htk : l.take (t.toNat + 1) = l.take t.toNat ++ [a] := by rw [List.take_add_one, ha]; rfl
  refine ⟨fun b => (b = true ↔ (a.1 = 0 ∨ a ∈ l.take t.toNat)), fun b hb => ?_, cond_e (fun e => by simp [e]) (fun e => ⟨by omega, by omega, ?_⟩)⟩
  · refine cond_b (fun e => h0 fun hc => ?_) (fun e => ⟨_, ?_, ?_, ?_, rfl, ?_⟩)
    · rcases hb.1 e with h | h
      · exact hc.2 a (List.mem_of_getElem? ha) h
      · have h2 := hc.1.sublist (List.take_sublist (t.toNat + 1) l)
        rw [htk, List.nodup_append] at h2
        exact h2.2.2 a h a (by simp) rfl
    all_goals rw [wrap_i64 (by omega) (by omega)]
    · omega
    · omega
    · omega
    · rw [show (t + 1).toNat = t.toNat + 1 by omega, htk]
      have hn : ¬ (a.1 = 0 ∨ a ∈ l.take t.toNat) := fun h => by rw [hb.2 h] at e; cases e
      rw [not_or] at hn
      refine ⟨?_, fun s hs => ?_⟩
      · rw [List.nodup_append]
        refine ⟨hp.1, by simp, fun x hx y hy => ?_⟩
        simp at hy; subst hy
        exact fun e => hn.2 (e ▸ hx)
      · rcases List.mem_append.1 hs with hs | hs
        · exact hp.2 s hs
        · simp at hs; subst hs; exact hn.1
  · unfold slices_Contains_sl_api_Site_api_Site_wp
    refine indexS_wp (by simp; omega) ?_
    rw [idx_ge]
    simp only [List.drop_zero, List.any_eq_true, isS_iff]
    constructor
    · rintro ⟨x, hx, rfl⟩; exact .inr hx
    · rintro (h | h)
      · exact absurd h e
      · exact ⟨a, h, rfl⟩

theorem cloneS_wp {s : List (Int × Int)} {K : List (Int × Int) → Prop} (hl : s.length ≤ 1000000) (hK : K s) : slices_Clone_sl_api_Site_api_Site_wp s K := by
  unfold slices_Clone_sl_api_Site_api_Site_wp
  intro nil hn
  refine cond_b (fun h => ?_) (fun h => ⟨?_, by rwa [List.nil_append]⟩)
  · rw [hn h] at hK; exact hK
  · simp only [List.length_nil]; omega

theorem cloneI_wp {s : List Int} {K : List Int → Prop} (hl : s.length ≤ 1000000) (hK : K s) : slices_Clone_sl_int_int_wp s K := by
  unfold slices_Clone_sl_int_int_wp
  intro nil hn
  refine cond_b (fun h => ?_) (fun h => ⟨?_, by rwa [List.nil_append]⟩)
  · rw [hn h] at hK; exact hK
  · simp only [List.length_nil]; omega

end Go.Proofs.Ytbjodidajacilaa
