/- The plain side: a world that is made. -/
import Derived.Test.YtbjodidajacilaaW
namespace Go.Proofs.Ytbjodidajacilaa
open Go Go.Eng

def sites (boxes : List CF) (behind : List Int) : List (Int × Int) := (boxes.zip behind).map fun x => (x.1.1, x.2)

/-- A world that may be. -/
structure NW (boxes : List CF) (behind : List Int) (hosts : List (Int × Int)) : Prop where
  bl : boxes.length ≤ 16
  hl : hosts.length ≤ 16
  be : behind.length = boxes.length
  may : ∀ c ∈ boxes, mayB c.1 c.2.1 c.2.2.1 c.2.2.2.1 c.2.2.2.2.1 c.2.2.2.2.2.1 c.2.2.2.2.2.2
  bh : ∀ (i : Nat) (x : Int), behind[i]? = some x → -1 ≤ x ∧ x < i ∧ (0 ≤ x → behind[x.toNat]? = some (-1))
  hb : ∀ s ∈ hosts, -1 ≤ s.2 ∧ s.2 < boxes.length
  ap : apartP (hosts ++ sites boxes behind)

theorem sites_take (boxes : List CF) (behind : List Int) (h : behind.length = boxes.length) (i : Nat) (c : CF) (x : Int) (hc : boxes[i]? = some c) (hx : behind[i]? = some x) :
    (sites boxes behind).take (i + 1) = (sites boxes behind).take i ++ [(c.1, x)] := by
  rw [List.take_add_one]
  have : (sites boxes behind)[i]? = some (c.1, x) := by
    unfold sites
    rw [List.getElem?_map, (List.getElem?_zip_eq_some (z := (c, x))).2 ⟨hc, hx⟩]
    rfl
  rw [this]
  rfl

theorem sites_len (boxes : List CF) (behind : List Int) (h : behind.length = boxes.length) : (sites boxes behind).length = boxes.length := by
  unfold sites
  simp [h]

theorem indexFS_wp {σ : Type} {s : List (Int × Int)} {st : σ} {Y : (Int × Int) → σ → (Bool → σ → Prop) → Prop} {K : Int → σ → Prop} (f : Int × Int → Bool) (hY : ∀ x ∈ s, ∀ K : Bool → σ → Prop, K (f x) st → Y x st K)
    (hl : s.length ≤ 9223372036854775807) (hK : K (idx f s) st) : slices_IndexFunc_sl_api_Site_api_Site_wp s st Y K := indexFuncC f hY hl hK

theorem new_wp {boxes : List CF} {behind : List Int} {hosts : List (Int × Int)} {K : Int → SN → Prop} {KX : Int → List (Option Nat) → List Int → List (Int × Int) → Int → SN → Prop}
    (hbl : behind.length ≤ 1000000) (h0 : ¬ NW boxes behind hosts → ∀ m, K 1 m)
    (h1 : ∀ bx m, NW boxes behind hosts → bx.length = boxes.length → bx.Nodup → (∀ (i : Nat) (c : CF), boxes[i]? = some c → ∃ b, bx[i]? = some (some b) ∧ getS m b = some (mkN (c, [], 0) [])) → KX 0 bx behind hosts 0 m) :
    world_New_wp boxes behind hosts [] K KX := by
  unfold world_New_wp
  refine ⟨fun t => (t = true → ¬ NW boxes behind hosts) ∧ (t = false → boxes.length ≤ 16 ∧ hosts.length ≤ 16 ∧ behind.length = boxes.length), fun t ht => ?_, cond_d (fun a => ⟨fun _ h => by have := h.bl; omega, fun e => by cases e⟩) (fun a => cond_d (fun b => ⟨fun _ h => by have := h.hl; omega, fun e => by cases e⟩) (fun b => ⟨fun e h => ?_, fun e => ?_⟩))⟩
  rotate_left
  · have := h.be; simp at e; omega
  · simp at e; omega
  refine cond_b (fun e => h0 (ht.1 e) _) (fun e => ?_)
  obtain ⟨l1, l2, l3⟩ := ht.2 e
  have hsl := sites_len boxes behind l3
  refine cloneI_wp hbl (cloneS_wp (by omega) (cloneS_wp (by omega) ?_))
  refine ⟨fun bx all m => all = hosts ++ sites boxes behind ∧ (∀ c ∈ boxes, mayB c.1 c.2.1 c.2.2.1 c.2.2.2.1 c.2.2.2.2.1 c.2.2.2.2.2.1 c.2.2.2.2.2.2) ∧ (∀ (i : Nat) (x : Int), behind[i]? = some x → -1 ≤ x ∧ x < i ∧ (0 ≤ x → behind[x.toNat]? = some (-1))) ∧ bx.length = boxes.length ∧ bx.Nodup ∧ (∀ (i : Nat) (c : CF), boxes[i]? = some c → ∃ b, bx[i]? = some (some b) ∧ getS m b = some (mkN (c, [], 0) [])), ?_,
    fun n bx all t m => 0 ≤ t ∧ t ≤ boxes.length ∧ n = boxes.length - t.toNat ∧ all = hosts ++ (sites boxes behind).take t.toNat ∧ (∀ (i : Nat) (c : CF), i < t.toNat → boxes[i]? = some c → mayB c.1 c.2.1 c.2.2.1 c.2.2.2.1 c.2.2.2.2.1 c.2.2.2.2.2.1 c.2.2.2.2.2.2) ∧ (∀ (i : Nat) (x : Int), i < t.toNat → behind[i]? = some x → -1 ≤ x ∧ x < i ∧ (0 ≤ x → behind[x.toNat]? = some (-1))) ∧ bx.length = t.toNat ∧ bx.Nodup ∧ (∀ (i : Nat) (c : CF), i < t.toNat → boxes[i]? = some c → ∃ b, bx[i]? = some (some b) ∧ getS m b = some (mkN (c, [], 0) [])),
    ⟨_, by omega, by omega, rfl, by simp, fun i c hi => absurd hi (by omega), fun i c hi => absurd hi (by omega), by simp, by simp, fun i c hi => absurd hi (by omega)⟩, ?_⟩
  · rintro bx all m ⟨rfl, hm, hb, g1, g2, g3⟩
    refine ⟨fun t => (t = true → ¬ NW boxes behind hosts) ∧ (t = false → (∀ s ∈ hosts, -1 ≤ s.2 ∧ s.2 < boxes.length) ∧ apartP (hosts ++ sites boxes behind)), fun t ht => ?_, ?_⟩
    · refine cond_b (fun e => h0 (ht.1 e) _) (fun e => ?_)
      obtain ⟨q1, q2⟩ := ht.2 e
      exact h1 bx m ⟨l1, l2, l3, hm, hb, q1, q2⟩ g1 g2 g3
    · unfold slices_ContainsFunc_sl_api_Site_api_Site_wp
      let f : Int × Int → Bool := fun s => decide (s.2 < -1) || decide (s.2 ≥ boxes.length)
      refine indexFS_wp f (fun x _ K' hk => ?_) (by omega) ?_
      · unfold world_New_c1_wp
        refine cond_d (fun a => ?_) (fun a => ?_)
        · have : f x = true := by simp [f, a]
          rw [this] at hk; exact hk
        · have : f x = decide (x.2 ≥ boxes.length) := by simp [f, a]
          rw [this] at hk; exact hk
      · rcases idx_cases f hosts with ⟨e, hall⟩ | ⟨i, e, hi, hf, -⟩
        · rw [e]
          refine cond_f (by decide) (apart_wp (by rw [List.length_append, hsl]; omega) (fun hna => ⟨fun _ h => hna h.ap, fun e => by cases e⟩) (fun hap => ⟨fun e => (by cases e), fun _ => ⟨fun s hs => ?_, hap⟩⟩))
          have := hall s hs
          simp [f] at this
          omega
        · rw [e]
          refine cond_t (by simp) ⟨fun _ h => ?_, fun e => by cases e⟩
          have h2 := h.hb _ (List.getElem_mem hi)
          have h3 := hf hi
          simp [f] at h3
          omega
  · rintro n bx all t m ⟨t0, t1, rfl, rfl, hm, hb, g1, g2, g3⟩
    have hall : ((hosts ++ (sites boxes behind).take t.toNat).length : Nat) ≤ 32 := by simp only [List.length_append, List.length_take]; omega
    refine cond_d (fun hlt => ⟨t0, hlt, fun c hc => ?_⟩) (fun hge => ?_)
    · refine newNat_wp (fun hnm => ?_) (fun hmay => ?_)
      · refine ⟨False, fun h => h.elim, joinP1.i (cond_t rfl (cond_t rfl (h0 (fun h => hnm (h.may c (List.mem_of_getElem? hc))) _)))⟩
      · obtain ⟨x, hx⟩ : ∃ x, behind[t.toNat]? = some x := ⟨_, List.getElem?_eq_getElem (by omega)⟩
        refine ⟨-1 ≤ x ∧ x < t ∧ (0 ≤ x → behind[x.toNat]? = some (-1)), fun hx2 b hb0 => ?_, ?_⟩
        · refine ⟨by simp; omega, t0, by omega, fun y hy => ?_⟩
          rw [hx] at hy; cases hy
          refine ⟨by simp; omega, boxes.length - (t + 1).toNat, by omega, ?_⟩
          rw [wrap_i64 (by omega) (by omega)]
          have et : (t + 1).toNat = t.toNat + 1 := by omega
          have hnb : some b ∉ bx := fun hmem => by
            obtain ⟨i, hi⟩ := List.getElem?_of_mem hmem
            have hil := (List.getElem?_eq_some_iff.1 hi).1
            obtain ⟨b', h2, h3⟩ := g3 i _ (by omega) (List.getElem?_eq_getElem (by omega))
            rw [hi] at h2; cases h2
            rw [hb0] at h3; cases h3
          refine ⟨by omega, by omega, rfl, ?_, fun i c' hi hc' => ?_, fun i x' hi hx' => ?_, by simp only [List.length_append, List.length_singleton]; omega, ?_, fun i c' hi hc' => ?_⟩
          · rw [et, sites_take boxes behind l3 t.toNat c x hc hx, List.append_assoc]
          · by_cases e : i = t.toNat
            · subst e; rw [hc] at hc'; cases hc'; exact hmay
            · exact hm i c' (by omega) hc'
          · by_cases e : i = t.toNat
            · subst e; rw [hx] at hx'; cases hx'; exact ⟨hx2.1, by omega, hx2.2.2⟩
            · exact hb i x' (by omega) hx'
          · rw [List.nodup_append]
            refine ⟨g2, by simp, fun p hp q hq => ?_⟩
            simp at hq; subst hq
            exact fun e => hnb (e ▸ hp)
          · by_cases e : i = t.toNat
            · subst e; rw [hc] at hc'; cases hc'
              refine ⟨b, ?_, by rw [getS_put, if_pos rfl]; rfl⟩
              rw [List.getElem?_append_right (by omega), g1]; simp
            · obtain ⟨b', h2, h3⟩ := g3 i c' (by omega) hc'
              refine ⟨b', by rw [List.getElem?_append_left (by omega)]; exact h2, ?_⟩
              rw [getS_put, if_neg fun e2 => by subst e2; rw [hb0] at h3; cases h3]
              exact h3
        · refine ⟨fun q => (q = true → ¬ NW boxes behind hosts) ∧ (q = false → -1 ≤ x ∧ x < t ∧ (0 ≤ x → behind[x.toNat]? = some (-1))), fun q hq => cond_b (fun e => h0 (hq.1 e) _) (fun e => hq.2 e), cond_f rfl ⟨t0, by omega, fun y hy => ?_⟩⟩
          rw [hx] at hy; cases hy
          refine cond_d (fun a1 => ⟨fun _ h => by have := h.bh _ _ hx; omega, fun e => by cases e⟩) (fun a1 => ⟨t0, by omega, fun y hy => ?_⟩)
          rw [hx] at hy; cases hy
          refine cond_d (fun a2 => ⟨fun _ h => by have := h.bh _ _ hx; omega, fun e => by cases e⟩) (fun a2 => ⟨t0, by omega, fun y hy => ?_⟩)
          rw [hx] at hy; cases hy
          refine cond_d (fun a3 => ⟨t0, by omega, fun y hy => ?_⟩) (fun a3 => ⟨fun e => (by cases e), fun _ => ⟨by omega, by omega, fun h => absurd h a3⟩⟩)
          rw [hx] at hy; cases hy
          refine ⟨by omega, by omega, fun z hz => ⟨fun hq h => ?_, fun hq => ⟨by omega, by omega, fun _ => ?_⟩⟩⟩
          · have h2 := (h.bh _ _ hx).2.2 a3
            rw [hz] at h2; cases h2
            simp at hq
          · rw [hz]
            simp at hq
            rw [hq]
    · have et : t.toNat = boxes.length := by omega
      rw [et] at hm hb g1 g3 ⊢
      refine ⟨by rw [← hsl, List.take_length], fun c hc => ?_, fun i x hx => hb i x (by have := (List.getElem?_eq_some_iff.1 hx).1; omega) hx, g1, g2, fun i c hc => g3 i c (List.getElem?_eq_some_iff.1 hc).1 hc⟩
      obtain ⟨i, hi⟩ := List.getElem?_of_mem hc
      exact hm i c (List.getElem?_eq_some_iff.1 hi).1 hi

/-- It is as it was made. -/
theorem fresh {boxes : List CF} {bx : List (Option Nat)} {m : SN} (h1 : bx.length = boxes.length) (h2 : bx.Nodup) (h3 : ∀ (i : Nat) (c : CF), boxes[i]? = some c → ∃ b, bx[i]? = some (some b) ∧ getS m b = some (mkN (c, [], 0) [])) :
    WR m [] bx (boxes.map fun _ => []) (boxes.map fun c => (c, [], 0)) := by
  refine ⟨fun i s hs => ?_, by simp [h1], h2, fun i j l l' _ hl _ p hp => ?_⟩
  · rw [List.getElem?_map] at hs
    cases hc : boxes[i]? with
    | none => rw [hc] at hs; cases hs
    | some c =>
      rw [hc] at hs; cases hs
      obtain ⟨b, g1, g2⟩ := h3 i c hc
      exact ⟨b, [], g1, by rw [List.getElem?_map, hc]; rfl, g2, Rep.nil _⟩
  · obtain ⟨c, -, rfl⟩ := List.mem_map.1 (List.mem_of_getElem? hl)
    simp at hp

end Go.Proofs.Ytbjodidajacilaa
