/- The plain side: CircBytes. -/
import Derived.Test.YtjcebofaahbifaaQ
namespace Go.Proofs.Ytjcebofaahbifaa
open Go Go.Eng

theorem i64b {h : Int} (hh : inK .i64 h) : -9223372036854775808 ≤ h ∧ h ≤ 9223372036854775807 := by simp [inK, IntKind.min, IntKind.max, IntKind.signed, IntKind.bits] at hh; omega
theorem u8b {h : Int} (hh : inK .u8 h) : 0 ≤ h ∧ h ≤ 255 := by simp [inK, IntKind.min, IntKind.max, IntKind.signed, IntKind.bits] at hh; omega

theorem circBytes_plain {r p c li du da : Int} {sizes : List Int} {back : List Bool} (_ : inK .i64 r) (_ : inK .i64 p) (_ : inK .i64 c) (_ : inK .i64 li) (_ : inK .i64 du) (_ : inK .i64 da)
    (hs : ∀ x ∈ sizes, inK .u8 x) (hl : sizes.length ≤ 9223372036854775807) (_ : ∀ x ∈ back, True) (hl2 : back.length ≤ 9223372036854775807) :
    embrasurelaw24_CircBytes_wp r p c li du da sizes back (· = true) := by
  unfold embrasurelaw24_CircBytes_wp
  refine awake_wp (cond_f rfl ⟨fun t => t = false → mayL r p c li du da ∧ c ≠ 0 ∧ sizes.length ≤ 60, fun t ht => ?_, ?_⟩)
  · refine cond_b (fun _ => rfl) (fun hb => ?_)
    obtain ⟨hm, hc0, h60⟩ := ht hb
    refine new_wp (fun h => absurd hm h) (fun _ => joinP1.i (cond_f rfl ?_))
    have hm2 := hm
    obtain ⟨m1, m2, m3, m4, m5, m6⟩ := hm2
    refine open_wp (by simp) (by omega) (by omega) (by omega) (fun h => absurd (by unfold mayO; omega) h) (fun _ h => absurd h (by simp)) (fun _ _ h => absurd h (by simp; omega)) (fun _ _ _ => ?_)
    refine cond_f rfl ?_
    have e0 : nowOn 0 0 = 0 := by decide
    simp only [List.filter_nil, List.nil_append, List.append_nil]
    have hU : ∃ U : Int, (if (0 : Int) + du < 2199023255552 then 0 + du else 2199023255552) = U ∧ 0 < U ∧ U = (if (du : Int) < 2199023255552 then du else 2199023255552) := ⟨_, rfl, by split <;> omega, by rw [Int.zero_add]⟩
    obtain ⟨U, hU1, hU0, hU2⟩ := hU
    rw [hU1]
    have F : ∀ x y : Int, ([((0 : Int) + 1, 1, 2, U, x, y)] : List Ci).filter (fun c => !over 0 c) = [(1, 1, 2, U, x, y)] ∧ ([((0 : Int) + 1, 1, 2, U, x, y)] : List Ci).filter (over 0) = [] := fun x y => filt1 (c := (1, 1, 2, U, x, y)) hU0
    refine ⟨fun x y l g n => l = [(1, 1, 2, U, x, y)] ∧ g = [] ∧ n = 0, ?_, ?_⟩
    · rintro x y l g n ⟨rfl, rfl, rfl⟩
      refine all_wp (by simp) ?_
      rw [e0, (filt1 (c := (1, 1, 2, U, x, y)) hU0).1]
      refine cond_t rfl ⟨by omega, by simp, fun z hz => ?_⟩
      simp at hz
      subst hz
      refine cond_t (by simp) ⟨by omega, by simp, fun z hz => ?_⟩
      simp at hz
      subst hz
      simp [hU2]
    · refine ⟨fun n x y l g now i => l = [(1, 1, 2, U, x, y)] ∧ g = [] ∧ now = 0 ∧ (0 ≤ x ∧ x ≤ da) ∧ (0 ≤ y ∧ y ≤ da) ∧ 0 ≤ i ∧ i ≤ sizes.length ∧ n = sizes.length - i.toNat,
        ⟨_, rfl, rfl, rfl, ⟨by omega, by omega⟩, ⟨by omega, by omega⟩, by omega, by omega, rfl⟩, ?_⟩
      rintro n x y l g now i ⟨rfl, rfl, rfl, hx, hy, i0, i1, rfl⟩
      refine cond_d (fun hlt => ?_) (fun hge => ⟨rfl, rfl, rfl⟩)
      obtain ⟨s, hss⟩ : ∃ s, sizes[i.toNat]? = some s := ⟨_, List.getElem?_eq_getElem (by omega)⟩
      have hs1 := u8b (hs s (List.mem_of_getElem? hss))
      refine ⟨fun k => k = 0 ∨ k = 1, ?_, ?_⟩
      · intro k hk
        refine ⟨i0, hlt, fun s' hs' => ?_⟩
        rw [hss] at hs'
        cases hs'
        rw [wrap_i64 (x := s) (by omega) (by omega)]
        have hgone : ∀ {K : Int → Int → List Ci → List Ci → Int → Prop}, K 0 5 [] [] 0 → circ_Table_Forward_wp r p c li du da [] [] (0 + 1) 0 0 (0 + 1) 1 0 K := fun hk => by
          refine forward_wp (by simp) m6 (by simp) ?_
          rw [e0]
          exact ⟨fun _ => hk, fun i c hi => by simp at hi⟩
        have hall : ∀ {K : List Ci → List Ci → List Ci → Int → Prop}, K [] [] [] 0 → circ_Table_All_wp r p c li du da [] [] (0 + 1) 0 0 K := fun hk => by
          refine all_wp (by simp) ?_
          rw [e0]
          exact hk
        rcases hk with rfl | rfl
        · rw [show IntKind.wrap .i64 ((1 : Int) + 0) = 1 by decide]
          refine forward_wp (by simp) m6 (by simp [okB]; omega) ?_
          rw [e0, (filt1 (c := (1, 1, 2, U, x, y)) hU0).1, (filt1 (c := (1, 1, 2, U, x, y)) hU0).2]
          refine fwd_one rfl (.inl rfl) hs1.1 (fun h => absurd h (by show ¬ (1 : Int) = 2; decide)) (fun _ => ⟨fun hbig => ?_, fun hfit => ?_⟩)
          · simp only [] at hbig
            refine ⟨by omega, by decide, fun _ => ⟨i0, hlt, fun s' hs' => ?_⟩, fun h => absurd h (by decide)⟩
            rw [hss] at hs'
            cases hs'
            rw [wrap_i64 (x := s) (by omega) (by omega), wrap_i64 (x := x + s) (by omega) (by omega)]
            refine cond_d (fun _ => hgone (cond_t rfl (cond_t rfl (cond_t rfl (hall rfl))))) (fun h => absurd (by omega) h)
          · simp only [] at hfit
            refine ⟨by omega, by decide, fun _ => ⟨i0, hlt, fun s' hs' => ?_⟩, fun h => absurd h (by decide)⟩
            rw [hss] at hs'
            cases hs'
            rw [wrap_i64 (x := s) (by omega) (by omega), wrap_i64 (x := x + s) (by omega) (by omega)]
            refine cond_d (fun h => absurd h (by omega)) (fun _ => ⟨by omega, by decide, i0, hlt, fun s' hs' => ⟨by omega, by decide, joinP1.i ?_⟩⟩)
            rw [hss] at hs'
            cases hs'
            refine cond_f rfl (cond_f rfl ⟨sizes.length - (i + 1).toNat, by omega, ?_⟩)
            rw [wrap_i64 (x := s) (by omega) (by omega), wrap_i64 (x := x + s) (by omega) (by omega), wrap_i64 (x := i + 1) (by omega) (by omega)]
            exact ⟨rfl, rfl, rfl, ⟨by omega, by omega⟩, hy, by omega, by omega, rfl⟩
        · rw [show IntKind.wrap .i64 ((1 : Int) + 1) = 2 by decide]
          refine forward_wp (by simp) m6 (by simp [okB]; omega) ?_
          rw [e0, (filt1 (c := (1, 1, 2, U, x, y)) hU0).1, (filt1 (c := (1, 1, 2, U, x, y)) hU0).2]
          refine fwd_one rfl (.inr rfl) hs1.1 (fun _ => ⟨fun hbig => ?_, fun hfit => ?_⟩) (fun h => absurd rfl h)
          · simp only [] at hbig
            refine ⟨by omega, by decide, fun h => absurd h (by decide), fun _ => ⟨i0, hlt, fun s' hs' => ?_⟩⟩
            rw [hss] at hs'
            cases hs'
            rw [wrap_i64 (x := s) (by omega) (by omega), wrap_i64 (x := y + s) (by omega) (by omega)]
            refine cond_d (fun _ => hgone (cond_t rfl (cond_t rfl (cond_t rfl (hall rfl))))) (fun h => absurd (by omega) h)
          · simp only [] at hfit
            refine ⟨by omega, by decide, fun h => absurd h (by decide), fun _ => ⟨i0, hlt, fun s' hs' => ?_⟩⟩
            rw [hss] at hs'
            cases hs'
            rw [wrap_i64 (x := s) (by omega) (by omega), wrap_i64 (x := y + s) (by omega) (by omega)]
            refine cond_d (fun h => absurd h (by omega)) (fun _ => ⟨by omega, by decide, i0, hlt, fun s' hs' => ⟨by omega, by decide, joinP1.i ?_⟩⟩)
            rw [hss] at hs'
            cases hs'
            refine cond_f rfl (cond_f rfl ⟨sizes.length - (i + 1).toNat, by omega, ?_⟩)
            rw [wrap_i64 (x := s) (by omega) (by omega), wrap_i64 (x := y + s) (by omega) (by omega), wrap_i64 (x := i + 1) (by omega) (by omega)]
            exact ⟨rfl, rfl, rfl, hx, ⟨by omega, by omega⟩, by omega, by omega, rfl⟩
      · refine cond_d (fun hbk => ?_) (fun _ => .inl rfl)
        have hm0 := Int.tmod_eq_emod_of_nonneg (b := (back.length : Int)) i0
        have h1 := Int.emod_nonneg i (show (back.length : Int) ≠ 0 by omega)
        have h2 := Int.emod_lt_of_pos i (show 0 < (back.length : Int) by omega)
        refine ⟨by omega, by rw [hm0]; exact h1, by rw [hm0]; exact h2, fun b _ => cond_b (fun _ => .inr rfl) (fun _ => .inl rfl)⟩
  · refine may_wp (cond_b (fun a h => by cases h) (fun a => cond_e (fun _ h => by cases h) (fun b h => ?_)))
    refine ⟨by simpa using a, b, ?_⟩
    simp at h
    omega

end Go.Proofs.Ytjcebofaahbifaa
