/- The plain side: CircTwo. -/
import Derived.Test.YtjcebofaahbifaaR1
namespace Go.Proofs.Ytjcebofaahbifaa
open Go Go.Eng

theorem circTwo_plain {r p c li du da a b wait : Int} (_ : inK .i64 r) (_ : inK .i64 p) (_ : inK .i64 c) (_ : inK .i64 li) (_ : inK .i64 du) (_ : inK .i64 da) (_ : inK .i64 a) (_ : inK .i64 b) (hw : inK .u8 wait) :
    embrasurelaw24_CircTwo_wp r p c li du da a b wait (· = true) := by
  have hw := u8b hw
  unfold embrasurelaw24_CircTwo_wp
  refine awake_wp (cond_f rfl ⟨fun t => t = false → mayL r p c li du da ∧ c ≠ 0 ∧ 1 ≤ a ∧ a ≤ 2147483647 ∧ 1 ≤ b ∧ b ≤ 2147483647 ∧ a ≠ b ∧ du ≤ 1073741824, fun t ht => ?_, ?_⟩)
  · refine cond_b (fun _ => rfl) (fun hb => ?_)
    obtain ⟨hm, hc0, a0, a1, b0, b1, hne, hdu⟩ := ht hb
    refine new_wp (fun h => absurd hm h) (fun _ => joinP1.i (cond_f rfl ?_))
    have hm2 := hm
    obtain ⟨m1, m2, m3, m4, m5, m6⟩ := hm2
    have hW : ∃ w : Int, Int.tmod (IntKind.wrap .i64 wait) 60 = w ∧ 0 ≤ w ∧ w ≤ 59 := by
      refine ⟨_, rfl, ?_⟩
      rw [wrap_i64 (by omega) (by omega), tmod_pos hw.1]
      omega
    obtain ⟨w, hW, w0, w1⟩ := hW
    rw [hW]
    refine open_wp (by simp) (by omega) (by omega) (by omega) (fun h => absurd (by unfold mayO; omega) h) (fun _ h => absurd h (by simp)) (fun _ _ h => absurd h (by simp; omega)) (fun _ _ _ => ?_)
    simp only [List.filter_nil, List.nil_append, List.append_nil]
    have eU : (if (0 : Int) + du < 1099511627776 then 0 + du else 1099511627776) = du := by split <;> omega
    rw [eU, show (0 : Int) + 1 = 1 from rfl]
    obtain ⟨f1, f2⟩ := filt1 (n := 0) (c := (1, a, b, du, 0, 0)) (by show 0 < du; omega)
    refine open_wp (by simp) (by omega) (by omega) (by omega) (fun h => absurd (by unfold mayO; omega) h) (fun _ _ => ?_) (fun _ h => absurd h (by rw [f1]; simp [btw])) (fun _ h => absurd h (by rw [f1]; simp [btw]))
    rw [f1, f2, List.append_nil]
    by_cases hdw : du ≤ w
    · obtain ⟨g1, g2⟩ := filt0 (n := w) (c := (1, a, b, du, 0, 0)) hdw
      refine open_wp (by simp) (by omega) (by omega) (by omega) (fun h => absurd (by unfold mayO; omega) h) (fun _ h => absurd h (by rw [g1]; simp)) (fun _ _ h => absurd h (by rw [g1]; simp; omega)) (fun _ _ _ => ?_)
      refine joinP0.i ⟨fun t => t = false, ?_, ?_⟩
      · rintro t rfl
        exact cond_f rfl (cond_t rfl rfl)
      · refine cond_f rfl (cond_f rfl (cond_f rfl (cond_f (by simp; omega) (cond_f rfl rfl))))
    · obtain ⟨g1, g2⟩ := filt1 (n := w) (c := (1, a, b, du, 0, 0)) (by show w < du; omega)
      refine open_wp (by simp) (by omega) (by omega) (by omega) (fun h => absurd (by unfold mayO; omega) h) (fun _ _ => ?_) (fun _ h => absurd h (by rw [g1]; simp [btw])) (fun _ h => absurd h (by rw [g1]; simp [btw]))
      rw [g1, g2, List.append_nil]
      have en := nowOn_eq (now := w) (t := w) (by omega) (by omega)
      refine joinP0.i ⟨fun t => t = false, ?_, ?_⟩
      · rintro t rfl
        refine cond_f rfl (cond_f rfl ⟨fun l g n t => l = [] ∧ g = [] ∧ n = w ∧ t = false, ?_, ?_⟩)
        · rintro l g n t ⟨rfl, rfl, rfl, rfl⟩
          refine cond_f rfl ?_
          refine open_wp (by simp) (by omega) (by omega) (by omega) (fun h => absurd (by unfold mayO; omega) h) (fun _ h => absurd h (by simp)) (fun _ _ h => absurd h (by simp; omega)) (fun _ _ _ => cond_t rfl rfl)
        · refine close_wp (by simp) ?_ ?_
          · rw [en, g1]
            intro h
            exact absurd rfl (h (1, a, b, du, 0, 0) (by simp))
          · rw [en, g1, g2]
            intro i x hi _
            cases i with
            | succ i => simp at hi
            | zero =>
              refine cond_f rfl (close_wp (by simp) ?_ ?_)
              · rw [en]
                intro _
                exact ⟨rfl, rfl, rfl, rfl⟩
              · rw [en]
                intro i x hi
                simp at hi
      · refine cond_f rfl (cond_f rfl (cond_f rfl (cond_f ?_ (cond_t rfl rfl))))
        have : ¬ w ≥ du := by omega
        simp [this]
  · refine may_wp (cond_b (fun x h => by cases h) (fun x => cond_e (fun _ h => by cases h) (fun x2 => cond_d (fun _ h => by cases h) (fun x3 => cond_d (fun _ h => by cases h) (fun x4 => cond_d (fun _ h => by cases h) (fun x5 => cond_d (fun _ h => by cases h) (fun x6 => cond_e (fun _ h => by cases h) (fun x7 h => ?_))))))))
    refine ⟨by simpa using x, x2, by omega, by omega, by omega, by omega, x7, ?_⟩
    simp at h
    omega

end Go.Proofs.Ytjcebofaahbifaa
