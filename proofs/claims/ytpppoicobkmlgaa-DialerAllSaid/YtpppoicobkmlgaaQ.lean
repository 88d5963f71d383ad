/- The plain side of the statements on dialer: the laws. -/
import Derived.Test.YtpppoicobkmlgaaP
namespace Go.Proofs.Ytpppoicobkmlgaa
open Go Go.Eng

theorem act_act (l : List (Int × Int)) {s t : Int} (h : s ≤ t) : act (act l s) t = act l t := by
  unfold act
  rw [List.filter_filter]
  apply List.filter_congr
  intro x _
  rw [Bool.eq_iff_iff]
  simp
  omega

theorem act_append (l m : List (Int × Int)) (t : Int) : act (l ++ m) t = act l t ++ act m t := by
  unfold act
  rw [List.filter_append]

theorem act_one (h t s : Int) (hs : s < t + 60) : act [(h, t)] s = [(h, t)] := by
  unfold act
  simp [hs]

theorem cnt_append (l m : List (Int × Int)) (h : Int) : cnt (l ++ m) h = cnt l h + cnt m h := by
  unfold cnt
  rw [List.countP_append]
  omega

theorem cnt_one (h t g : Int) : cnt [(h, t)] g = if g = 0 ∨ h = g then 1 else 0 := by
  unfold cnt
  rw [List.countP_singleton]
  by_cases h1 : g = 0 <;> by_cases h2 : h = g <;> simp [h1, h2]

theorem firstA_host {h : Int} {l : List (Int × Int)} {a : Int × Int} (ha : firstA h l = some a) : a.1 = h := by
  have := List.find?_some ha
  simp at this
  exact this.2

theorem cnt_zero (l : List (Int × Int)) : cnt l 0 = l.length := by
  unfold cnt
  simp

theorem countP_act (l : List (Int × Int)) (t g : Int) (hg : g ≠ 0) : ((l.countP fun d => decide (t < d.2 + 60) && d.1 == g : Nat) : Int) = cnt (act l t) g := by
  unfold cnt act
  rw [List.countP_filter]
  congr 2
  funext d
  have : (g == 0) = false := by simpa using hg
  rw [this, Bool.false_or, Bool.and_comm]

set_option maxHeartbeats 1000000 in
theorem dialerGuards_plain {script : List (Int × Int × (List (Int × Int)) × Int)} (hs : ∀ x ∈ script, Eng.inK .i64 x.1 ∧ Eng.inK .u32 x.2.1 ∧ ((∀ a ∈ x.2.2.1, Eng.inK .u32 a.1 ∧ Eng.inK .i64 a.2) ∧ x.2.2.1.length ≤ 9223372036854775807) ∧ Eng.inK .i64 x.2.2.2) (hsl : script.length ≤ 9223372036854775807) : embrasurelaw20_DialerGuards_wp script (· = true) := by
  unfold embrasurelaw20_DialerGuards_wp
  refine awake_wp (cond_f rfl ?_)
  unfold dialer_New_wp
  refine ⟨fun n list now now4 at_ to i => n = 150 - i.toNat ∧ 0 ≤ i ∧ i ≤ 150 ∧ 0 ≤ now ∧ now ≤ now4 ∧ now4 ≤ i * 1000 ∧ at_.length = to.length ∧ (to.length : Int) ≤ i ∧ list = act (to.zip at_) now ∧ (∀ t ∈ at_, 0 ≤ t ∧ t ≤ now4),
    ⟨150, by omega, by omega, by omega, by omega, by omega, by omega, rfl, by simp, rfl, by simp⟩, ?_⟩
  rintro n list now now4 at_ to i ⟨rfl, hi0, hi1, hn0, hnn, hn4, hlen, hli, rfl, hat⟩
  refine joinP1.i (cond_d (fun hlt => cond_d (fun h150 => ?_) (fun _ => rfl)) (fun _ => rfl))
  refine ⟨hi0, hlt, fun x hx => ?_⟩
  have hxa := (hs x (List.mem_of_getElem? hx)).2.2.1.2
  refine cond_d (fun _ => rfl) (fun h40 => ?_)
  refine ⟨fun t => now4 ≤ t ∧ t ≤ (i + 1) * 1000, ?_, ?_⟩
  · rintro t ⟨ht0, ht1⟩
    have hz : ∀ d ∈ to.zip at_, 0 ≤ d.2 ∧ d.2 ≤ now4 := fun d hd => hat d.2 (List.of_mem_zip hd).2
    have hzl : (to.zip at_).length = to.length := by rw [List.length_zip, hlen, Nat.min_self]
    have hok : okL (act (to.zip at_) now) := okL_act ⟨by omega, fun d hd => by have := hz d hd; omega⟩ now
    have hal : (act (to.zip at_) now).length ≤ to.length := by rw [← hzl]; exact List.length_filter_le _ _
    have next : ∀ (list' : List (Int × Int)) (now' : Int) (at' to' : List Int), 0 ≤ now' → now' ≤ t → at'.length = to'.length → (to'.length : Int) ≤ i + 1 → list' = act (to'.zip at') now' → (∀ u ∈ at', 0 ≤ u ∧ u ≤ t) →
        ∃ n, n < 150 - i.toNat ∧ n = 150 - (IntKind.wrap .i64 (i + 1)).toNat ∧ 0 ≤ IntKind.wrap .i64 (i + 1) ∧ IntKind.wrap .i64 (i + 1) ≤ 150 ∧ 0 ≤ now' ∧ now' ≤ t ∧ t ≤ IntKind.wrap .i64 (i + 1) * 1000 ∧ at'.length = to'.length ∧
          (to'.length : Int) ≤ IntKind.wrap .i64 (i + 1) ∧ list' = act (to'.zip at') now' ∧ ∀ u ∈ at', 0 ≤ u ∧ u ≤ t := by
      intro list' now' at' to' a b c d e f
      rw [wrap_i64 (x := i + 1) (by omega) (by omega)]
      exact ⟨_, by omega, rfl, by omega, by omega, a, b, by omega, c, d, e, f⟩
    have hat' : ∀ u ∈ at_, 0 ≤ u ∧ u ≤ t := fun u hu => by have := hat u hu; omega
    refine ask_wp hok (by omega) hxa (fun _ => cond_t rfl (next _ now at_ to hn0 (by omega) hlen (by omega) rfl hat')) (fun hf _ _ hc _ => ?_)
    have haa := act_act (to.zip at_) (s := now) (t := t) (by omega)
    refine ⟨fun _ => cond_t rfl (next _ t at_ to (by omega) (by omega) hlen (by omega) haa hat'), fun a ha => ⟨fun _ => cond_t rfl (next _ t at_ to (by omega) (by omega) hlen (by omega) haa hat'), fun h3 h30 => ?_⟩⟩
    have hah := firstA_host ha
    rw [haa] at h3 h30 ⊢
    rw [hah]
    refine cond_f rfl (joinP1.i (cond_n (fun h => absurd rfl h) (fun _ => cond_d (fun h => by omega) (fun _ => cond_d (fun h => by omega) (fun _ => cond_d (fun h => by omega) (fun _ => ?_))))))
    refine ⟨by simp; omega, by simp; omega, ?_⟩
    have hzip : (to ++ [x.2.1]).zip (at_ ++ [t]) = to.zip at_ ++ [(x.2.1, t)] := by rw [List.zip_append hlen.symm]; rfl
    have hact : act ((to ++ [x.2.1]).zip (at_ ++ [t])) t = act (to.zip at_) t ++ [(x.2.1, t)] := by rw [hzip, act_append, act_one _ _ _ (by omega)]
    have hat2 : ∀ u ∈ at_ ++ [t], 0 ≤ u ∧ u ≤ t := by
      intro u hu
      rcases List.mem_append.1 hu with hu | hu
      · exact hat' u hu
      · obtain rfl : u = t := by simpa using hu
        omega
    generalize hz2 : (to ++ [x.2.1]).zip (at_ ++ [t]) = z at hact
    have hzl2 : z.length = to.length + 1 := by rw [← hz2, List.length_zip]; simp [hlen]
    refine ⟨fun m a => m = cnt (act z t) x.2.1 ∧ a = cnt (act z t) 0, ?_, ?_⟩
    · rintro m b ⟨rfl, rfl⟩
      have e1 : cnt (act z t) x.2.1 ≤ 3 := by rw [hact, cnt_append, cnt_one, if_pos (Or.inr rfl)]; omega
      have e2 : cnt (act z t) 0 ≤ 30 := by rw [hact, cnt_append, cnt_one, if_pos (Or.inl rfl)]; omega
      refine joinP1.i (cond_d (fun h => by omega) (fun _ => cond_d (fun h => by omega) (fun _ => next _ t _ _ (by omega) (by omega) (by simp [hlen]) (by simp; omega) ?_ hat2)))
      rw [hz2, hact]
    · refine ⟨fun n m b k => n = z.length - k.toNat ∧ 0 ≤ k ∧ k ≤ z.length ∧ m = ((z.take k.toNat).countP fun d => decide (t < d.2 + 60) && d.1 == x.2.1 : Nat) ∧ b = ((z.take k.toNat).countP fun d => decide (t < d.2 + 60) : Nat), ⟨_, rfl, by omega, by omega, rfl, rfl⟩, ?_⟩
      rintro n m b k ⟨rfl, hk0, hk1, rfl, rfl⟩
      have hatl : (at_ ++ [t]).length = z.length := by rw [hzl2]; simp [hlen]
      have htol : (to ++ [x.2.1]).length = z.length := by rw [hzl2]; simp
      have hb1 := List.countP_le_length (p := fun d : Int × Int => decide (t < d.2 + 60) && d.1 == x.2.1) (l := z.take k.toNat)
      have hb2 := List.countP_le_length (p := fun d : Int × Int => decide (t < d.2 + 60)) (l := z.take k.toNat)
      rw [List.length_take] at hb1 hb2
      refine cond_d (fun hk => ?_) (fun hk => ?_)
      · have hkz : k.toNat < z.length := by omega
        refine ⟨hk0, hk, fun y hy => ?_⟩
        have hyt := hat2 y (List.mem_of_getElem? hy)
        rw [wrap_i64 (x := y + 60) (by omega) (by omega)]
        have hzk : ∀ w, (to ++ [x.2.1])[k.toNat]? = some w → z[k.toNat] = (w, y) := by
          intro w hw
          have : z[k.toNat]? = some (w, y) := by
            rw [← hz2, List.getElem?_zip_eq_some]
            exact ⟨hw, hy⟩
          rw [List.getElem?_eq_getElem hkz] at this
          exact Option.some.inj this
        have hwk : (to ++ [x.2.1])[k.toNat]? = some (to ++ [x.2.1])[k.toNat] := List.getElem?_eq_getElem (by omega)
        have hzk0 := hzk _ hwk
        have htake : z.take (k.toNat + 1) = z.take k.toNat ++ [z[k.toNat]] := List.take_succ_eq_append_getElem hkz
        have fin : ∀ (m' b' : Int), m' = ((z.take (k.toNat + 1)).countP fun d => decide (t < d.2 + 60) && d.1 == x.2.1 : Nat) → b' = ((z.take (k.toNat + 1)).countP fun d => decide (t < d.2 + 60) : Nat) →
            ∃ n, n < z.length - k.toNat ∧ n = z.length - (IntKind.wrap .i64 (k + 1)).toNat ∧ 0 ≤ IntKind.wrap .i64 (k + 1) ∧ IntKind.wrap .i64 (k + 1) ≤ z.length ∧
              m' = ((z.take (IntKind.wrap .i64 (k + 1)).toNat).countP fun d => decide (t < d.2 + 60) && d.1 == x.2.1 : Nat) ∧ b' = ((z.take (IntKind.wrap .i64 (k + 1)).toNat).countP fun d => decide (t < d.2 + 60) : Nat) := by
          intro m' b' h1 h2
          rw [wrap_i64 (x := k + 1) (by omega) (by omega), show (k + 1).toNat = k.toNat + 1 by omega]
          exact ⟨_, by omega, rfl, by omega, by omega, h1, h2⟩
        have hlim : z.length ≤ 1000 := by omega
        refine cond_d (fun hg => ⟨hk0, by omega, fun w hw => ?_⟩) (fun hg => fin _ _ ?_ ?_)
        · have hzw := hzk w hw
          refine cond_e (fun he => fin _ _ ?_ ?_) (fun he => fin _ _ ?_ ?_)
          · rw [wrap_i64 (by omega) (by omega), htake, List.countP_append, List.countP_singleton, hzw, if_pos (by simp [he]; omega)]; omega
          · rw [wrap_i64 (by omega) (by omega), htake, List.countP_append, List.countP_singleton, hzw, if_pos (by simp; omega)]; omega
          · rw [htake, List.countP_append, List.countP_singleton, hzw, if_neg (by simp [he])]; omega
          · rw [wrap_i64 (by omega) (by omega), htake, List.countP_append, List.countP_singleton, hzw, if_pos (by simp; omega)]; omega
        · rw [htake, List.countP_append, List.countP_singleton, hzk0, if_neg (by simp; omega)]; omega
        · rw [htake, List.countP_append, List.countP_singleton, hzk0, if_neg (by simp; omega)]; omega
      · have : k.toNat = z.length := by omega
        rw [this, List.take_length]
        refine ⟨countP_act z t x.2.1 hf, ?_⟩
        rw [cnt_zero]
        unfold act
        rw [List.countP_eq_length_filter]
  · refine joinP1.i (cond_d (fun hp => cond_d (fun hp2 => ?_) (fun _ => ?_)) (fun _ => ?_))
    · rw [wrap_i64 (by omega) (by omega)]
      exact ⟨by omega, by omega⟩
    · exact ⟨by omega, by omega⟩
    · exact ⟨by omega, by omega⟩

end Go.Proofs.Ytpppoicobkmlgaa
