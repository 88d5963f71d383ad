/- The plain side of how samples are kept (from the statements on these). -/
import Derived.Test.YtgelfofenbjjbaaL
import Derived.Test.YtgelfofenbjjbaaEngV
import Derived.Test.YtgelfofenbjjbaaEngR
import Derived.Test.YtgelfofenbjjbaaEngJ
namespace Go.Proofs.Ytgelfofenbjjbaa
open Go Go.Eng

theorem index_wp {σ : Type} {s : List (Int × Int)} {st : σ} {Y : (Int × Int) → σ → (Bool → σ → Prop) → Prop} {K : Int → σ → Prop} (f : Int × Int → Bool) (hY : ∀ x st K, K (f x) st → Y x st K)
    (hl : s.length ≤ 9223372036854775807) (hK : K (idx f s) st) : slices_IndexFunc_sl_rtt_mark_rtt_mark_wp s st Y K := by
  unfold slices_IndexFunc_sl_rtt_mark_rtt_mark_wp
  refine ⟨fun n i s' => s' = st ∧ 0 ≤ i ∧ i ≤ s.length ∧ n = s.length - i.toNat ∧ ∀ j (h : j < s.length), j < i.toNat → f s[j] = false, ⟨_, rfl, by omega, by omega, rfl, by omega⟩, ?_⟩
  rintro n i s' ⟨rfl, h0, h1, rfl, hj⟩
  refine cond_d (fun hlt => ?_) (fun hge => ?_)
  · refine ⟨h0, hlt, fun x hx => hY _ _ _ ?_⟩
    have hi : i.toNat < s.length := by omega
    rw [List.getElem?_eq_getElem hi] at hx
    cases hx
    refine cond_b (fun hf => ?_) (fun hf => ?_)
    · have : idx f s = i := by
        unfold idx
        rw [List.findIdx?_eq_some_iff_getElem.2 ⟨hi, hf, fun j hj' => by simpa using hj j (by omega) hj'⟩]
        simp only
        omega
      rw [this] at hK
      exact hK
    · refine ⟨_, ?_, rfl, ?_, ?_, rfl, ?_⟩
      all_goals rw [wrap_i64 (by omega) (by omega)]
      · omega
      · omega
      · omega
      · intro j h hj'
        by_cases e : j = i.toNat
        · subst e; exact hf
        · exact hj j h (by omega)
  · have : idx f s = -1 := by
      unfold idx
      have : s.findIdx? f = none := by
        rw [List.findIdx?_eq_none_iff]
        intro x hx
        obtain ⟨j, h, rfl⟩ := List.getElem_of_mem hx
        exact hj j h (by omega)
      rw [this]
    rw [this] at hK
    exact hK

def pos (l : List (Int × Int)) (no : Int) : Int := idx (fun x => x.1 == no) l

theorem place_wp {l : List (Int × Int)} {mean dev no : Int} {any : Bool} {K : Int → Prop} (hl : l.length ≤ 9223372036854775807) (h : K (pos l no)) : rtt_Meter_place_wp l mean dev any no K := by
  unfold rtt_Meter_place_wp
  exact index_wp (fun x => x.1 == no) (fun x st K h => h) hl h

theorem drop_wp {l : List (Int × Int)} {mean dev i : Int} {any : Bool} {K : List (Int × Int) → Prop} (hl : l.length ≤ 1000) (h0 : 0 ≤ i) (h1 : i < l.length) (h : K (l.eraseIdx i.toNat)) : rtt_Meter_drop_wp l mean dev any i K := by
  unfold rtt_Meter_drop_wp
  rw [wrap_i64 (by omega) (by omega)]
  refine ⟨h0, by omega, h0, by omega, by omega, by omega, ?_, ?_⟩
  · simp
    omega
  · have e : (i + 1).toNat = i.toNat + 1 := by omega
    rw [e, List.drop_zero, List.take_length, ← List.eraseIdx_eq_take_drop_succ]
    exact h

theorem way_wp {mean dev : Int} {any : Bool} {K : Int → Prop} (h0 : 0 ≤ mean) (h1 : mean ≤ 1000000) (h : K (mean / 8)) : rtt_Meter_Way_wp mean dev any K := by
  unfold rtt_Meter_Way_wp
  rw [tdiv_pos h0, wrap_i64 (by omega) (by omega)]
  exact h

def wait (mean dev : Int) (any : Bool) : Int := if any then min (max (IntKind.wrap .i64 (mean / 8 + dev)) 2) 10000 else 20

theorem wait_wp {mean dev : Int} {any : Bool} {K : Int → Prop} (h0 : 0 ≤ mean) (h1 : mean ≤ 1000000) (h : K (wait mean dev any)) : rtt_Meter_Wait_wp mean dev any K := by
  unfold rtt_Meter_Wait_wp
  cases any with
  | false => exact h
  | true =>
    simp only [Bool.not_true, cond_false]
    refine way_wp h0 h1 ?_
    simp only [wait, if_true] at h
    generalize IntKind.wrap .i64 (mean / 8 + dev) = x at h ⊢
    have e : (if (10000 : Int) < (if (2 : Int) > x then 2 else x) then 10000 else (if (2 : Int) > x then 2 else x)) = min (max x 2) 10000 := by
      split <;> split at * <;> omega
    rw [e]
    exact h

theorem wait_bounds (mean dev : Int) (any : Bool) : 2 ≤ wait mean dev any ∧ wait mean dev any ≤ 10000 := by
  unfold wait
  split <;> omega

theorem pos_new (no : Int) : pos [] no = -1 := rfl

/-- What a Sent makes of the marks. -/
def sentL (l : List (Int × Int)) (no now : Int) : List (Int × Int) :=
  let a := if 0 ≤ pos l no then l.eraseIdx (pos l no).toNat else l
  let b := a ++ [(no, now)]
  if 30 < b.length then b.eraseIdx 0 else b

theorem pos_lt (l : List (Int × Int)) (no : Int) (h : 0 ≤ pos l no) : pos l no < l.length := by
  unfold pos idx at *
  split at h
  · rename_i i hi
    have := (List.findIdx?_eq_some_iff_getElem.1 hi).1
    omega
  · omega

theorem sent_wp {l : List (Int × Int)} {mean dev now no : Int} {any : Bool} {K : Int → List (Int × Int) → Prop} (hl : l.length ≤ 100) (h0 : 0 ≤ now) (h1 : now ≤ 1099511627776) (h : K 0 (sentL l no now)) :
    rtt_Meter_Sent_wp l mean dev any now no K := by
  unfold rtt_Meter_Sent_wp
  refine joinP1.i ?_
  rw [show decide (now < 0) = false by simpa using h0, show decide (now > 1099511627776) = false by simpa using h1]
  simp only [cond_false]
  refine ⟨fun m => m = if 0 ≤ pos l no then l.eraseIdx (pos l no).toNat else l, ?_, ?_⟩
  · rintro m rfl
    generalize ha : (if 0 ≤ pos l no then l.eraseIdx (pos l no).toNat else l) = a
    have hal : a.length ≤ l.length := by
      rw [← ha]
      split
      · exact List.length_eraseIdx_le _ _
      · exact Nat.le_refl _
    unfold sentL at h
    rw [ha] at h
    simp only at h
    refine ⟨by simp; omega, cond_d (fun hgt => ?_) (fun hle => ?_)⟩
    · rw [if_pos (by omega)] at h
      exact drop_wp (by simp; omega) (by omega) (by simp) h
    · rw [if_neg (by omega)] at h
      exact h
  · refine place_wp (by omega) (cond_d (fun hge => ?_) (fun hlt => ?_))
    · exact drop_wp (by omega) hge (pos_lt l no hge) (by rw [if_pos hge])
    · rw [if_neg (by omega)]

def sampleM (mean s : Int) (any : Bool) : Int := if any then mean + (s - mean / 8) else 8 * s
def sampleD (mean dev s : Int) (any : Bool) : Int :=
  if any then IntKind.wrap .i64 (dev + IntKind.wrap .i64 (max (s - mean / 8) (0 - (s - mean / 8)) - IntKind.wrap .i64 (Int.tdiv dev 4))) else 2 * s

theorem sample_wp {mean dev s : Int} {any : Bool} {K : Int → Int → Bool → Prop} (h0 : 0 ≤ mean) (h1 : mean ≤ 80007) (h2 : 0 ≤ s) (h3 : s ≤ 10000) (h : K (sampleM mean s any) (sampleD mean dev s any) true) :
    rtt_Meter_sample_wp mean dev any s K := by
  unfold rtt_Meter_sample_wp
  cases any with
  | false =>
    simp only [Bool.not_false, cond_true]
    rw [wrap_i64 (x := 8 * s) (by omega) (by omega), wrap_i64 (x := 2 * s) (by omega) (by omega)]
    exact h
  | true =>
    simp only [Bool.not_true, cond_false, rtt_abs_wp]
    rw [tdiv_pos h0, wrap_i64 (x := mean / 8) (by omega) (by omega), wrap_i64 (x := s - mean / 8) (by omega) (by omega), wrap_i64 (x := mean + (s - mean / 8)) (by omega) (by omega), wrap_i64 (x := 0 - (s - mean / 8)) (by omega) (by omega)]
    have e : (if 0 - (s - mean / 8) > s - mean / 8 then 0 - (s - mean / 8) else s - mean / 8) = max (s - mean / 8) (0 - (s - mean / 8)) := by split <;> omega
    rw [e]
    exact h

theorem got_wp {l : List (Int × Int)} {mean dev now no : Int} {any : Bool} {K : Int → Int → List (Int × Int) → Int → Int → Bool → Prop} (hl : l.length ≤ 1000) (h0 : 0 ≤ mean) (h1 : mean ≤ 80007) (hn0 : 0 ≤ now) (hn : now ≤ 1099511627776)
    (hnone : pos l no < 0 → K 0 5 l mean dev any)
    (hsome : ∀ x, 0 ≤ pos l no → l[(pos l no).toNat]? = some x → 0 ≤ x.2 ∧ x.2 ≤ now ∧ K (min (now - x.2) 10000) 0 (l.eraseIdx (pos l no).toNat) (sampleM mean (min (now - x.2) 10000) any) (sampleD mean dev (min (now - x.2) 10000) any) true) :
    rtt_Meter_Got_wp l mean dev any now no K := by
  unfold rtt_Meter_Got_wp
  refine place_wp (by omega) (cond_d (fun hlt => hnone hlt) (fun hge => ?_))
  have hp0 : 0 ≤ pos l no := by omega
  have hp1 := pos_lt l no hp0
  have hp : (pos l no).toNat < l.length := by omega
  obtain ⟨hx0, hx1, hK⟩ := hsome _ hp0 (List.getElem?_eq_getElem hp)
  refine joinP1.i ⟨hp0, hp1, fun x hx => ?_⟩
  rw [List.getElem?_eq_getElem hp] at hx
  cases hx
  rw [show decide (now < (l[(pos l no).toNat]).2) = false by simpa using hx1, show decide (now > 1099511627776) = false by simpa using hn]
  simp only [cond_false]
  refine ⟨hp0, hp1, fun x hx => ?_⟩
  rw [List.getElem?_eq_getElem hp] at hx
  cases hx
  refine drop_wp hl hp0 hp1 ?_
  have e : (if (10000 : Int) < now - (l[(pos l no).toNat]).2 then 10000 else now - (l[(pos l no).toNat]).2) = min (now - (l[(pos l no).toNat]).2) 10000 := by
    split <;> omega
  rw [wrap_i64 (by omega) (by omega), e]
  exact sample_wp h0 h1 (by omega) (by omega) hK

theorem pos_erase (l : List (Int × Int)) (no : Int) : (if 0 ≤ pos l no then l.eraseIdx (pos l no).toNat else l) = l.eraseP (fun x => x.1 == no) := by
  rw [List.eraseP_eq_eraseIdx]
  unfold pos idx
  cases l.findIdx? (fun x => x.1 == no) with
  | none => simp
  | some i => simp

theorem sentL_eq (l : List (Int × Int)) (no now : Int) : sentL l no now = if 30 < (l.eraseP (fun x => x.1 == no) ++ [(no, now)]).length then (l.eraseP (fun x => x.1 == no) ++ [(no, now)]).eraseIdx 0 else l.eraseP (fun x => x.1 == no) ++ [(no, now)] := by
  unfold sentL
  rw [pos_erase]

theorem pos_mem {l : List (Int × Int)} {no : Int} (h : ∃ x ∈ l, x.1 = no) : 0 ≤ pos l no ∧ ∃ x, l[(pos l no).toNat]? = some x ∧ x ∈ l ∧ x.1 = no ∧ l.eraseIdx (pos l no).toNat = l.eraseP (fun x => x.1 == no) := by
  have he := pos_erase l no
  unfold pos idx at *
  cases hf : l.findIdx? (fun x => x.1 == no) with
  | none =>
    rw [List.findIdx?_eq_none_iff] at hf
    obtain ⟨x, hx, hn⟩ := h
    have := hf x hx
    simp [hn] at this
  | some i =>
    rw [hf] at he
    simp only at he ⊢
    obtain ⟨hi, hp, -⟩ := List.findIdx?_eq_some_iff_getElem.1 hf
    rw [if_pos (by omega)] at he
    refine ⟨by omega, l[i], by simp [hi], List.getElem_mem _, by simpa using hp, he⟩

theorem pos_none {l : List (Int × Int)} {no : Int} (h : ∀ x ∈ l, x.1 ≠ no) : pos l no = -1 := by
  unfold pos idx
  have : l.findIdx? (fun x => x.1 == no) = none := by
    rw [List.findIdx?_eq_none_iff]
    intro x hx
    simpa using h x hx
  rw [this]

/-- Behind two that are sent at 0. -/
theorem two_sent (l : List (Int × Int)) (i j : Int) (hl : l.length ≤ 30) (h0 : ∀ x ∈ l, x.2 = 0) (hij : i ≠ j) :
    (sentL (sentL l i 0) j 0).length ≤ 30 ∧ (∀ x ∈ sentL (sentL l i 0) j 0, x.2 = 0) ∧ (i, 0) ∈ sentL (sentL l i 0) j 0 ∧ (sentL l i 0).length ≤ 30 := by
  have one : ∀ (l : List (Int × Int)) (no : Int), l.length ≤ 30 → (∀ x ∈ l, x.2 = 0) → (sentL l no 0).length ≤ 30 ∧ (∀ x ∈ sentL l no 0, x.2 = 0) := by
    intro l no hl h0
    rw [sentL_eq]
    have h1 := List.length_eraseP_le (p := fun x : Int × Int => x.1 == no) (l := l)
    have h2 : ∀ x ∈ l.eraseP (fun x => x.1 == no) ++ [(no, (0 : Int))], x.2 = 0 := by
      intro x hx
      rcases List.mem_append.1 hx with hx | hx
      · exact h0 x (List.mem_of_mem_eraseP hx)
      · simp at hx; simp [hx]
    split
    · rename_i hgt
      refine ⟨by rw [List.length_eraseIdx]; simp at hgt ⊢; omega, fun x hx => h2 x (List.mem_of_mem_eraseIdx hx)⟩
    · rename_i hle
      exact ⟨by omega, h2⟩
  obtain ⟨a1, a2⟩ := one l i hl h0
  obtain ⟨b1, b2⟩ := one _ j a1 a2
  refine ⟨b1, b2, ?_, a1⟩
  obtain ⟨l0, hl0⟩ : ∃ l0, sentL l i 0 = l0 ++ [(i, 0)] := by
    rw [sentL_eq]
    split
    · rename_i hgt
      rw [List.eraseIdx_zero, List.tail_append_of_ne_nil (by intro e; rw [e] at hgt; simp at hgt)]
      exact ⟨_, rfl⟩
    · exact ⟨_, rfl⟩
  obtain ⟨l1, hl1⟩ : ∃ l1, (sentL l i 0).eraseP (fun x => x.1 == j) = l1 ++ [(i, 0)] := by
    rw [hl0]
    by_cases h : ∃ a ∈ l0, (a.1 == j) = true
    · obtain ⟨a, ha, hp⟩ := h
      rw [List.eraseP_append_left (p := fun x : Int × Int => x.1 == j) hp _ ha]
      exact ⟨_, rfl⟩
    · rw [List.eraseP_append_right _ (fun b hb hp => h ⟨b, hb, hp⟩)]
      refine ⟨l0, ?_⟩
      rw [List.eraseP_cons_of_neg (by simpa using hij)]
      rfl
  rw [sentL_eq, hl1]
  split
  · rename_i hgt
    rw [List.eraseIdx_zero, List.append_assoc, List.tail_append_of_ne_nil (by intro e; rw [e] at hgt; simp at hgt)]
    simp
  · simp

def mk1 (times : List Int) (j : Nat) : Int × Int := ((j : Int), times.getD j 0)
def mkL (times : List Int) (c : Nat → Bool) (m : Nat) : List (Int × Int) := ((List.range m).filter fun j => !(c j)).map (mk1 times)

theorem mkL_mem {times : List Int} {c : Nat → Bool} {m : Nat} {x : Int × Int} : x ∈ mkL times c m ↔ ∃ j, j < m ∧ c j = false ∧ x = mk1 times j := by
  unfold mkL
  simp only [List.mem_map, List.mem_filter, List.mem_range, Bool.not_eq_true']
  constructor
  · rintro ⟨j, ⟨h1, h2⟩, rfl⟩; exact ⟨j, h1, h2, rfl⟩
  · rintro ⟨j, h1, h2, rfl⟩; exact ⟨j, ⟨h1, h2⟩, rfl⟩

theorem eraseP_filter (k : Int) : ∀ (l : List (Int × Int)), l.Pairwise (fun a b => a.1 ≠ b.1) → l.eraseP (fun x => x.1 == k) = l.filter (fun x => !(x.1 == k))
  | [], _ => rfl
  | x :: l, h => by
    rw [List.pairwise_cons] at h
    by_cases hx : x.1 = k
    · have hb : (x.1 == k) = true := by simpa using hx
      rw [List.eraseP_cons_of_pos (p := fun x : Int × Int => x.1 == k) hb, List.filter_cons_of_neg (by simp [hb])]
      symm
      rw [List.filter_eq_self]
      intro y hy
      have := h.1 y hy
      rw [hx] at this
      simpa using Ne.symm this
    · have hb : ¬ (x.1 == k) = true := by simpa using hx
      rw [List.eraseP_cons_of_neg (p := fun x : Int × Int => x.1 == k) hb, List.filter_cons_of_pos (by simpa using hx), eraseP_filter k l h.2]

theorem mkL_pair (times : List Int) (c : Nat → Bool) (m : Nat) : (mkL times c m).Pairwise (fun a b => a.1 ≠ b.1) := by
  unfold mkL
  rw [List.pairwise_map]
  refine List.Pairwise.imp ?_ (List.Pairwise.filter _ List.pairwise_lt_range)
  intro a b hab
  simp only [mk1]
  omega

theorem mkL_erase (times : List Int) (c c' : Nat → Bool) (m k : Nat) (h : ∀ j, j < m → c' j = (c j || j == k)) : (mkL times c m).eraseP (fun x => x.1 == (k : Int)) = mkL times c' m := by
  rw [eraseP_filter _ _ (mkL_pair _ _ _)]
  unfold mkL
  rw [List.filter_map, List.filter_filter]
  congr 1
  apply List.filter_congr
  intro j hj
  rw [List.mem_range] at hj
  rw [h j hj]
  simp only [Function.comp, mk1]
  by_cases e : j = k
  · subst e; simp
  · have : ((j : Int) == (k : Int)) = false := by rw [beq_eq_false_iff_ne]; omega
    rw [this]
    have : (j == k) = false := by simpa using e
    rw [this]
    simp

theorem mkL_length_le (times : List Int) (c : Nat → Bool) (m : Nat) : (mkL times c m).length ≤ m := by
  unfold mkL
  rw [List.length_map]
  exact Nat.le_trans (List.length_filter_le _ _) (by simp)

end Go.Proofs.Ytgelfofenbjjbaa
