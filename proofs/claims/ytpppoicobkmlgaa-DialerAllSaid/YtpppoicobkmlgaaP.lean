/- The plain side of the statements on dialer: each function's answer. -/
import Derived.Test.YtpppoicobkmlgaaL
import Derived.Test.YtpppoicobkmlgaaEngP
import Derived.Test.YtpppoicobkmlgaaEngR
namespace Go.Proofs.Ytpppoicobkmlgaa
open Go Go.Eng

theorem index_wp {σ : Type} {s : List (Int × Int)} {st : σ} {Y : (Int × Int) → σ → (Bool → σ → Prop) → Prop} {K : Int → σ → Prop} (f : Int × Int → Bool) (hY : ∀ x ∈ s, ∀ K, K (f x) st → Y x st K)
    (hl : s.length ≤ 9223372036854775807) (hK : K (idx f s) st) : slices_IndexFunc_sl_dialer_dial_dialer_dial_wp s st Y K := by
  unfold slices_IndexFunc_sl_dialer_dial_dialer_dial_wp
  refine ⟨fun n i s' => s' = st ∧ 0 ≤ i ∧ i ≤ s.length ∧ n = s.length - i.toNat ∧ ∀ j (h : j < s.length), j < i.toNat → f s[j] = false, ⟨_, rfl, by omega, by omega, rfl, by omega⟩, ?_⟩
  rintro n i s' ⟨rfl, h0, h1, rfl, hj⟩
  refine cond_d (fun hlt => ?_) (fun hge => ?_)
  · refine ⟨h0, hlt, fun x hx => hY _ (List.mem_of_getElem? hx) _ ?_⟩
    have hi : i.toNat < s.length := by omega
    rw [List.getElem?_eq_getElem hi] at hx
    cases hx
    refine cond_b (fun hf => ?_) (fun hf => ?_)
    · have : idx f s = i := by
        unfold idx
        rw [List.findIdx?_eq_some_iff_getElem.2 ⟨hi, hf, fun j hj' => by simpa using hj j (by omega) hj'⟩]
        simp only
        omega
      rw [this] at hK
      exact hK
    · refine ⟨_, ?_, rfl, ?_, ?_, rfl, ?_⟩
      all_goals rw [wrap_i64 (by omega) (by omega)]
      · omega
      · omega
      · omega
      · intro j h hj'
        by_cases e : j = i.toNat
        · subst e; exact hf
        · exact hj j h (by omega)
  · have : idx f s = -1 := by
      unfold idx
      have : s.findIdx? f = none := by
        rw [List.findIdx?_eq_none_iff]
        intro x hx
        obtain ⟨j, h, rfl⟩ := List.getElem_of_mem hx
        exact hj j h (by omega)
      rw [this]
    rw [this] at hK
    exact hK

theorem idx_cases {α : Type} (f : α → Bool) (s : List α) : (idx f s = -1 ∧ ∀ x ∈ s, f x = false) ∨ ∃ i : Nat, idx f s = i ∧ i < s.length ∧ (∀ (h : i < s.length), f s[i] = true) ∧ ∀ j (h : j < s.length), j < i → f s[j] = false := by
  unfold idx
  cases h : s.findIdx? f with
  | none => left; exact ⟨rfl, fun x hx => by simpa using List.findIdx?_eq_none_iff.1 h x hx⟩
  | some i =>
    right
    obtain ⟨h1, h2, h3⟩ := List.findIdx?_eq_some_iff_getElem.1 h
    exact ⟨i, rfl, h1, fun _ => h2, fun j hj hji => by simpa using h3 j hji⟩

theorem delete_wp {σ : Type} {s : List (Int × Int)} {st : σ} {Y : (Int × Int) → σ → (Bool → σ → Prop) → Prop} {K : List (Int × Int) → σ → Prop} (f : Int × Int → Bool) (hY : ∀ x ∈ s, ∀ K, K (f x) st → Y x st K)
    (hl : s.length ≤ 9223372036854775000) (hK : K (s.filter fun x => !(f x)) st) : slices_DeleteFunc_sl_dialer_dial_dialer_dial_wp s st Y K := by
  unfold slices_DeleteFunc_sl_dialer_dial_dialer_dial_wp
  refine index_wp f hY (by omega) ?_
  rcases idx_cases f s with ⟨e, hall⟩ | ⟨i, e, hi, hfi, hfj⟩
  · rw [e]
    refine cond_t rfl ?_
    rwa [List.filter_eq_self.2 (fun x hx => by simp [hall x hx])] at hK
  · rw [e]
    refine cond_e (fun h => by omega) (fun _ => ?_)
    have hpre : (s.take i).filter (fun x => !(f x)) = s.take i := by
      rw [List.filter_eq_self]
      intro x hx
      obtain ⟨j, hj, rfl⟩ := List.getElem_of_mem hx
      rw [List.length_take] at hj
      rw [List.getElem_take, hfj j (by omega) (by omega)]
      rfl
    refine ⟨fun m a st' => st' = st ∧ 0 ≤ a ∧ a ≤ s.length ∧ m.length = s.length ∧ m.take a.toNat = s.filter (fun x => !(f x)), ?_, ?_⟩
    · rintro m a st' ⟨rfl, h0, h1, hm, ht⟩
      refine ⟨h0, h1, h0, h1, ?_⟩
      rw [List.drop_zero, List.append_assoc, List.take_append_of_le_length (by simp; omega), List.take_take, Nat.min_self, ht]
      exact hK
    · rw [wrap_i64 (x := (i : Int) + 1) (by omega) (by omega)]
      refine ⟨fun n m a j st' => st' = st ∧ n = s.length - j.toNat ∧ 0 ≤ a ∧ a < j ∧ j ≤ s.length ∧ m.length = s.length ∧ m.take a.toNat = (s.take j.toNat).filter (fun x => !(f x)) ∧ m.drop j.toNat = s.drop j.toNat,
        ⟨s.length - (i + 1), rfl, by omega, by omega, by omega, by omega, rfl, ?_, rfl⟩, ?_⟩
      · have : ((i : Int) + 1).toNat = i + 1 := by omega
        rw [this, show ((i : Int)).toNat = i by omega, List.take_succ_eq_append_getElem hi, List.filter_append, hpre]
        simp [hfi hi]
      · rintro n m a j st' ⟨rfl, rfl, h0, h1, h2, hm, ht, hd⟩
        refine cond_d (fun hlt => ?_) (fun hge => ?_)
        · have hj : j.toNat < s.length := by omega
          have hx' : m[j.toNat]? = some s[j.toNat] := by
            have := congrArg (fun l => l[0]?) hd
            simp only [List.getElem?_drop, Nat.add_zero] at this
            rw [this, List.getElem?_eq_getElem hj]
          refine ⟨by omega, hlt, fun x hx => ?_⟩
          rw [hx'] at hx
          cases hx
          refine hY _ (List.getElem_mem _) _ ?_
          have hnext : s.take (j + 1).toNat = s.take j.toNat ++ [s[j.toNat]] := by
            rw [show (j + 1).toNat = j.toNat + 1 by omega, List.take_succ_eq_append_getElem hj]
          have hdrop : ∀ m' : List (Int × Int), m'.drop j.toNat = s.drop j.toNat → m'.drop (j + 1).toNat = s.drop (j + 1).toNat := by
            intro m' h
            rw [show (j + 1).toNat = j.toNat + 1 by omega, ← List.drop_drop, ← List.drop_drop, h]
          rw [wrap_i64 (x := j + 1) (by omega) (by omega)]
          cases hf : f s[j.toNat] with
          | true =>
            refine cond_f rfl ⟨_, ?_, rfl, rfl, h0, by omega, by omega, hm, ?_, hdrop m hd⟩
            · omega
            · rw [hnext, List.filter_append, ← ht]; simp [hf]
          | false =>
            rw [wrap_i64 (x := a + 1) (by omega) (by omega)]
            refine cond_t rfl ⟨h0, by omega, _, ?_, rfl, rfl, by omega, by omega, by omega, by simpa using hm, ?_, hdrop _ ?_⟩
            · omega
            · rw [hnext, List.filter_append, ← ht, show (a + 1).toNat = a.toNat + 1 by omega, List.take_succ_eq_append_getElem (by simp; omega)]
              simp [hf, List.take_set, List.getElem_set]
              rw [List.set_eq_of_length_le (by simp; omega)]
            · rw [List.drop_set_of_lt (by omega)]; exact hd
        · have : j.toNat = s.length := by omega
          rw [this, List.take_length] at ht
          exact ⟨rfl, h0, by omega, hm, ht⟩

/-- The dials that count at a time. -/
def act (l : List (Int × Int)) (t : Int) : List (Int × Int) := l.filter fun d => decide (t < d.2 + 60)

def okL (l : List (Int × Int)) : Prop := l.length ≤ 100000 ∧ ∀ d ∈ l, 0 ≤ d.2 ∧ d.2 ≤ 1099511627776

theorem okL_act {l : List (Int × Int)} (h : okL l) (t : Int) : okL (act l t) :=
  ⟨Nat.le_trans (List.length_filter_le _ _) h.1, fun d hd => h.2 d (List.mem_filter.1 hd).1⟩

theorem on_wp {l : List (Int × Int)} {now t : Int} {K : List (Int × Int) → Int → Prop} (hl : okL l) (h0 : now ≤ t) (h1 : t ≤ 1099511627776) (h : K (act l t) t) : dialer_Server_on_wp l now t K := by
  unfold dialer_Server_on_wp
  have e : (if (1099511627776 : Int) < t then 1099511627776 else t) = t := by split <;> omega
  have e2 : (if t > now then t else now) = t := by split <;> omega
  rw [e, e2]
  refine delete_wp (fun d => decide (d.2 + 60 ≤ t)) (fun x hx K hK => ?_) (by have := hl.1; omega) ?_
  · unfold dialer_Server_on_c1_wp
    have := hl.2 x hx
    rw [wrap_i64 (by omega) (by omega)]
    exact hK
  · have : (l.filter fun x => !(decide (x.2 + 60 ≤ t))) = act l t := by
      unfold act
      apply List.filter_congr
      intro x _
      rw [Bool.eq_iff_iff]
      simp
    rw [this]
    exact h

def mayA (a : Int × Int) : Bool := a.1 != 0 && (decide (a.2 ≥ 1) && decide (a.2 ≤ 65535))

theorem may_wp {a b : Int} {K : Bool → Prop} (h : K (mayA (a, b))) : addr_May_wp a b K := by
  unfold addr_May_wp
  unfold mayA at h
  simp only at h
  refine cond_b (fun h1 => ?_) (fun h1 => ?_)
  · rw [h1] at h
    refine cond_b (fun h2 => ?_) (fun h2 => ?_)
    · rw [h2] at h; exact h
    · rw [h2] at h; exact h
  · rw [h1] at h; exact h

/-- The first address of a host. -/
def firstA (host : Int) (l : List (Int × Int)) : Option (Int × Int) := l.find? fun a => mayA a && a.1 == host

theorem first_wp {host : Int} {l : List (Int × Int)} {K : Int → Int → Bool → Prop} (hl : l.length ≤ 9223372036854775807) (h1 : ∀ a, firstA host l = some a → K a.1 a.2 true) (h2 : firstA host l = none → K 0 0 false) : dialer_first_wp host l K := by
  unfold dialer_first_wp
  refine joinP3.i ?_
  unfold dialer_fitting_wp dialer_fitting_c1_wp
  refine ⟨fun n i s => s = (0, false, 0, 0) ∧ n = l.length - i.toNat ∧ 0 ≤ i ∧ i ≤ l.length ∧ firstA host (l.take i.toNat) = none, ⟨_, rfl, rfl, by omega, by omega, rfl⟩, ?_⟩
  rintro n i s ⟨rfl, rfl, h0, hle, hnone⟩
  refine cond_d (fun hlt => ?_) (fun hge => .inl ⟨rfl, h2 ?_⟩)
  · have hi : i.toNat < l.length := by omega
    refine ⟨h0, hlt, fun x hx => ?_⟩
    rw [List.getElem?_eq_getElem hi] at hx
    cases hx
    have hsplit : l = l.take i.toNat ++ (l[i.toNat] :: l.drop (i.toNat + 1)) := by
      rw [← List.drop_eq_getElem_cons hi, List.take_append_drop]
    have go : (mayA l[i.toNat] && l[i.toNat].1 == host) = false → ∃ n', n' < l.length - i.toNat ∧ ((0, false, 0, 0) : Nat × Bool × Int × Int) = (0, false, 0, 0) ∧ n' = l.length - (IntKind.wrap .i64 (i + 1)).toNat ∧ 0 ≤ IntKind.wrap .i64 (i + 1) ∧
        IntKind.wrap .i64 (i + 1) ≤ l.length ∧ firstA host (l.take (IntKind.wrap .i64 (i + 1)).toNat) = none := by
      intro hb
      rw [wrap_i64 (x := i + 1) (by omega) (by omega)]
      refine ⟨_, by omega, rfl, rfl, by omega, by omega, ?_⟩
      rw [show (i + 1).toNat = i.toNat + 1 by omega, List.take_succ_eq_append_getElem hi]
      unfold firstA at hnone ⊢
      rw [List.find?_append, hnone]
      simp [hb]
    refine joinP2.i (may_wp (cond_b (fun hm => cond_e (fun he => ?_) (fun he => ?_)) (fun hm => ?_)))
    · refine ⟨rfl, cond_t rfl (.inr ⟨by simp, h1 l[i.toNat] ?_⟩)⟩
      rw [congrArg (firstA host) hsplit]
      unfold firstA at hnone ⊢
      rw [List.find?_append, hnone, List.find?_cons]
      have hm' : mayA l[i.toNat] = true := hm
      simp [hm', he]
    · exact cond_f rfl (go (by simp [he]))
    · exact cond_f rfl (go (by
        have hm' : mayA l[i.toNat] = false := hm
        simp [hm']))
  · have : i.toNat = l.length := by omega
    rwa [this, List.take_length] at hnone

/-- How many dials there are to a host; to all of 0. -/
def cnt (l : List (Int × Int)) (host : Int) : Int := (l.countP fun d => host == 0 || d.1 == host : Nat)

theorem count_wp {l : List (Int × Int)} {now host : Int} {K : Int → Prop} (hl : l.length ≤ 9223372036854775000) (h : K (cnt l host)) : dialer_Server_count_wp l now host K := by
  unfold dialer_Server_count_wp
  refine ⟨fun n c i => n = l.length - i.toNat ∧ 0 ≤ i ∧ i ≤ l.length ∧ c = cnt (l.take i.toNat) host, ⟨_, rfl, by omega, by omega, rfl⟩, ?_⟩
  rintro n c i ⟨rfl, h0, h1, rfl⟩
  have hc : 0 ≤ cnt (l.take i.toNat) host ∧ cnt (l.take i.toNat) host ≤ l.length := by
    unfold cnt
    have := List.countP_le_length (p := fun d : Int × Int => host == 0 || d.1 == host) (l := l.take i.toNat)
    rw [List.length_take] at this
    omega
  refine cond_d (fun hlt => ?_) (fun hge => ?_)
  · have hi : i.toNat < l.length := by omega
    refine ⟨h0, hlt, fun x hx => ?_⟩
    rw [List.getElem?_eq_getElem hi] at hx
    cases hx
    have hstep : cnt (l.take (i.toNat + 1)) host = cnt (l.take i.toNat) host + if (host == 0 || l[i.toNat].1 == host) = true then 1 else 0 := by
      unfold cnt
      rw [List.take_succ_eq_append_getElem hi, List.countP_append, List.countP_singleton]
      split <;> omega
    have yes : (host == 0 || l[i.toNat].1 == host) = true → ∃ n', n' < l.length - i.toNat ∧ n' = l.length - (IntKind.wrap .i64 (i + 1)).toNat ∧ 0 ≤ IntKind.wrap .i64 (i + 1) ∧ IntKind.wrap .i64 (i + 1) ≤ l.length ∧
        IntKind.wrap .i64 (cnt (l.take i.toNat) host + 1) = cnt (l.take (IntKind.wrap .i64 (i + 1)).toNat) host := by
      intro hb
      rw [wrap_i64 (x := i + 1) (by omega) (by omega), wrap_i64 (by omega) (by omega), show (i + 1).toNat = i.toNat + 1 by omega, hstep, if_pos hb]
      exact ⟨_, by omega, rfl, by omega, by omega, rfl⟩
    have no : (host == 0 || l[i.toNat].1 == host) = false → ∃ n', n' < l.length - i.toNat ∧ n' = l.length - (IntKind.wrap .i64 (i + 1)).toNat ∧ 0 ≤ IntKind.wrap .i64 (i + 1) ∧ IntKind.wrap .i64 (i + 1) ≤ l.length ∧
        cnt (l.take i.toNat) host = cnt (l.take (IntKind.wrap .i64 (i + 1)).toNat) host := by
      intro hb
      rw [wrap_i64 (x := i + 1) (by omega) (by omega), show (i + 1).toNat = i.toNat + 1 by omega, hstep, hb, if_neg (by simp)]
      exact ⟨_, by omega, rfl, by omega, by omega, by omega⟩
    refine joinP1.i (cond_b (fun hz => cond_t rfl (yes (by simp [hz]))) (fun hz => cond_b (fun he => yes (by simp [he])) (fun he => no (by simp [hz, he]))))
  · have : i.toNat = l.length := by omega
    rw [this, List.take_length]
    exact h

/-- What an Ask does. -/
theorem ask_wp {l : List (Int × Int)} {now t from_ cost : Int} {addrs : List (Int × Int)} {K : Int → Int → Int → Int → List (Int × Int) → Int → Prop} (hl : okL l) (hlen : l.length ≤ 1000) (ha : addrs.length ≤ 9223372036854775807)
    (harg : (from_ = 0 ∨ t < now ∨ t > 1099511627776 ∨ cost < 0 ∨ (addrs.length : Int) > 8) → K 0 0 0 1 l now)
    (hok : from_ ≠ 0 → now ≤ t → t ≤ 1099511627776 → 0 ≤ cost → (addrs.length : Int) ≤ 8 →
      (firstA from_ addrs = none → K 0 0 0 13 (act l t) t) ∧
      ∀ a, firstA from_ addrs = some a → (3 ≤ cnt (act l t) from_ ∨ 30 ≤ cnt (act l t) 0 → K 0 0 0 7 (act l t) t) ∧
        (cnt (act l t) from_ < 3 → cnt (act l t) 0 < 30 → K a.1 a.2 (min cost 1200) 0 (act l t ++ [(from_, t)]) t)) :
    dialer_Server_Ask_wp l now t from_ addrs cost K := by
  unfold dialer_Server_Ask_wp
  refine joinP1.i ?_
  refine cond_e (fun h => cond_t rfl (harg (.inl h))) (fun hf => cond_d (fun h => cond_t rfl (harg (.inr (.inl h)))) (fun h1 => cond_d (fun h => cond_t rfl (harg (.inr (.inr (.inl h))))) (fun h2 =>
    cond_d (fun h => cond_t rfl (harg (.inr (.inr (.inr (.inl h)))))) (fun h3 => cond_d (fun h => harg (.inr (.inr (.inr (.inr h))))) (fun h4 => ?_)))))
  obtain ⟨hn, hs⟩ := hok hf (by omega) (by omega) (by omega) (by omega)
  have hA := okL_act hl t
  have hAl : (act l t).length ≤ 1000 := Nat.le_trans (List.length_filter_le _ _) hlen
  refine on_wp hl (by omega) (by omega) (first_wp ha (fun a haa => ?_) (fun hnone => cond_t rfl (hn hnone)))
  obtain ⟨hd, ho⟩ := hs a haa
  refine cond_f rfl (joinP1.i (count_wp (by omega) (cond_d (fun h => cond_t rfl (hd (.inl h))) (fun hc => count_wp (by omega) (cond_d (fun h => hd (.inr h)) (fun hc2 => ⟨by simp; omega, ?_⟩))))))
  have e : (if (1200 : Int) < cost then 1200 else cost) = min cost 1200 := by split <;> omega
  rw [e]
  exact ho (by omega) (by omega)

theorem awake_wp {K : Bool → Prop} (h : K true) : embrasurelaw20_awake_wp K := by
  unfold embrasurelaw20_awake_wp dialer_New_wp
  refine cond_f rfl (ask_wp ⟨by simp, by simp⟩ (by simp) (by simp) (fun h => absurd h (by simp)) (fun _ _ _ _ _ => ⟨fun hn => absurd hn (by decide), fun a ha => ⟨fun h => absurd h (by decide), fun _ _ => ?_⟩⟩))
  have ea : a = (9, 5) := by
    have : firstA 9 [(8, 1), (9, 5)] = some (9, 5) := by decide
    rw [this] at ha
    exact (Option.some.inj ha).symm
  subst ea
  have e1 : act [] 1 ++ [((9 : Int), (1 : Int))] = [(9, 1)] := rfl
  rw [e1]
  refine ask_wp ⟨by simp, by simp⟩ (by simp) (by simp) (fun h => absurd h (by simp)) (fun _ _ _ _ _ => ⟨fun _ => ?_, fun a ha => absurd ha (by rw [show firstA 9 [((8 : Int), (1 : Int))] = none by decide]; simp)⟩)
  have e2 : act [((9 : Int), (1 : Int))] 1 = [(9, 1)] := by decide
  rw [e2]
  refine cond_t rfl (cond_t rfl (cond_t rfl (cond_t rfl ?_)))
  unfold dialer_Server_Count_wp
  refine on_wp ⟨by simp, by simp⟩ (by omega) (by omega) (count_wp (by simp [act]) ?_)
  have e3 : act [((9 : Int), (1 : Int))] 60 = [(9, 1)] := by decide
  rw [e3]
  refine cond_t rfl (on_wp ⟨by simp, by simp⟩ (by omega) (by omega) (count_wp (by simp [act]) ?_))
  have e4 : act [((9 : Int), (1 : Int))] 61 = [] := by decide
  rw [e4]
  exact h

end Go.Proofs.Ytpppoicobkmlgaa
