/- The plain side of the statements on rtt. -/
import Derived.Test.YtffjmcfcfdnbkaaL
import Derived.Test.YtffjmcfcfdnbkaaEngP
import Derived.Test.YtffjmcfcfdnbkaaEngR
namespace Go.Proofs.Ytffjmcfcfdnbkaa
open Go Go.Eng

theorem index_wp {σ : Type} {s : List (Int × Int)} {st : σ} {Y : (Int × Int) → σ → (Bool → σ → Prop) → Prop} {K : Int → σ → Prop} (f : Int × Int → Bool) (hY : ∀ x st K, K (f x) st → Y x st K)
    (hl : s.length ≤ 9223372036854775807) (hK : K (idx f s) st) : slices_IndexFunc_sl_rtt_mark_rtt_mark_wp s st Y K := by
  unfold slices_IndexFunc_sl_rtt_mark_rtt_mark_wp
  refine ⟨fun n i s' => s' = st ∧ 0 ≤ i ∧ i ≤ s.length ∧ n = s.length - i.toNat ∧ ∀ j (h : j < s.length), j < i.toNat → f s[j] = false, ⟨_, rfl, by omega, by omega, rfl, by omega⟩, ?_⟩
  rintro n i s' ⟨rfl, h0, h1, rfl, hj⟩
  refine cond_d (fun hlt => ?_) (fun hge => ?_)
  · refine ⟨h0, hlt, fun x hx => hY _ _ _ ?_⟩
    have hi : i.toNat < s.length := by omega
    rw [List.getElem?_eq_getElem hi] at hx
    cases hx
    refine cond_b (fun hf => ?_) (fun hf => ?_)
    · have : idx f s = i := by
        unfold idx
        rw [List.findIdx?_eq_some_iff_getElem.2 ⟨hi, hf, fun j hj' => by simpa using hj j (by omega) hj'⟩]
        simp only
        omega
      rw [this] at hK
      exact hK
    · refine ⟨_, ?_, rfl, ?_, ?_, rfl, ?_⟩
      all_goals rw [wrap_i64 (by omega) (by omega)]
      · omega
      · omega
      · omega
      · intro j h hj'
        by_cases e : j = i.toNat
        · subst e; exact hf
        · exact hj j h (by omega)
  · have : idx f s = -1 := by
      unfold idx
      have : s.findIdx? f = none := by
        rw [List.findIdx?_eq_none_iff]
        intro x hx
        obtain ⟨j, h, rfl⟩ := List.getElem_of_mem hx
        exact hj j h (by omega)
      rw [this]
    rw [this] at hK
    exact hK

def pos (l : List (Int × Int)) (no : Int) : Int := idx (fun x => x.1 == no) l

theorem place_wp {l : List (Int × Int)} {mean dev no : Int} {any : Bool} {K : Int → Prop} (hl : l.length ≤ 9223372036854775807) (h : K (pos l no)) : rtt_Meter_place_wp l mean dev any no K := by
  unfold rtt_Meter_place_wp
  exact index_wp (fun x => x.1 == no) (fun x st K h => h) hl h

theorem drop_wp {l : List (Int × Int)} {mean dev i : Int} {any : Bool} {K : List (Int × Int) → Prop} (hl : l.length ≤ 1000) (h0 : 0 ≤ i) (h1 : i < l.length) (h : K (l.eraseIdx i.toNat)) : rtt_Meter_drop_wp l mean dev any i K := by
  unfold rtt_Meter_drop_wp
  rw [wrap_i64 (by omega) (by omega)]
  refine ⟨h0, by omega, h0, by omega, by omega, by omega, ?_, ?_⟩
  · simp
    omega
  · have e : (i + 1).toNat = i.toNat + 1 := by omega
    rw [e, List.drop_zero, List.take_length, ← List.eraseIdx_eq_take_drop_succ]
    exact h

theorem way_wp {mean dev : Int} {any : Bool} {K : Int → Prop} (h0 : 0 ≤ mean) (h1 : mean ≤ 1000000) (h : K (mean / 8)) : rtt_Meter_Way_wp mean dev any K := by
  unfold rtt_Meter_Way_wp
  rw [tdiv_pos h0, wrap_i64 (by omega) (by omega)]
  exact h

def wait (mean dev : Int) (any : Bool) : Int := if any then min (max (IntKind.wrap .i64 (mean / 8 + dev)) 2) 10000 else 20

theorem wait_wp {mean dev : Int} {any : Bool} {K : Int → Prop} (h0 : 0 ≤ mean) (h1 : mean ≤ 1000000) (h : K (wait mean dev any)) : rtt_Meter_Wait_wp mean dev any K := by
  unfold rtt_Meter_Wait_wp
  cases any with
  | false => exact h
  | true =>
    simp only [Bool.not_true, cond_false]
    refine way_wp h0 h1 ?_
    simp only [wait, if_true] at h
    generalize IntKind.wrap .i64 (mean / 8 + dev) = x at h ⊢
    have e : (if (10000 : Int) < (if (2 : Int) > x then 2 else x) then 10000 else (if (2 : Int) > x then 2 else x)) = min (max x 2) 10000 := by
      split <;> split at * <;> omega
    rw [e]
    exact h

theorem wait_bounds (mean dev : Int) (any : Bool) : 2 ≤ wait mean dev any ∧ wait mean dev any ≤ 10000 := by
  unfold wait
  split <;> omega

theorem pos_new (no : Int) : pos [] no = -1 := rfl

/-- What a Sent makes of the marks. -/
def sentL (l : List (Int × Int)) (no now : Int) : List (Int × Int) :=
  let a := if 0 ≤ pos l no then l.eraseIdx (pos l no).toNat else l
  let b := a ++ [(no, now)]
  if 30 < b.length then b.eraseIdx 0 else b

theorem pos_lt (l : List (Int × Int)) (no : Int) (h : 0 ≤ pos l no) : pos l no < l.length := by
  unfold pos idx at *
  split at h
  · rename_i i hi
    have := (List.findIdx?_eq_some_iff_getElem.1 hi).1
    omega
  · omega

theorem sent_wp {l : List (Int × Int)} {mean dev now no : Int} {any : Bool} {K : Int → List (Int × Int) → Prop} (hl : l.length ≤ 100) (h0 : 0 ≤ now) (h1 : now ≤ 1099511627776) (h : K 0 (sentL l no now)) :
    rtt_Meter_Sent_wp l mean dev any now no K := by
  unfold rtt_Meter_Sent_wp
  refine joinP1.i ?_
  rw [show decide (now < 0) = false by simpa using h0, show decide (now > 1099511627776) = false by simpa using h1]
  simp only [cond_false]
  refine ⟨fun m => m = if 0 ≤ pos l no then l.eraseIdx (pos l no).toNat else l, ?_, ?_⟩
  · rintro m rfl
    generalize ha : (if 0 ≤ pos l no then l.eraseIdx (pos l no).toNat else l) = a
    have hal : a.length ≤ l.length := by
      rw [← ha]
      split
      · exact List.length_eraseIdx_le _ _
      · exact Nat.le_refl _
    unfold sentL at h
    rw [ha] at h
    simp only at h
    refine ⟨by simp; omega, cond_d (fun hgt => ?_) (fun hle => ?_)⟩
    · rw [if_pos (by omega)] at h
      exact drop_wp (by simp; omega) (by omega) (by simp) h
    · rw [if_neg (by omega)] at h
      exact h
  · refine place_wp (by omega) (cond_d (fun hge => ?_) (fun hlt => ?_))
    · exact drop_wp (by omega) hge (pos_lt l no hge) (by rw [if_pos hge])
    · rw [if_neg (by omega)]

def sampleM (mean s : Int) (any : Bool) : Int := if any then mean + (s - mean / 8) else 8 * s
def sampleD (mean dev s : Int) (any : Bool) : Int :=
  if any then IntKind.wrap .i64 (dev + IntKind.wrap .i64 (max (s - mean / 8) (0 - (s - mean / 8)) - IntKind.wrap .i64 (Int.tdiv dev 4))) else 2 * s

theorem sample_wp {mean dev s : Int} {any : Bool} {K : Int → Int → Bool → Prop} (h0 : 0 ≤ mean) (h1 : mean ≤ 80007) (h2 : 0 ≤ s) (h3 : s ≤ 10000) (h : K (sampleM mean s any) (sampleD mean dev s any) true) :
    rtt_Meter_sample_wp mean dev any s K := by
  unfold rtt_Meter_sample_wp
  cases any with
  | false =>
    simp only [Bool.not_false, cond_true]
    rw [wrap_i64 (x := 8 * s) (by omega) (by omega), wrap_i64 (x := 2 * s) (by omega) (by omega)]
    exact h
  | true =>
    simp only [Bool.not_true, cond_false, rtt_abs_wp]
    rw [tdiv_pos h0, wrap_i64 (x := mean / 8) (by omega) (by omega), wrap_i64 (x := s - mean / 8) (by omega) (by omega), wrap_i64 (x := mean + (s - mean / 8)) (by omega) (by omega), wrap_i64 (x := 0 - (s - mean / 8)) (by omega) (by omega)]
    have e : (if 0 - (s - mean / 8) > s - mean / 8 then 0 - (s - mean / 8) else s - mean / 8) = max (s - mean / 8) (0 - (s - mean / 8)) := by split <;> omega
    rw [e]
    exact h

theorem got_wp {l : List (Int × Int)} {mean dev now no : Int} {any : Bool} {K : Int → Int → List (Int × Int) → Int → Int → Bool → Prop} (hl : l.length ≤ 1000) (h0 : 0 ≤ mean) (h1 : mean ≤ 80007) (hn0 : 0 ≤ now) (hn : now ≤ 1099511627776)
    (hnone : pos l no < 0 → K 0 5 l mean dev any)
    (hsome : ∀ x, 0 ≤ pos l no → l[(pos l no).toNat]? = some x → 0 ≤ x.2 ∧ x.2 ≤ now ∧ K (min (now - x.2) 10000) 0 (l.eraseIdx (pos l no).toNat) (sampleM mean (min (now - x.2) 10000) any) (sampleD mean dev (min (now - x.2) 10000) any) true) :
    rtt_Meter_Got_wp l mean dev any now no K := by
  unfold rtt_Meter_Got_wp
  refine place_wp (by omega) (cond_d (fun hlt => hnone hlt) (fun hge => ?_))
  have hp0 : 0 ≤ pos l no := by omega
  have hp1 := pos_lt l no hp0
  have hp : (pos l no).toNat < l.length := by omega
  obtain ⟨hx0, hx1, hK⟩ := hsome _ hp0 (List.getElem?_eq_getElem hp)
  refine joinP1.i ⟨hp0, hp1, fun x hx => ?_⟩
  rw [List.getElem?_eq_getElem hp] at hx
  cases hx
  rw [show decide (now < (l[(pos l no).toNat]).2) = false by simpa using hx1, show decide (now > 1099511627776) = false by simpa using hn]
  simp only [cond_false]
  refine ⟨hp0, hp1, fun x hx => ?_⟩
  rw [List.getElem?_eq_getElem hp] at hx
  cases hx
  refine drop_wp hl hp0 hp1 ?_
  have e : (if (10000 : Int) < now - (l[(pos l no).toNat]).2 then 10000 else now - (l[(pos l no).toNat]).2) = min (now - (l[(pos l no).toNat]).2) 10000 := by
    split <;> omega
  rw [wrap_i64 (by omega) (by omega), e]
  exact sample_wp h0 h1 (by omega) (by omega) hK

theorem awake_wp {K : Bool → Prop} (h : K true) : embrasurelaw26_awake_wp K := by
  unfold embrasurelaw26_awake_wp rtt_New_wp
  simp only [cond_false]
  refine wait_wp (by omega) (by omega) (sent_wp (by simp) (by omega) (by omega) ?_)
  have e1 : sentL [] 1 5 = [(1, 5)] := rfl
  rw [e1]
  refine got_wp (by simp) (by omega) (by omega) (by omega) (by omega) (fun h => absurd h (by decide)) (fun x hx hxx => ?_)
  have e2 : pos [((1 : Int), (5 : Int))] 1 = 0 := rfl
  rw [e2] at hxx
  cases hxx
  refine ⟨by decide, by decide, ?_⟩
  have e3 : ([((1 : Int), (5 : Int))] : List (Int × Int)).eraseIdx (pos [(1, 5)] 1).toNat = [] := rfl
  rw [e3]
  have e4 : sampleM 0 (min (25 - 5) 10000) false = 160 := rfl
  have e5 : sampleD 0 0 (min (25 - 5) 10000) false = 40 := rfl
  rw [e4, e5]
  refine got_wp (by simp) (by omega) (by omega) (by omega) (by omega) (fun _ => ?_) (fun x hx => absurd hx (by decide))
  refine cond_t rfl (cond_t rfl (cond_t rfl (cond_t rfl (way_wp (by omega) (by omega) (cond_t rfl (wait_wp (by omega) (by omega) ?_))))))
  exact h

theorem rttBounds_plain {samples : List Int} (hs : ∀ x ∈ samples, Eng.inK .u16 x) (_ : samples.length ≤ 9223372036854775807) : embrasurelaw26_RttBounds_wp samples (· = true) := by
  unfold embrasurelaw26_RttBounds_wp
  refine awake_wp ?_
  unfold rtt_New_wp
  refine cond_f rfl ?_
  refine ⟨fun n marks mean dev any least greatest i => n = 150 - i.toNat ∧ 0 ≤ i ∧ i ≤ 150 ∧ marks = [] ∧
    (any = false ∧ mean = 0 ∧ least = 1048576 ∧ greatest = 0 ∨ any = true ∧ 0 ≤ least ∧ greatest ≤ 10000 ∧ 8 * least ≤ mean ∧ mean ≤ 8 * greatest + 7), ⟨150, by omega, by omega, by omega, rfl, .inl ⟨rfl, rfl, rfl, rfl⟩⟩, ?_⟩
  rintro n marks mean dev any least greatest i ⟨rfl, hi0, hi1, rfl, hinv⟩
  refine joinP1.i (cond_d (fun hlt => cond_d (fun h150 => ?_) (fun _ => rfl)) (fun _ => rfl))
  refine ⟨hi0, hlt, fun x hx => ?_⟩
  have hx' : 0 ≤ x ∧ x ≤ 65535 := hs x (List.mem_of_getElem? hx)
  have hm : 0 ≤ mean ∧ mean ≤ 80007 := by omega
  have e1 : sentL [] 7 0 = [(7, 0)] := rfl
  refine sent_wp (by simp) (by omega) (by omega) ?_
  rw [e1, wrap_i64 (by omega) (by omega), tmod_pos (by omega)]
  refine got_wp (by simp) hm.1 hm.2 (by omega) (by omega) (fun h => absurd h (by decide)) (fun y _ hy => ?_)
  have e2 : pos [((7 : Int), (0 : Int))] 7 = 0 := rfl
  rw [e2] at hy
  cases hy
  refine ⟨by decide, by omega, ?_⟩
  have e3 : ([((7 : Int), (0 : Int))] : List (Int × Int)).eraseIdx (pos [(7, 0)] 7).toNat = [] := rfl
  have e4 : min (x % 10001 - ((7 : Int), (0 : Int)).2) 10000 = x % 10001 := by simp only; omega
  rw [e3, e4]
  generalize hS : x % 10001 = s
  generalize sampleD mean dev s any = d
  have hb := wait_bounds (sampleM mean s any) d true
  have hsm : 0 ≤ s ∧ s ≤ 10000 := by omega
  have e5 : (if s < least then s else least) = min s least := by split <;> omega
  have e6 : (if s > greatest then s else greatest) = max s greatest := by split <;> omega
  rw [e5, e6]
  have hM : 8 * min s least ≤ sampleM mean s any ∧ sampleM mean s any ≤ 8 * max s greatest + 7 := by
    unfold sampleM
    rcases hinv with ⟨rfl, rfl, rfl, rfl⟩ | ⟨rfl, hL, hG, h1, h2⟩
    · simp only [Bool.false_eq_true, if_false]; omega
    · simp only [if_true]; omega
  have hLG : 0 ≤ min s least ∧ max s greatest ≤ 10000 := by omega
  clear hinv
  refine joinP1.i (way_wp (by omega) (by omega) (cond_d (fun h => by omega) (fun _ => way_wp (by omega) (by omega) (cond_d (fun h => by omega) (fun _ => wait_wp (by omega) (by omega)
    (cond_d (fun h => by omega) (fun _ => wait_wp (by omega) (by omega) ?_)))))))
  refine cond_d (fun h => by omega) (fun _ => ⟨_, ?_, rfl, ?_, ?_, rfl, .inr ⟨rfl, hLG.1, hLG.2, hM.1, hM.2⟩⟩)
  all_goals rw [wrap_i64 (by omega) (by omega)]
  all_goals omega

end Go.Proofs.Ytffjmcfcfdnbkaa
