/- The plain side of the statements on circuits: each function's answer. -/
import Derived.Test.YtjcebofaahbifaaL
import Derived.Test.YtjcebofaahbifaaEngV
import Derived.Test.YtjcebofaahbifaaEngR
namespace Go.Proofs.Ytjcebofaahbifaa
open Go Go.Eng

/-- A circuit: its number, its ends, till when, how many bytes went each way. -/
abbrev Ci := Int × Int × Int × Int × Int × Int

theorem dec_key {P : Prop} [Decidable P] {K : Bool → Prop} (hK : K (decide P)) (b : Bool) (h : b = true ↔ P) : K b := by
  have : decide P = b := by
    cases b with
    | true => simpa using h.1 rfl
    | false => simp only [decide_eq_false_iff_not]; intro hp; exact absurd (h.2 hp) (by simp)
  rwa [← this]

def mayL (r p c li du da : Int) : Prop := (0 ≤ r ∧ r ≤ 100) ∧ (0 ≤ p ∧ p ≤ 100) ∧ (0 ≤ c ∧ c ≤ 100) ∧ (1 ≤ li ∧ li ≤ 1099511627776) ∧ (1 ≤ du ∧ du ≤ 1099511627776) ∧ (0 ≤ da ∧ da ≤ 1073741824)

instance {r p c li du da : Int} : Decidable (mayL r p c li du da) := by unfold mayL; infer_instance

theorem within_wp {n m : Int} {K : Bool → Prop} (hK : K (decide (0 ≤ n ∧ n ≤ m))) : resv_within_wp n m K := by
  unfold resv_within_wp
  refine cond_d (fun a => ?_) (fun a => ?_)
  all_goals refine dec_key hK _ ?_
  all_goals simp only [decide_eq_true_eq, Bool.false_eq_true]
  all_goals constructor <;> intro hh <;> first | omega | exact hh.elim

theorem may_wp {r p c li du da : Int} {K : Bool → Prop} (hK : K (decide (mayL r p c li du da))) : resv_May_wp r p c li du da K := by
  unfold resv_May_wp
  refine ⟨fun t => (t = true ↔ (1 ≤ li ∧ li ≤ 1099511627776) ∧ (1 ≤ du ∧ du ≤ 1099511627776)), fun t ht => ?_, ?_⟩
  · refine within_wp (cond_d (fun a => within_wp (cond_d (fun b => within_wp (cond_d (fun c' => cond_b (fun d => within_wp ?_) (fun d => ?_)) (fun c' => ?_))) (fun b => ?_))) (fun a => ?_))
    all_goals refine dec_key hK _ ?_
    · have := ht.1 d
      unfold mayL
      simp only [decide_eq_true_eq]
      constructor
      · intro e; exact ⟨a, b, c', this.1, this.2, e⟩
      · intro e; exact e.2.2.2.2.2
    · unfold mayL
      simp only [Bool.false_eq_true, false_iff]
      intro e
      rw [ht.2 ⟨e.2.2.2.1, e.2.2.2.2.1⟩] at d
      cases d
    · unfold mayL; simp only [Bool.false_eq_true, false_iff]; intro e; exact c' e.2.2.1
    · unfold mayL; simp only [Bool.false_eq_true, false_iff]; intro e; exact b e.2.1
    · unfold mayL; simp only [Bool.false_eq_true, false_iff]; intro e; exact a e.1
  · refine cond_d (fun a => cond_d (fun b => cond_d (fun c' => ?_) (fun c' => ?_)) (fun b => ?_)) (fun a => ?_)
    all_goals simp only [decide_eq_true_eq, Bool.false_eq_true, false_iff]
    all_goals omega

theorem new_wp {r p c li du da : Int} {K : Int → Prop} {KX : Int → Int → Int → Int → Int → Int → Int → List Ci → List Ci → Int → Int → Prop} (h0 : ¬ mayL r p c li du da → K 1) (h1 : mayL r p c li du da → KX 0 r p c li du da [] [] 0 0) : circ_New_wp r p c li du da K KX := by
  unfold circ_New_wp
  refine may_wp ?_
  by_cases h : mayL r p c li du da
  · simp only [h, decide_true]; exact h1 h
  · simp only [h, decide_false]; exact h0 h

/-- The time that it is. -/
def nowOn (now t : Int) : Int := if (if (1099511627776 : Int) < t then 1099511627776 else t) > now then (if (1099511627776 : Int) < t then 1099511627776 else t) else now

theorem nowOn_eq {now t : Int} (h0 : now ≤ t) (h1 : t ≤ 1099511627776) : nowOn now t = t := by
  unfold nowOn
  have e : (if (1099511627776 : Int) < t then 1099511627776 else t) = t := by split <;> omega
  rw [e]
  split <;> omega

theorem nowOn_le {now t : Int} (h0 : now ≤ 1099511627776) : nowOn now t ≤ 1099511627776 := by
  unfold nowOn
  split <;> split <;> omega

theorem index_wp {σ : Type} {s : List Ci} {st : σ} {Y : Ci → σ → (Bool → σ → Prop) → Prop} {K : Int → σ → Prop} (f : Ci → Bool) (hY : ∀ x ∈ s, ∀ K : Bool → σ → Prop, K (f x) st → Y x st K)
    (hl : s.length ≤ 9223372036854775807) (hK : K (idx f s) st) : slices_IndexFunc_sl_api_Circuit_api_Circuit_wp s st Y K := indexFuncC f hY hl hK

theorem delete_wp {s : List Ci} {i j : Int} {K : List Ci → Prop} (h0 : 0 ≤ i) (h1 : i ≤ j) (h2 : j ≤ s.length) (hK : K (s.take i.toNat ++ s.drop j.toNat)) : slices_Delete_sl_api_Circuit_api_Circuit_wp s i j K := deleteG h0 h1 h2 hK

theorem delf_wp {σ : Type} {s : List Ci} {Y : Ci → σ → (Bool → σ → Prop) → Prop} {K : List Ci → σ → Prop} (f : Ci → Bool) (st : Nat → σ) {s0 : σ} (h0 : s0 = st 0)
    (hY : ∀ (i : Nat) (h : i < s.length) (K : Bool → σ → Prop), K (f s[i]) (st (i + 1)) → Y s[i] (st i) K)
    (hl : s.length ≤ 9223372036854775000) (hK : K (s.filter fun x => !(f x)) (st s.length)) : slices_DeleteFunc_sl_api_Circuit_api_Circuit_wp s s0 Y K := by
  subst h0
  exact deleteFuncS (x0 := ((0, 0, 0, 0, 0, 0) : Ci)) f st hY hl hK

/-- Whether it is over. -/
def over (n : Int) (c : Ci) : Bool := !decide (c.2.2.2.1 > n)

theorem on_wp {l1 l2 l3 l4 l5 l6 last now t : Int} {list gone : List Ci} {K : List Ci → List Ci → Int → Prop} (hb : list.length + gone.length ≤ 1000000000)
    (hK : K (list.filter fun c => !over (nowOn now t) c) (gone ++ list.filter (over (nowOn now t))) (nowOn now t)) : circ_Table_on_wp l1 l2 l3 l4 l5 l6 list gone last now t K := by
  unfold circ_Table_on_wp
  refine delf_wp (over (nowOn now t)) (fun i => gone ++ (list.take i).filter (over (nowOn now t))) (by simp) (fun i hi K' hK' => ?_) (by omega) ?_
  · show circ_Table_on_c1_wp _ _ _ _ _ _ _ _ _ _ _ _ (gone ++ (list.take i).filter (over (nowOn now t))) _ (nowOn now t) K'
    unfold circ_Table_on_c1_wp
    have hn : (list.take (i + 1)).filter (over (nowOn now t)) = (list.take i).filter (over (nowOn now t)) ++ (if over (nowOn now t) list[i] then [list[i]] else []) := by
      rw [List.take_succ_eq_append_getElem hi, List.filter_append]
      congr 1
      cases h : over (nowOn now t) list[i] <;> simp [h]
    rw [hn] at hK'
    have hlen := List.length_filter_le (over (nowOn now t)) (list.take i)
    rw [List.length_take] at hlen
    refine cond_d (fun h => ?_) (fun h => ⟨?_, ?_⟩)
    · have e : over (nowOn now t) list[i] = false := by unfold over; simp only [h, decide_true]; rfl
      rw [e] at hK'
      simpa using hK'
    · simp only [List.length_append, List.length_cons, List.length_nil]; omega
    · have e : over (nowOn now t) list[i] = true := by unfold over; simp only [h, decide_false]; rfl
      rw [e] at hK'
      rw [if_pos rfl, ← List.append_assoc] at hK'
      exact hK'
  · show K _ _ (nowOn now t)
    rw [List.take_length]
    exact hK

theorem peer_wp {n : Int} {K : Bool → Prop} (hK : K (decide (1 ≤ n ∧ n ≤ 2147483647))) : circ_mayPeer_wp n K := by
  unfold circ_mayPeer_wp
  refine cond_d (fun a => ?_) (fun a => ?_)
  all_goals refine dec_key hK _ ?_
  all_goals simp only [decide_eq_true_eq, Bool.false_eq_true]
  all_goals constructor <;> intro hh <;> first | omega | exact hh.elim

/-- Whether a circuit is between two. -/
def btw (a b : Int) (c : Ci) : Bool := decide (c.2.1 = a ∧ c.2.2.1 = b ∨ c.2.1 = b ∧ c.2.2.1 = a)

theorem between_wp {c : Ci} {a b : Int} {K : Bool → Prop} (hK : K (btw a b c)) : circ_Table_Open_c1_wp c.1 c.2.1 c.2.2.1 c.2.2.2.1 c.2.2.2.2.1 c.2.2.2.2.2 a b K := by
  unfold circ_Table_Open_c1_wp
  unfold btw at hK
  refine cond_e (fun h1 => cond_e (fun h2 => ?_) (fun h2 => cond_e (fun h3 => ?_) (fun h3 => ?_))) (fun h1 => cond_e (fun h3 => ?_) (fun h3 => ?_))
  all_goals refine dec_key hK _ ?_
  all_goals simp only [beq_iff_eq, Bool.false_eq_true, true_iff, false_iff]
  all_goals omega

theorem contains_wp {s : List Ci} {a b : Int} {K : Bool → Unit → Prop} (hl : s.length ≤ 9223372036854775807) (hK : K (s.any (btw a b)) ()) :
    slices_ContainsFunc_sl_api_Circuit_api_Circuit_wp s () (fun x_1 s K_1 => circ_Table_Open_c1_wp x_1.1 x_1.2.1 x_1.2.2.1 x_1.2.2.2.1 x_1.2.2.2.2.1 x_1.2.2.2.2.2 a b (fun (r : Bool) => K_1 r s)) K := by
  unfold slices_ContainsFunc_sl_api_Circuit_api_Circuit_wp
  refine index_wp (btw a b) (fun x _ K hk => between_wp hk) hl ?_
  have e : decide ((idx (btw a b) s : Int) ≥ 0) = s.any (btw a b) := by
    rcases idx_cases (btw a b) s with ⟨e, h⟩ | ⟨i, e, hi, hf, -⟩
    · rw [e]
      symm
      simpa using h
    · rw [e]
      have : s.any (btw a b) = true := List.any_eq_true.2 ⟨s[i], List.getElem_mem hi, hf hi⟩
      rw [this]
      simp
  rw [e]
  exact hK

/-- Whether an opening may be. -/
def mayO (now t a b u : Int) : Prop := (1 ≤ a ∧ a ≤ 2147483647) ∧ (1 ≤ b ∧ b ≤ 2147483647) ∧ a ≠ b ∧ t < u ∧ now ≤ t ∧ t ≤ 1099511627776

theorem open_wp {l1 l2 l3 l4 l5 l6 last now t a b u : Int} {list gone : List Ci} {K : Int → Int → List Ci → List Ci → Int → Int → Prop} (hb : list.length + gone.length ≤ 1000000000) (h0 : 0 ≤ last ∧ last ≤ 1000000000) (h5 : 0 ≤ l5 ∧ l5 ≤ 1099511627776) (hn : 0 ≤ now)
    (h1 : ¬ mayO now t a b u → K 0 1 list gone last now)
    (h2 : mayO now t a b u → (list.filter fun c => !over t c).any (btw a b) = true → K 0 6 (list.filter fun c => !over t c) (gone ++ list.filter (over t)) last t)
    (h3 : mayO now t a b u → (list.filter fun c => !over t c).any (btw a b) = false → (list.filter fun c => !over t c).length ≥ l3 → K 0 10 (list.filter fun c => !over t c) (gone ++ list.filter (over t)) last t)
    (h4 : mayO now t a b u → (list.filter fun c => !over t c).any (btw a b) = false → (list.filter fun c => !over t c).length < l3 →
      K (last + 1) 0 ((list.filter fun c => !over t c) ++ [(last + 1, a, b, if t + l5 < u then t + l5 else u, 0, 0)]) (gone ++ list.filter (over t)) (last + 1) t) :
    circ_Table_Open_wp l1 l2 l3 l4 l5 l6 list gone last now t a b u K := by
  unfold circ_Table_Open_wp
  refine ⟨fun x => (x = true ↔ ¬ mayO now t a b u), fun x hx => ?_, ?_⟩
  · refine cond_b (fun e => h1 (hx.1 e)) (fun e => ?_)
    have hm : mayO now t a b u := Classical.byContradiction fun hc => by rw [hx.2 hc] at e; cases e
    have en := nowOn_eq hm.2.2.2.2.1 hm.2.2.2.2.2
    have hm2 := hm
    unfold mayO at hm2
    refine on_wp hb ?_
    rw [en]
    have hfl := List.length_filter_le (fun c => !over t c) list
    refine contains_wp (by omega) (cond_b (fun hc => h2 hm hc) (fun hc => cond_d (fun hf => h3 hm hc hf) (fun hf => ?_)))
    rw [wrap_i64 (x := last + 1) (by omega) (by omega), wrap_i64 (x := t + l5) (by omega) (by omega)]
    exact ⟨by simp only [List.length_cons, List.length_nil]; omega, h4 hm hc (by omega)⟩
  · refine peer_wp (cond_b (fun e1 => ?_) (fun e1 => peer_wp (cond_b (fun e2 => ?_) (fun e2 => cond_e (fun e3 => ?_) (fun e3 => cond_d (fun e4 => ?_) (fun e4 => cond_d (fun e5 => ?_) (fun e5 => ?_)))))))
    all_goals simp only [Bool.not_eq_true', decide_eq_false_iff_not, Bool.not_eq_false', decide_eq_true_eq, true_iff] at *
    all_goals unfold mayO
    all_goals omega

theorem place_wp {l1 l2 l3 l4 l5 l6 last now no : Int} {list : List Ci} {K : Int → Prop} (hl : list.length ≤ 9223372036854775807) (hK : K (idx (fun c : Ci => c.1 == no) list)) : circ_Table_place_wp l1 l2 l3 l4 l5 l6 list last now no K := by
  unfold circ_Table_place_wp
  exact index_wp (fun c : Ci => c.1 == no) (fun x _ K hk => hk) hl hK

/-- What a forwarding answers, behind the time's going on. -/
def fwdK (data no fr size : Int) (list gone : List Ci) (now : Int) (K : Int → Int → List Ci → List Ci → Int → Prop) : Prop :=
  ((∀ c ∈ list, c.1 ≠ no) → K 0 5 list gone now) ∧
  ∀ (i : Nat) (c : Ci), list[i]? = some c → c.1 = no → (∀ (j : Nat) (d : Ci), j < i → list[j]? = some d → d.1 ≠ no) →
    (c.2.1 ≠ fr → c.2.2.1 ≠ fr → K 0 5 list gone now) ∧ (c.2.1 = fr ∨ c.2.2.1 = fr →
      (size < 0 → K 0 1 list gone now) ∧ (0 ≤ size →
        (fr = c.2.2.1 → (data - c.2.2.2.2.2 < size → K 0 4 (list.eraseIdx i) gone now) ∧ (size ≤ data - c.2.2.2.2.2 → K c.2.1 0 (list.set i (c.1, c.2.1, c.2.2.1, c.2.2.2.1, c.2.2.2.2.1, c.2.2.2.2.2 + size)) gone now)) ∧
        (fr ≠ c.2.2.1 → (data - c.2.2.2.2.1 < size → K 0 4 (list.eraseIdx i) gone now) ∧ (size ≤ data - c.2.2.2.2.1 → K c.2.2.1 0 (list.set i (c.1, c.2.1, c.2.2.1, c.2.2.2.1, c.2.2.2.2.1 + size, c.2.2.2.2.2)) gone now))))

/-- Numbers of bytes that may be. -/
def okB (data : Int) (c : Ci) : Prop := (0 ≤ c.2.2.2.2.1 ∧ c.2.2.2.2.1 ≤ data) ∧ (0 ≤ c.2.2.2.2.2 ∧ c.2.2.2.2.2 ≤ data)

theorem forward_wp {l1 l2 l3 l4 l5 data last now t no fr size : Int} {list gone : List Ci} {K : Int → Int → List Ci → List Ci → Int → Prop} (hb : list.length + gone.length ≤ 1000000000) (hd : 0 ≤ data ∧ data ≤ 1073741824) (hok : ∀ c ∈ list, okB data c)
    (hK : fwdK data no fr size (list.filter fun c => !over (nowOn now t) c) (gone ++ list.filter (over (nowOn now t))) (nowOn now t) K) : circ_Table_Forward_wp l1 l2 l3 l4 l5 data list gone last now t no fr size K := by
  unfold circ_Table_Forward_wp
  refine on_wp hb ?_
  have hfl := List.length_filter_le (fun c => !over (nowOn now t) c) list
  have hok' : ∀ c ∈ list.filter (fun c => !over (nowOn now t) c), okB data c := fun c hc => hok c (List.mem_filter.1 hc).1
  generalize list.filter (fun c => !over (nowOn now t) c) = L at hK hfl hok' ⊢
  generalize gone ++ list.filter (over (nowOn now t)) = G at hK ⊢
  generalize nowOn now t = n at hK ⊢
  refine place_wp (by omega) ?_
  obtain ⟨hK1, hK2⟩ := hK
  rcases idx_cases (fun c : Ci => c.1 == no) L with ⟨e, hall⟩ | ⟨i, e, hi, hf, hj⟩
  · rw [e]
    refine joinP0.i ⟨fun x => x = true, ?_, cond_d (fun _ => rfl) (fun h => absurd (by omega) h)⟩
    rintro x rfl
    exact hK1 fun c hc => by have := hall c hc; simpa using this
  · rw [e]
    have hx : L[(i : Int).toNat]? = some L[i] := by rw [Int.toNat_natCast]; exact List.getElem?_eq_getElem hi
    obtain ⟨hK3, hK4⟩ := hK2 i L[i] (List.getElem?_eq_getElem hi) (by simpa using hf hi) (fun j d hji hjd => by
      have hjl : j < L.length := by omega
      rw [List.getElem?_eq_getElem hjl] at hjd
      cases hjd
      simpa using hj j hjl hji)
    have hokc := hok' _ (List.getElem_mem hi)
    generalize L[i] = c at hx hK3 hK4 hokc
    obtain ⟨⟨b0, b1⟩, b2, b3⟩ := hokc
    refine joinP0.i ⟨fun x => (x = true ↔ c.2.1 ≠ fr ∧ c.2.2.1 ≠ fr), ?_, ?_⟩
    · intro x hx2
      refine cond_b (fun h => hK3 (hx2.1 h).1 (hx2.1 h).2) (fun h => ⟨by omega, by omega, fun x1 hx1 => ?_⟩)
      rw [hx] at hx1
      cases hx1
      have hin : c.2.1 = fr ∨ c.2.2.1 = fr := Classical.byContradiction fun hc => by
        rw [not_or] at hc
        rw [hx2.2 hc] at h; cases h
      obtain ⟨hK5, hK6⟩ := hK4 hin
      refine ⟨fun way to => (fr = c.2.2.1 → way = 1 ∧ to = c.2.1) ∧ (fr ≠ c.2.2.1 → way = 0 ∧ to = c.2.2.1), ?_, ?_⟩
      · rintro way to ⟨hw1, hw2⟩
        refine cond_d (fun hs => hK5 hs) (fun hs => ?_)
        obtain ⟨hK7, hK8⟩ := hK6 (by omega)
        have del : K 0 4 (L.eraseIdx i) G n → slices_Delete_sl_api_Circuit_api_Circuit_wp L (i : Int) (IntKind.wrap .i64 ((i : Int) + 1)) (fun rs => K 0 4 rs G n) := by
          intro hk
          rw [wrap_i64 (by omega) (by omega)]
          refine delete_wp (by omega) (by omega) (by omega) ?_
          rwa [Int.toNat_natCast, show ((i : Int) + 1).toNat = i + 1 by omega, eraseIdx_eq]
        by_cases hB : fr = c.2.2.1
        · obtain ⟨rfl, rfl⟩ := hw1 hB
          obtain ⟨hK9, hK10⟩ := hK7 hB
          refine ⟨by omega, by omega, fun h => absurd h (by omega), fun _ y hy => ?_⟩
          rw [hx] at hy
          cases hy
          rw [wrap_i64 (x := data - c.2.2.2.2.2) (by omega) (by omega)]
          refine cond_d (fun h => del (hK9 (by omega))) (fun h => ⟨by omega, by omega, fun y hy => ⟨by omega, by omega, fun z hz => ?_⟩⟩)
          rw [hx] at hy hz
          cases hy
          cases hz
          rw [wrap_i64 (by omega) (by omega), Int.toNat_natCast]
          exact hK10 (by omega)
        · obtain ⟨rfl, rfl⟩ := hw2 hB
          obtain ⟨hK9, hK10⟩ := hK8 hB
          refine ⟨by omega, by omega, fun _ y hy => ?_, fun h => absurd h (by omega)⟩
          rw [hx] at hy
          cases hy
          rw [wrap_i64 (x := data - c.2.2.2.2.1) (by omega) (by omega)]
          refine cond_d (fun h => del (hK9 (by omega))) (fun h => ⟨by omega, by omega, fun y hy => ⟨by omega, by omega, fun z hz => ?_⟩⟩)
          rw [hx] at hy hz
          cases hy
          cases hz
          rw [wrap_i64 (by omega) (by omega), Int.toNat_natCast]
          exact hK10 (by omega)
      · intro y hy
        rw [hx] at hy
        cases hy
        refine cond_e (fun h => fun z hz => ?_) (fun h => ?_)
        · rw [hx] at hz
          cases hz
          exact ⟨fun _ => ⟨rfl, rfl⟩, fun hn => absurd h hn⟩
        · exact ⟨fun hn => absurd hn h, fun _ => ⟨rfl, rfl⟩⟩
    · refine cond_d (fun h => absurd h (by omega)) (fun _ => ⟨by omega, by omega, fun y hy => ?_⟩)
      rw [hx] at hy
      cases hy
      refine cond_n (fun h1 => ⟨by omega, by omega, fun z hz => ?_⟩) (fun h1 => ?_)
      · rw [hx] at hz
        cases hz
        simp only [bne_iff_ne, ne_eq]
        exact ⟨fun h => ⟨h1, h⟩, fun h => h.2⟩
      · simp only [Bool.false_eq_true, false_iff]
        exact fun h => h.1 h1

theorem clone_wp {s : List Ci} {K : List Ci → Prop} (hl : s.length ≤ 1000000000) (hK : K s) : slices_Clone_sl_api_Circuit_api_Circuit_wp s K := by
  unfold slices_Clone_sl_api_Circuit_api_Circuit_wp
  intro nil hn
  refine cond_b (fun h => ?_) (fun h => ⟨?_, by rwa [List.nil_append]⟩)
  · rw [hn h] at hK; exact hK
  · simp only [List.length_nil]; omega

theorem all_wp {l1 l2 l3 l4 l5 l6 last now t : Int} {list gone : List Ci} {K : List Ci → List Ci → List Ci → Int → Prop} (hb : list.length + gone.length ≤ 1000000000)
    (hK : K (list.filter fun c => !over (nowOn now t) c) (list.filter fun c => !over (nowOn now t) c) (gone ++ list.filter (over (nowOn now t))) (nowOn now t)) : circ_Table_All_wp l1 l2 l3 l4 l5 l6 list gone last now t K := by
  unfold circ_Table_All_wp
  have hfl := List.length_filter_le (fun c => !over (nowOn now t) c) list
  exact on_wp hb (clone_wp (by omega) hK)

theorem close_wp {l1 l2 l3 l4 l5 l6 last now t no : Int} {list gone : List Ci} {K : Bool → List Ci → List Ci → Int → Prop} (hb : list.length + gone.length ≤ 1000000000)
    (h1 : (∀ c ∈ (list.filter fun c => !over (nowOn now t) c), c.1 ≠ no) → K false (list.filter fun c => !over (nowOn now t) c) (gone ++ list.filter (over (nowOn now t))) (nowOn now t))
    (h2 : ∀ (i : Nat) (c : Ci), (list.filter fun c => !over (nowOn now t) c)[i]? = some c → c.1 = no → K true ((list.filter fun c => !over (nowOn now t) c).eraseIdx i) (gone ++ list.filter (over (nowOn now t))) (nowOn now t)) :
    circ_Table_Close_wp l1 l2 l3 l4 l5 l6 list gone last now t no K := by
  unfold circ_Table_Close_wp
  have hfl := List.length_filter_le (fun c => !over (nowOn now t) c) list
  refine on_wp hb (place_wp (by omega) ?_)
  generalize list.filter (fun c => !over (nowOn now t) c) = L at *
  rcases idx_cases (fun c : Ci => c.1 == no) L with ⟨e, hall⟩ | ⟨i, e, hi, hf, hj⟩
  · rw [e]
    exact cond_t rfl (h1 fun c hc => by have := hall c hc; simpa using this)
  · rw [e]
    refine cond_d (fun h => absurd h (by omega)) (fun _ => ?_)
    rw [wrap_i64 (by omega) (by omega)]
    refine delete_wp (by omega) (by omega) (by omega) ?_
    rw [Int.toNat_natCast, show ((i : Int) + 1).toNat = i + 1 by omega, eraseIdx_eq]
    exact h2 i L[i] (List.getElem?_eq_getElem hi) (by simpa using hf hi)

end Go.Proofs.Ytjcebofaahbifaa
