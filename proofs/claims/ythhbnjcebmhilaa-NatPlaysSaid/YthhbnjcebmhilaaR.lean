/- What the document's box makes of each step, told as the program's own box tells it. -/
import Derived.Test.YthhbnjcebmhilaaQ
import Derived.Test.YthhbnjcebmhilaaEngQ
namespace Go.Proofs.Ythhbnjcebmhilaa
open Go Go.Eng

abbrev RX := Int × Int × Int × Int × Int × Int × Bool × Hd
abbrev MP := List (Hd × List (Int × Int))

/-- A binding of the document's box, and where its row leads. -/
def RQ (mp : MP) (r : RX) (x : BX) : Prop := ∃ xs, x = (r.1, r.2.1, r.2.2.1, r.2.2.2.1, r.2.2.2.2.1, r.2.2.2.2.2.1, r.2.2.2.2.2.2.1, xs) ∧ PH mp r.2.2.2.2.2.2.2 xs ∧ r.2.2.2.2.2.2.2.2.1 = xs.length

theorem RQ.mono {mp : MP} {r : RX} {x : BX} (h : RQ mp r x) (l : MP) : RQ (mp ++ l) r x := by
  obtain ⟨xs, e, hp, hn⟩ := h
  exact ⟨xs, e, hp.mono l, hn⟩

theorem rmay_wp {h p : Int} {K : Bool → Prop} (h0 : 0 ≤ h) (hK : K (decide (mayP h p))) : embrasureref03_May_wp h p K := by
  unfold embrasureref03_May_wp
  refine cond_d (fun _ => cond_d (fun _ => ?_) (fun _ => ?_)) (fun _ => ?_)
  all_goals refine dec_key hK _ ?_
  all_goals unfold mayP
  all_goals simp only [decide_eq_true_eq, Bool.false_eq_true, false_iff]
  all_goals omega

theorem ron_wp {h lo hi mp fi li mo now t : Int} {L : List RX} {m : MP} {rs : List BX} {K : Bool → List RX → Int → Prop} (hr : All2 (RQ m) L rs) (hb : L.length ≤ 1000000)
    (h1 : ¬ (now ≤ t ∧ t ≤ 1099511627776) → K false L now) (h2 : now ≤ t ∧ t ≤ 1099511627776 → ∀ L', All2 (RQ m) L' (live t rs) → L'.length ≤ L.length → K true L' t) : embrasureref08_Nat_on_wp h lo hi mp fi li mo L now t K := by
  unfold embrasureref08_Nat_on_wp
  have hyes : now ≤ t → t ≤ 1099511627776 → joinP1 (fun (l_1 : List RX) => K true l_1 t) (fun (Q_1 : List RX → Prop) => ∃ (I : Nat → List RX → Int → Prop), (∃ (n_5 : Nat), I n_5 ([] : List RX) 0) ∧ ∀ (n_2 : Nat) (l_2 : List RX) (i6 : Int), I n_2 l_2 i6 → (cond (decide ((i6 : Int) < ((L.length : Nat) : Int))) (0 ≤ (i6 : Int) ∧ (i6 : Int) < ((L.length : Nat) : Int) ∧ (∀ (x_1 : RX), L[Int.toNat i6]? = some x_1 → (cond (decide ((x_1.2.2.2.2.2.1 : Int) > t)) (0 ≤ (i6 : Int) ∧ (i6 : Int) < ((L.length : Nat) : Int) ∧ (∀ (x_2 : RX), L[Int.toNat i6]? = some x_2 → ((l_2.length + [x_2].length) * 80 ≤ 140737488355328 ∧ (∃ (n_3 : Nat), n_3 < n_2 ∧ I n_3 (l_2 ++ [x_2]) (IntKind.wrap .i64 (i6 + 1)))))) (∃ (n_4 : Nat), n_4 < n_2 ∧ I n_4 l_2 (IntKind.wrap .i64 (i6 + 1)))))) (Q_1 l_2))) := by
    intro ha hc
    refine joinP1.i ⟨fun n l i => 0 ≤ i ∧ i ≤ L.length ∧ n = L.length - i.toNat ∧ l = (L.take i.toNat).filter (fun r => decide (r.2.2.2.2.2.1 > t)), ⟨_, by omega, by omega, rfl, rfl⟩, ?_⟩
    rintro n l i ⟨h0, hle, rfl, rfl⟩
    refine cond_d (fun hlt => ?_) (fun hge => ?_)
    · have hi : i.toNat < L.length := by omega
      have ei : (i + 1).toNat = i.toNat + 1 := by omega
      have hlen : ((L.take i.toNat).filter (fun r => decide (r.2.2.2.2.2.1 > t))).length ≤ L.length := Nat.le_trans (List.length_filter_le _ _) (by rw [List.length_take]; omega)
      refine ⟨h0, hlt, fun x hx => ?_⟩
      rw [List.getElem?_eq_getElem hi] at hx
      cases hx
      rw [wrap_i64 (x := i + 1) (by omega) (by omega)]
      refine cond_d (fun hgt => ⟨h0, hlt, fun y hy => ?_⟩) (fun hng => ?_)
      · rw [List.getElem?_eq_getElem hi] at hy
        cases hy
        refine ⟨by simp only [List.length_singleton]; omega, _, ?_, by omega, by omega, rfl, ?_⟩
        · omega
        · rw [ei, List.take_succ_eq_append_getElem hi, List.filter_append]
          congr 1
          rw [List.filter_cons_of_pos (by simpa using hgt)]
          rfl
      · refine ⟨_, ?_, by omega, by omega, rfl, ?_⟩
        · omega
        · rw [ei, List.take_succ_eq_append_getElem hi, List.filter_append, List.filter_cons_of_neg (by simpa using hng)]
          simp
    · rw [List.take_of_length_le (by omega)]
      refine h2 ⟨ha, hc⟩ _ ?_ (List.length_filter_le _ _)
      unfold live
      refine hr.filter fun r x hrx => ?_
      obtain ⟨xs, rfl, -⟩ := hrx
      unfold overB
      simp only
      rw [Bool.eq_iff_iff]
      simp
  refine ⟨fun b => (b = true ↔ ¬ (now ≤ t ∧ t ≤ 1099511627776)), fun b hb => ?_, ?_⟩
  · refine cond_b (fun e => h1 (hb.1 e)) (fun e => ?_)
    have hm : now ≤ t ∧ t ≤ 1099511627776 := Classical.byContradiction fun hc => by rw [hb.2 hc] at e; cases e
    exact hyes hm.1 hm.2
  · refine cond_d (fun hlt => ?_) (fun hge => ?_)
    · exact ⟨fun _ => by omega, fun _ => rfl⟩
    · show decide (t > 1099511627776) = true ↔ _
      rw [decide_eq_true_eq]; omega

/-- Which binding is looked for. -/
def findR (asked : Bool) (ih ip kh kp : Int) (x : BX) : Bool := if asked then isAsked ih ip x else toR ih ip kh kp x

def idxR (f : BX → Bool) (rs : List BX) : Int := match rs.findIdx? f with
  | some i => (i : Int)
  | none => -1

theorem idxR_here {f : BX → Bool} {rs : List BX} {i : Nat} (hi : i < rs.length) (hf : f rs[i] = true) (hb : ∀ j (h : j < rs.length), j < i → f rs[j] = false) : idxR f rs = i := by
  unfold idxR
  rw [List.findIdx?_eq_some_iff_getElem.2 ⟨hi, hf, fun j hj => by simp [hb j (by omega) hj]⟩]

theorem idxR_none {f : BX → Bool} {rs : List BX} (hb : ∀ j (h : j < rs.length), f rs[j] = false) : idxR f rs = -1 := by
  unfold idxR
  have : rs.findIdx? f = none := by
    rw [List.findIdx?_eq_none_iff]
    intro x hx
    obtain ⟨j, h, rfl⟩ := List.getElem_of_mem hx
    exact hb j h
  rw [this]

theorem rfind_wp {h lo hi mp fi li mo now ih ip th tp : Int} {asked : Bool} {L : List RX} {m : MP} {rs : List BX} {K : Int → Prop} (hr : All2 (RQ m) L rs) (hb : L.length ≤ 1000000) (hK : K (idxR (findR asked ih ip th tp) rs)) :
    embrasureref08_Nat_find_wp h lo hi mp fi li mo L now ih ip asked th tp K := by
  unfold embrasureref08_Nat_find_wp
  have hlen := hr.length
  refine ⟨fun n i => 0 ≤ i ∧ i ≤ L.length ∧ n = L.length - i.toNat ∧ ∀ j (h : j < rs.length), j < i.toNat → findR asked ih ip th tp rs[j] = false, ⟨_, by omega, by omega, rfl, by omega⟩, ?_⟩
  rintro n i ⟨h0, hle, rfl, hj⟩
  refine cond_d (fun hlt => ?_) (fun hge => ?_)
  · have hi : i.toNat < L.length := by omega
    have hi2 : i.toNat < rs.length := by omega
    obtain ⟨x, hx, hq⟩ := hr.get i.toNat L[i.toNat] (List.getElem?_eq_getElem hi)
    rw [List.getElem?_eq_getElem hi2] at hx
    have ex := Option.some.inj hx
    obtain ⟨xs, e, -⟩ := hq
    refine ⟨fun b => b = findR asked ih ip th tp rs[i.toNat], ?_, ⟨h0, hlt, fun y hy => ?_⟩⟩
    · rintro b hb'
      refine cond_b (fun e1 => ?_) (fun e1 => ?_)
      · rw [idxR_here hi2 (by rw [← hb', e1]) hj] at hK
        have : (i.toNat : Int) = i := by omega
        rw [this] at hK
        exact hK
      · rw [wrap_i64 (x := i + 1) (by omega) (by omega)]
        refine ⟨_, ?_, by omega, by omega, rfl, fun j hjl hji => ?_⟩
        · omega
        · by_cases ej : j = i.toNat
          · subst ej; rw [← hb', e1]
          · exact hj j hjl (by omega)
    · rw [List.getElem?_eq_getElem hi] at hy
      cases hy
      rw [ex, e]
      unfold findR isAsked toR inIs
      simp only
      refine cond_b (fun e1 => ⟨h0, hlt, fun y hy => ?_⟩) (fun e1 => by rw [e1]; cases asked <;> rfl)
      rw [List.getElem?_eq_getElem hi] at hy
      cases hy
      rw [e1]
      cases asked with
      | true =>
        cases hA : L[i.toNat].2.2.2.2.2.2.1 with
        | true => rfl
        | false => rfl
      | false =>
        cases hA : L[i.toNat].2.2.2.2.2.2.1 with
        | true => rfl
        | false =>
          refine ⟨h0, hlt, fun y hy => ?_⟩
          rw [List.getElem?_eq_getElem hi] at hy
          cases hy
          rfl
  · rw [idxR_none (fun j hjl => hj j hjl (by omega))] at hK
    exact hK

theorem rkey_wp {h lo hi mp fi li mo now th tp : Int} {K : Int → Int → Prop} (hK : K (keyH mp th) (keyP mp tp)) : embrasureref08_Nat_key_wp h lo hi mp fi li mo now th tp K := by
  unfold embrasureref08_Nat_key_wp
  unfold keyH keyP at hK
  refine cond_e (fun e => ?_) (fun n => cond_e (fun e => ?_) (fun n2 => ?_))
  · rw [if_pos e, if_pos e] at hK; exact hK
  · rw [if_neg n, if_neg n, if_pos e] at hK; exact hK
  · rw [if_neg n, if_neg n, if_neg n2] at hK; exact hK

def freeB (lo hi p : Int) (rs : List BX) : Bool := !(used rs p) && (decide (p ≥ lo) && decide (p ≤ hi))

theorem rfree_wp {h lo hi mp fi li mo now p : Int} {L : List RX} {m : MP} {rs : List BX} {K : Bool → Prop} (hr : All2 (RQ m) L rs) (hb : L.length ≤ 1000000) (hK : K (freeB lo hi p rs)) : embrasureref08_Nat_free_wp h lo hi mp fi li mo L now p K := by
  unfold embrasureref08_Nat_free_wp
  have hlen := hr.length
  refine joinP0.i ⟨fun n i => 0 ≤ i ∧ i ≤ L.length ∧ n = L.length - i.toNat ∧ ∀ j (h : j < rs.length), j < i.toNat → portIs p rs[j] = false, ⟨_, by omega, by omega, rfl, by omega⟩, ?_⟩
  rintro n i ⟨h0, hle, rfl, hj⟩
  unfold freeB at hK
  refine cond_d (fun hlt => ?_) (fun hge => ?_)
  · have hi' : i.toNat < L.length := by omega
    have hi2 : i.toNat < rs.length := by omega
    obtain ⟨x, hx, hq⟩ := hr.get i.toNat L[i.toNat] (List.getElem?_eq_getElem hi')
    rw [List.getElem?_eq_getElem hi2] at hx
    have ex := Option.some.inj hx
    obtain ⟨xs, e, -⟩ := hq
    refine ⟨h0, hlt, fun y hy => ?_⟩
    rw [List.getElem?_eq_getElem hi'] at hy
    cases hy
    have ep : portIs p rs[i.toNat] = (L[i.toNat].2.2.2.2.1 == p) := by rw [ex, e]; rfl
    refine cond_b (fun e1 => ?_) (fun e1 => ?_)
    · have : used rs p = true := List.any_eq_true.2 ⟨_, List.getElem_mem hi2, by rw [ep, e1]⟩
      rw [this] at hK
      exact hK
    · rw [wrap_i64 (x := i + 1) (by omega) (by omega)]
      refine ⟨_, ?_, by omega, by omega, rfl, fun j hjl hji => ?_⟩
      · omega
      · by_cases ej : j = i.toNat
        · subst ej; rw [ep, e1]
        · exact hj j hjl (by omega)
  · have : used rs p = false := by
      unfold used
      rw [List.any_eq_false]
      intro x hx
      obtain ⟨j, h, rfl⟩ := List.getElem_of_mem hx
      rw [hj j h (by omega)]
      decide
    rw [this] at hK
    refine cond_d (fun e1 => ?_) (fun e1 => ?_)
    · rw [decide_eq_true e1] at hK; exact hK
    · rw [decide_eq_false e1] at hK; exact hK

theorem ffree_step {rs : List BX} {p hi : Int} {n : Nat} (hn : n = (hi - p + 1).toNat) (h : p ≤ hi) : ffree rs n p = if used rs p then ffree rs (hi - (p + 1) + 1).toNat (p + 1) else some p := by
  have : n = (hi - (p + 1) + 1).toNat + 1 := by omega
  rw [this]
  rfl

/-- A new binding of the document's box. -/
def nilB (ih ip kh kp p u : Int) (a : Bool) : RX := (ih, ip, kh, kp, p, u, a, ((none, 0, 0) : Hd))

theorem rput_wp {h lo hi mp fi li mo now ih ip kh kp p0 u wish : Int} {a : Bool} {L : List RX} {m : MP} {rs : List BX} {K : Int → List RX → Prop} (hr : All2 (RQ m) L rs) (hb : L.length ≤ 1000000) (hlo : 1 ≤ lo) (hhi : hi ≤ 65535)
    (hfull : (chooseP lo hi wish rs = none ∨ mo ≤ rs.length) → K (-1) L)
    (hput : ∀ (p : Int) (i : Nat), chooseP lo hi wish rs = some p → (rs.length : Int) < mo → i ≤ L.length → (∀ (j : Nat) x, j < i → rs[j]? = some x → prt x < p) → (∀ x, rs[i]? = some x → ¬ prt x < p) → K i (L.take i ++ [nilB ih ip kh kp p u a] ++ L.drop i)) :
    embrasureref08_Nat_put_wp h lo hi mp fi li mo L now ih ip kh kp p0 u a wish K := by
  unfold embrasureref08_Nat_put_wp
  have hlen := hr.length
  refine cond_d (fun hge => hfull (.inr (by omega))) (fun hlt => ?_)
  refine ⟨fun p => chooseP lo hi wish rs = some p, fun p hp => ?_, ?_⟩
  · refine ⟨fun i => 0 ≤ i ∧ i ≤ L.length ∧ (∀ (j : Nat) x, j < i.toNat → rs[j]? = some x → prt x < p) ∧ (∀ x, rs[i.toNat]? = some x → ¬ prt x < p), ?_, ?_⟩
    · rintro i ⟨h0, h1, h2, h3⟩
      have hk := hput p i.toNat hp (by omega) (by omega) h2 h3
      have ei : ((i.toNat : Nat) : Int) = i := by omega
      rw [ei] at hk
      have fin : ((([] : List RX)).length + ((L.take (Int.toNat i)).drop 0).length) * 80 ≤ 140737488355328 ∧ (((([] : List RX) ++ ((L.take (Int.toNat i)).drop 0)).length + [nilB ih ip kh kp p u a].length) * 80 ≤ 140737488355328 ∧ ((((([] : List RX) ++ ((L.take (Int.toNat i)).drop 0)) ++ [nilB ih ip kh kp p u a]).length + ((L.take L.length).drop (Int.toNat i)).length) * 80 ≤ 140737488355328 ∧ (K i (((([] : List RX) ++ ((L.take (Int.toNat i)).drop 0)) ++ [nilB ih ip kh kp p u a]) ++ ((L.take L.length).drop (Int.toNat i)))))) := by
        refine ⟨by simp; omega, by simp; omega, by simp; omega, ?_⟩
        simpa using hk
      exact ⟨h0, h1, h0, h1, ⟨fin, fin⟩, fin⟩
    · refine ⟨fun n i => 0 ≤ i ∧ i ≤ L.length ∧ n = L.length - i.toNat ∧ (∀ (j : Nat) x, j < i.toNat → rs[j]? = some x → prt x < p), ⟨_, by omega, by omega, rfl, fun j x hj => by omega⟩, ?_⟩
      rintro n i ⟨h0, h1, rfl, h2⟩
      refine ⟨fun b => b = true ∧ i < L.length ∧ (∀ x, rs[i.toNat]? = some x → prt x < p) ∨ b = false ∧ (∀ x, rs[i.toNat]? = some x → ¬ prt x < p), ?_, ?_⟩
      · rintro b (⟨rfl, h3, h4⟩ | ⟨rfl, h4⟩)
        · rw [wrap_i64 (x := i + 1) (by omega) (by omega)]
          refine cond_t rfl ⟨_, ?_, by omega, by omega, rfl, fun j x hj hx => ?_⟩
          · omega
          · by_cases ej : j = i.toNat
            · subst ej; exact h4 x hx
            · exact h2 j x (by omega) hx
        · exact cond_f rfl ⟨h0, h1, h2, h4⟩
      · refine cond_d (fun hlt => ⟨h0, hlt, fun y hy => ?_⟩) (fun hge => .inr ⟨rfl, fun x hx => ?_⟩)
        · obtain ⟨x, hx, hq⟩ := hr.get i.toNat y hy
          obtain ⟨xs, e, -⟩ := hq
          have ep : prt x = y.2.2.2.2.1 := by rw [e]; rfl
          by_cases hp2 : y.2.2.2.2.1 < p
          · rw [decide_eq_true hp2]
            exact .inl ⟨rfl, hlt, fun z hz => by rw [hx] at hz; cases hz; rw [ep]; exact hp2⟩
          · rw [decide_eq_false hp2]
            exact .inr ⟨rfl, fun z hz => by rw [hx] at hz; cases hz; rw [ep]; exact hp2⟩
        · rw [List.getElem?_eq_none (by omega)] at hx
          cases hx
  · refine rfree_wp hr hb ?_
    have hw : chooseP lo hi wish rs = if freeB lo hi wish rs then some wish else ffree rs (hi - lo + 1).toNat lo := by
      unfold chooseP freeB
      by_cases hc : lo ≤ wish ∧ wish ≤ hi ∧ used rs wish = false
      · rw [if_pos hc, hc.2.2, decide_eq_true hc.1, decide_eq_true hc.2.1]; rfl
      · rw [if_neg hc]
        have : (!used rs wish && (decide (wish ≥ lo) && decide (wish ≤ hi))) = false := by
          rw [Bool.eq_false_iff]
          intro h
          simp only [Bool.and_eq_true, Bool.not_eq_true', decide_eq_true_eq] at h
          exact hc ⟨h.2.1, h.2.2, h.1⟩
        rw [this]
        rfl
    cases hf : freeB lo hi wish rs with
    | true => rw [hf] at hw; exact cond_f rfl hw
    | false =>
      rw [hf] at hw
      refine cond_t rfl ?_
      refine ⟨fun p => (hi < p ∧ chooseP lo hi wish rs = none) ∨ (p ≤ hi ∧ chooseP lo hi wish rs = some p), ?_, ?_⟩
      · rintro p (⟨h1, h2⟩ | ⟨h1, h2⟩)
        · exact cond_d (fun _ => hfull (.inl h2)) (fun hx => by omega)
        · exact cond_d (fun hx => by omega) (fun _ => h2)
      · refine ⟨fun n p => lo ≤ p ∧ (p ≤ hi + 1 ∨ p = lo) ∧ n = (hi - p + 1).toNat ∧ chooseP lo hi wish rs = ffree rs (hi - p + 1).toNat p, ⟨_, by omega, by omega, rfl, by rw [hw]; rfl⟩, ?_⟩
        rintro n p ⟨h0, h1, rfl, h2⟩
        refine ⟨fun b => (b = true ∧ p ≤ hi ∧ used rs p = true) ∨ (b = false ∧ (p ≤ hi → used rs p = false)), ?_, ?_⟩
        · rintro b (⟨rfl, h3, h4⟩ | ⟨rfl, h3⟩)
          · rw [wrap_i64 (x := p + 1) (by omega) (by omega)]
            refine cond_t rfl ⟨_, ?_, by omega, by omega, rfl, ?_⟩
            · omega
            · rw [h2, ffree_step rfl h3, h4]; rfl
          · refine cond_f rfl ?_
            by_cases hle : p ≤ hi
            · refine .inr ⟨hle, ?_⟩
              rw [h2, ffree_step rfl hle, h3 hle]; rfl
            · refine .inl ⟨by omega, ?_⟩
              have e0 : (hi - p + 1).toNat = 0 := by omega
              rw [h2, e0]; rfl
        · refine cond_d (fun hle => rfree_wp hr hb ?_) (fun hgt => .inr ⟨rfl, fun hx => by omega⟩)
          unfold freeB
          rw [decide_eq_true (show p ≥ lo by omega), decide_eq_true hle]
          cases hu : used rs p with
          | true => exact .inl ⟨rfl, hle, rfl⟩
          | false => exact .inr ⟨rfl, fun _ => rfl⟩

end Go.Proofs.Ythhbnjcebmhilaa
