/- The plain side of a gateway: what it makes of a datagram. -/
import Derived.Test.YtnmdnkmemjfoeaaN
namespace Go.Proofs.Ytnmdnkmemjfoeaa.NatS
open Go Go.Eng
def prt (x : BX) : Int := x.2.2.2.2.1
theorem all2_drop {α β : Type} {R : α → β → Prop} {l : List α} {k : List β} (h : All2 R l k) : ∀ n, All2 R (l.drop n) (k.drop n) := by
  induction h with
  | nil => intro n; simp; exact .nil
  | cons h t ih =>
    intro n
    cases n with
    | zero => exact .cons h t
    | succ n => exact ih n
theorem all2_erase {α β : Type} {R : α → β → Prop} {l : List α} {k : List β} (h : All2 R l k) (n : Nat) : All2 R (l.eraseIdx n) (k.eraseIdx n) := by
  rw [List.eraseIdx_eq_take_drop_succ, List.eraseIdx_eq_take_drop_succ]
  exact (h.take n).append (all2_drop h (n + 1))
/-- A binding that was asked for is gone. -/
def natDrop (bs : List BX) (ih ip : Int) : Bool × List BX := match bs.findIdx? (isAsked ih ip) with
  | some i => (true, bs.eraseIdx i)
  | none => (false, bs)
theorem filter_ne {α : Type} [DecidableEq α] : ∀ {l : List α} {i : Nat} {p : α}, l.Nodup → l[i]? = some p → l.filter (fun x => !(decide (x = p))) = l.eraseIdx i
  | a :: l, 0, p, h, hp => by
    have : a = p := Option.some.inj hp
    subst this
    rw [List.filter_cons_of_neg (by simp)]
    rw [List.nodup_cons] at h
    rw [List.eraseIdx_cons_zero, List.filter_eq_self]
    intro x hx
    have : x ≠ a := fun e => h.1 (e ▸ hx)
    simpa using this
  | a :: l, i + 1, p, h, hp => by
    rw [List.nodup_cons] at h
    have hp' : l[i]? = some p := hp
    have hne : a ≠ p := fun e => h.1 (e ▸ List.mem_of_getElem? hp')
    rw [List.filter_cons_of_pos (by simpa using hne), filter_ne h.2 hp', List.eraseIdx_cons_succ]
theorem drop_wp {h lo hi mp fi li mo now t ih ip : Int} {l : List (Option Nat)} {m : SB} {bs : List BX} {K : Bool → List (Option Nat) → Int → Prop} (hr : Rep m l bs) (hb : bs.length ≤ 100000)
    (h1 : ¬ (now ≤ t ∧ t ≤ 1099511627776) → K false l now)
    (h2 : now ≤ t ∧ t ≤ 1099511627776 → ∀ l', Rep m l' (natDrop (live t bs) ih ip).2 → (∀ p ∈ l', p ∈ l) → K (natDrop (live t bs) ih ip).1 l' t) :
    nN_Drop_wp h lo hi mp fi li mo l now t ih ip m K := by
  unfold nN_Drop_wp
  refine on_wp hr (by omega) (fun hc => cond_t rfl (h1 hc)) (fun hc l' hr' hsub => cond_f rfl ?_)
  have h2 := h2 hc
  have hfl : (live t bs).length ≤ bs.length := List.length_filter_le _ _
  have hlen := hr'.all.length
  have hlive : ∀ p ∈ l', ∃ b, p = some b ∧ ∃ x, getS m b = some x := fun p hp => by
    obtain ⟨x, -, b, e, hx⟩ := hr'.all.mem hp
    exact ⟨b, e, x, hx⟩
  have del : ∀ (b : Option Nat) (K' : List (Option Nat) → Unit → Prop), (∀ q, b = some q → ∃ x, getS m q = some x) → K' (l'.filter fun x => !(decide (x = b))) () → sDelB_wp l' () (fun x_1 s K_1 => nN_Drop_c1_wp x_1 b m (fun (r : Bool) => K_1 r s)) K' := fun b K' hbl hK => by
    refine delP_wp (fun x => decide (x = b)) (fun x hx K2 hK2 => ?_) (by omega) hK
    unfold nN_Drop_c1_wp
    refine ⟨fun p q e1 e2 => .inr ⟨?_, hbl q e2⟩, hK2⟩
    obtain ⟨c, e, hh⟩ := hlive x hx
    rw [e] at e1
    cases e1
    exact hh
  refine asked_wp hr' (by omega) (fun hn => ?_) (fun i p x hi hp hx hpx => ?_)
  · have en : natDrop (live t bs) ih ip = (false, live t bs) := by unfold natDrop; rw [hn]
    rw [en] at h2
    refine del none _ (fun q e => by cases e) ?_
    have ef : l'.filter (fun x => !(decide (x = (none : Option Nat)))) = l' := by
      rw [List.filter_eq_self]
      intro x hx
      obtain ⟨b, e, -⟩ := hlive x hx
      subst e
      rfl
    rw [ef]
    exact h2 l' hr' hsub
  · have en : natDrop (live t bs) ih ip = (true, (live t bs).eraseIdx i) := by unfold natDrop; rw [hi]
    rw [en] at h2
    obtain ⟨b, rfl, hbx⟩ := hpx
    refine del (some b) _ (fun q e => by cases e; exact ⟨x, hbx⟩) ?_
    rw [filter_ne hr'.nd hp]
    exact h2 _ ⟨all2_erase hr'.all i, hr'.nd.sublist (List.eraseIdx_sublist _ _)⟩ (fun q hq => hsub q (List.mem_of_mem_eraseIdx hq))
theorem natAsk_code {lo hi mo ih ip wish u : Int} {bs : List BX} : (natAsk lo hi mo bs ih ip wish u).1.2 = 0 ∨ (natAsk lo hi mo bs ih ip wish u).1.2 = 10 := by
  unfold natAsk
  split
  · split <;> simp
  · split
    · split <;> simp
    · simp
theorem natAsk_len {lo hi mo ih ip wish u : Int} {bs : List BX} : (natAsk lo hi mo bs ih ip wish u).2.length ≤ bs.length + 1 := by
  unfold natAsk
  split
  · split <;> simp
  · split
    · split <;> simp
    · simp
theorem natDrop_len {ih ip : Int} {bs : List BX} : (natDrop bs ih ip).2.length ≤ bs.length := by
  unfold natDrop
  split
  · exact List.length_eraseIdx_le _ _
  · exact Nat.le_refl _
theorem live_len {t : Int} {bs : List BX} : (live t bs).length ≤ bs.length := List.length_filter_le _ _
theorem live_live {t : Int} {bs : List BX} : live t (live t bs) = live t bs := by
  unfold live
  rw [List.filter_filter]
  congr 1
  funext x
  simp
theorem live_mem {t : Int} {bs : List BX} {x : BX} (h : x ∈ live t bs) : x ∈ bs := (List.mem_filter.1 h).1
theorem okS_live {t : Int} {bs : List BX} (h : okS bs) : okS (live t bs) := fun x hx => h x (live_mem hx)
theorem mem_ask {lo hi mo ih ip wish u : Int} {bs : List BX} {x : BX} (h : x ∈ (natAsk lo hi mo bs ih ip wish u).2) : (∃ y ∈ bs, x.1 = y.1 ∧ x.2.2.2.2.2.2.2 = y.2.2.2.2.2.2.2) ∨ (x.1 = ih ∧ x.2.2.2.2.2.2.2 = []) := by
  unfold natAsk at h
  split at h
  · split at h
    · rename_i i hi y hy
      rcases List.mem_or_eq_of_mem_set h with h | h
      · exact .inl ⟨x, h, rfl, rfl⟩
      · exact .inl ⟨y, List.mem_of_getElem? hy, by rw [h]; rfl, by rw [h]; rfl⟩
    · exact .inl ⟨x, h, rfl, rfl⟩
  · split at h
    · split at h
      · rcases List.mem_append.1 h with h | h
        · exact .inl ⟨x, h, rfl, rfl⟩
        · simp at h
          exact .inr ⟨by rw [h], by rw [h]⟩
      · exact .inl ⟨x, h, rfl, rfl⟩
    · exact .inl ⟨x, h, rfl, rfl⟩
theorem mem_drop {ih ip : Int} {bs : List BX} {x : BX} (h : x ∈ (natDrop bs ih ip).2) : x ∈ bs := by
  unfold natDrop at h
  split at h
  · exact List.mem_of_mem_eraseIdx h
  · exact h
theorem findIdx_last {f : BX → Bool} {A : List BX} {y : BX} (h : ∀ x ∈ A, f x = false) (hy : f y = true) : (A ++ [y]).findIdx? f = some A.length := by
  rw [List.findIdx?_eq_some_iff_getElem]
  refine ⟨by simp, by simp [hy], fun j hj => ?_⟩
  rw [List.getElem_append_left hj]
  simp [h _ (List.getElem_mem hj)]
theorem findIdx_no {f : BX → Bool} {A : List BX} (h : ∀ x ∈ A, f x = false) : A.findIdx? f = none := by
  rw [List.findIdx?_eq_none_iff]; exact h
theorem isAsked_no {ih ip : Int} {x : BX} (h : x.1 ≠ ih) : isAsked ih ip x = false := by
  unfold isAsked inIs
  have : (x.1 == ih) = false := by simpa using h
  rw [this]
  rfl
theorem natAsk_new {lo hi mo ih ip wish u : Int} {bs : List BX} (h : ∀ x ∈ bs, x.1 ≠ ih) :
    ((natAsk lo hi mo bs ih ip wish u) = ((0, 10), bs)) ∨ ∃ p, used bs p = false ∧ lo ≤ p ∧ p ≤ hi ∧ (bs.length : Int) < mo ∧ natAsk lo hi mo bs ih ip wish u = ((p, 0), bs ++ [(ih, ip, 0, 0, p, u, true, [])]) := by
  unfold natAsk
  rw [findIdx_no (fun x hx => isAsked_no (h x hx))]
  simp only
  cases hc : chooseP lo hi wish bs with
  | none => exact .inl rfl
  | some p =>
    simp only
    have := choose_some hc
    by_cases hm : (bs.length : Int) < mo
    · rw [if_pos hm]; exact .inr ⟨p, this.2.2, this.1, this.2.1, hm, rfl⟩
    · rw [if_neg hm]; exact .inl rfl
/-- One that asked, behind others. -/
def askB (ih ip p u : Int) : BX := (ih, ip, 0, 0, p, u, true, [])
theorem askB_asked (ih ip p u : Int) : isAsked ih ip (askB ih ip p u) = true := by simp [isAsked, inIs, askB]
theorem natAsk_have {lo hi mo ih ip wish u p u0 : Int} {A : List BX} (h : ∀ x ∈ A, x.1 ≠ ih) : natAsk lo hi mo (A ++ [askB ih ip p u0]) ih ip wish u = ((p, 0), A ++ [askB ih ip p u]) := by
  unfold natAsk
  rw [findIdx_last (fun x hx => isAsked_no (h x hx)) (askB_asked _ _ _ _)]
  simp only
  rw [List.getElem?_append_right (Nat.le_refl _), Nat.sub_self]
  simp only [List.getElem?_cons_zero]
  rw [List.set_append_right _ _ (Nat.le_refl _), Nat.sub_self]
  rfl
theorem natDrop_have {ih ip p u0 : Int} {A : List BX} (h : ∀ x ∈ A, x.1 ≠ ih) : natDrop (A ++ [askB ih ip p u0]) ih ip = (true, A) := by
  unfold natDrop
  rw [findIdx_last (fun x hx => isAsked_no (h x hx)) (askB_asked _ _ _ _)]
  simp only
  rw [List.eraseIdx_append_of_length_le (Nat.le_refl _), Nat.sub_self]
  simp
theorem live_have {t ih ip p u0 : Int} {A : List BX} (h : t < u0) : live t (A ++ [askB ih ip p u0]) = live t A ++ [askB ih ip p u0] := by
  unfold live
  rw [List.filter_append]
  congr 1
  rw [List.filter_cons_of_pos]
  · rfl
  · unfold overB askB
    simp only [Bool.not_eq_true', decide_eq_false_iff_not]
    omega
theorem natIn_have {fi ih ip p u0 fh fp : Int} {A : List BX} (h : ∀ x ∈ A, prt x ≠ p) : natIn fi (A ++ [askB ih ip p u0]) p fh fp = (ih, ip, 0) := by
  have h1 : (A ++ [askB ih ip p u0]).findIdx? (portIs p) = some A.length := by
    refine findIdx_last (fun x hx => ?_) (by simp [portIs, askB])
    have := h x hx
    unfold prt at this
    unfold portIs
    rw [beq_eq_false_iff_ne]
    exact this
  have h2 : (A ++ [askB ih ip p u0])[A.length]? = some (askB ih ip p u0) := by
    rw [List.getElem?_append_right (Nat.le_refl _), Nat.sub_self]
    rfl
  unfold natIn
  rw [h1]
  simp only
  rw [h2]
  rfl
theorem natIn_no {fi p fh fp : Int} {A : List BX} (h : ∀ x ∈ A, prt x ≠ p) : natIn fi A p fh fp = (0, 0, 8) := by
  have h1 : A.findIdx? (portIs p) = none := by
    refine findIdx_no (fun x hx => ?_)
    have := h x hx
    unfold prt at this
    unfold portIs
    rw [beq_eq_false_iff_ne]
    exact this
  unfold natIn
  rw [h1]
theorem used_false {rs : List BX} {p : Int} (h : used rs p = false) : ∀ x ∈ rs, prt x ≠ p := by
  intro x hx e
  unfold used at h
  rw [List.any_eq_false] at h
  exact h x hx (by unfold portIs; simpa [prt] using e)
end Go.Proofs.Ytnmdnkmemjfoeaa.NatS
namespace Go.Proofs.Ytnmdnkmemjfoeaa
open Go Go.Eng
abbrev BX := NatS.BX
abbrev SB := NatS.SB
abbrev BI := NatS.BI
abbrev BY := List ((Int × Int) × (Int × Int))
theorem ask_read {v i p s n r e h : Int} {host : Bool} (hp : askP v i p s n r e h host) :
    raOK (askF v i p s n r e h host) ∧ rI (askF v i p s n r e h host) = i ∧ rP (askF v i p s n r e h host) = p ∧ rS (askF v i p s n r e h host) = s ∧ decide ((askF v i p s n r e h host).length = 2) = host := by
  have hp' := hp
  obtain ⟨hf, ⟨rfl, rfl, rfl, rfl, rfl⟩, hh⟩ := hp'
  cases host with
  | true =>
    obtain ⟨rfl, rfl, rfl⟩ := hh rfl
    have e : askF 0 0 0 0 0 0 0 0 true = [0, 0] := by decide
    rw [e]
    refine ⟨⟨by decide, ?_⟩, by decide, by decide, by decide, by decide⟩
    exact e
  | false =>
    have e : askF 0 i p s 0 0 0 0 false = [0, 1, 0, 0] ++ bigF i 2 ++ bigF p 2 ++ bigF s 4 := by
      unfold askF; rw [if_pos hp]; rfl
    have hl : (askF 0 i p s 0 0 0 0 false).length = 12 := by rw [e]; simp [bigF_len]
    unfold fitsP at hf
    have h1 : rI (askF 0 i p s 0 0 0 0 false) = i := by
      unfold rI; rw [if_pos hl, e]
      show num (bigF i 2) = i
      exact num_bigF_lt (by omega) (by simp; omega)
    have h2 : rP (askF 0 i p s 0 0 0 0 false) = p := by
      unfold rP; rw [if_pos hl, e]
      show num (bigF p 2) = p
      exact num_bigF_lt (by omega) (by simp; omega)
    have h3 : rS (askF 0 i p s 0 0 0 0 false) = s := by
      unfold rS; rw [if_pos hl, e]
      show num (bigF s 4) = s
      exact num_bigF_lt (by omega) (by simp; omega)
    have h4 : decide ((askF 0 i p s 0 0 0 0 false).length = 2) = false := by rw [hl]; rfl
    refine ⟨⟨.inr hl, ?_⟩, h1, h2, h3, h4⟩
    rw [h1, h2, h3, h4]
theorem ans_read {v i p s n r e h : Int} {host : Bool} (h0 : 0 ≤ h) (h1 : h ≤ 4294967295) (hp : ansP v i p s n r e h host) :
    let b := ansF v i p s n r e h host
    anOK b ∧ aI b = i ∧ aP b = p ∧ aS b = s ∧ aR b = r ∧ aE b = e ∧ aH b = h ∧ decide (b.length = 12) = host := by
  have hp' := hp
  obtain ⟨hf, ⟨rfl, rfl⟩, hh, hz⟩ := hp'
  unfold fitsP at hf
  intro b
  cases host with
  | true =>
    obtain ⟨rfl, rfl, rfl⟩ := hh rfl
    have eb : b = [0, 128] ++ bigF r 2 ++ bigF e 4 ++ bigF h 4 := by
      show ansF _ _ _ _ _ _ _ _ _ = _
      unfold ansF; rw [if_pos hp]; rfl
    have hl : b.length = 12 := by rw [eb]; simp [bigF_len]
    have q1 : aI b = 0 := by unfold aI; rw [if_pos hl]
    have q2 : aP b = 0 := by unfold aP; rw [if_pos hl]
    have q3 : aS b = 0 := by unfold aS; rw [if_pos hl]
    have q4 : aR b = r := by
      unfold aR; rw [eb]
      show num (bigF r 2) = r
      exact num_bigF_lt (by omega) (by simp; omega)
    have q5 : aE b = e := by
      unfold aE; rw [eb]
      show num (bigF e 4) = e
      exact num_bigF_lt (by omega) (by simp; omega)
    have q6 : aH b = h := by
      unfold aH; rw [if_pos hl, eb]
      show num (bigF h 4) = h
      exact num_bigF_lt (by omega) (by simp; omega)
    have q7 : decide (b.length = 12) = true := by rw [hl]; rfl
    refine ⟨⟨.inl hl, ?_⟩, q1, q2, q3, q4, q5, q6, q7⟩
    rw [q1, q2, q3, q4, q5, q6, q7]
  | false =>
    obtain rfl := hz rfl
    have eb : b = [0, 129] ++ bigF r 2 ++ bigF e 4 ++ bigF i 2 ++ bigF p 2 ++ bigF s 4 := by
      show ansF _ _ _ _ _ _ _ _ _ = _
      unfold ansF; rw [if_pos hp]; rfl
    have hl : b.length = 16 := by rw [eb]; simp [bigF_len]
    have hl' : ¬ b.length = 12 := by omega
    have q1 : aI b = i := by
      unfold aI; rw [if_neg hl', eb]
      show num (bigF i 2) = i
      exact num_bigF_lt (by omega) (by simp; omega)
    have q2 : aP b = p := by
      unfold aP; rw [if_neg hl', eb]
      show num (bigF p 2) = p
      exact num_bigF_lt (by omega) (by simp; omega)
    have q3 : aS b = s := by
      unfold aS; rw [if_neg hl', eb]
      show num (bigF s 4) = s
      exact num_bigF_lt (by omega) (by simp; omega)
    have q4 : aR b = r := by
      unfold aR; rw [eb]
      show num (bigF r 2) = r
      exact num_bigF_lt (by omega) (by simp; omega)
    have q5 : aE b = e := by
      unfold aE; rw [eb]
      show num (bigF e 4) = e
      exact num_bigF_lt (by omega) (by simp; omega)
    have q6 : aH b = 0 := by unfold aH; rw [if_neg hl']
    have q7 : decide (b.length = 12) = false := by rw [hl]; rfl
    refine ⟨⟨.inr hl, ?_⟩, q1, q2, q3, q4, q5, q6, q7⟩
    rw [q1, q2, q3, q4, q5, q6, q7]
theorem readAnsF {i p s r e h : Int} {host : Bool} {K : Int → Int → Int → Int → Int → Int → Int → Int → Bool → Int → Prop} (h0 : 0 ≤ h) (h1 : h ≤ 4294967295) (hp : ansP 0 i p s 0 r e h host) (hK : K 0 i p s 0 r e h host 0) : pmp_ReadAnswer_wp (ansF 0 i p s 0 r e h host) K := by
  obtain ⟨q0, q1, q2, q3, q4, q5, q6, q7⟩ := ans_read h0 h1 hp
  refine readAns_wp (ansF_bytes _ _ _ _ _ _ _ _ _) (fun _ => ?_) (fun hn => absurd q0 hn)
  rw [q1, q2, q3, q4, q5, q6, q7]
  exact hK
theorem readAnsNil {K : Int → Int → Int → Int → Int → Int → Int → Int → Bool → Int → Prop} (hK : K 0 0 0 0 0 0 0 0 false 3) : pmp_ReadAnswer_wp [] K := by
  refine readAns_wp isBytes_nil (fun ha => ?_) (fun _ => hK)
  obtain ⟨hl, -⟩ := ha
  simp at hl
theorem askF_head {v i p s n r e h : Int} {host : Bool} (hp : askP v i p s n r e h host) : (askF v i p s n r e h host)[0]? = some 0 := by
  unfold askF
  rw [if_pos hp]
  cases host <;> rfl
theorem epoch_wp {h lo hi mp fi li mo now boot gnow t g3 : Int} {g1 g2 : Bool} {by_ : BY} {K : Int → Prop} (h0 : 0 ≤ boot) (h1 : boot ≤ t) (h2 : t - boot ≤ 4294967295) (hK : K (t - boot)) : gG_Epoch_wp h lo hi mp fi li mo now g1 g2 g3 boot gnow by_ t K := by
  unfold gG_Epoch_wp
  rw [wrap_i64 (x := t - boot) (by omega) (by omega), if_neg (by omega), if_neg (by omega)]
  exact hK
theorem gnew_wp {h lo hi mp fi li mo now t g3 : Int} {g1 g2 : Bool} {K : Int → Prop} {KX : Int → Bool → Bool → Int → Int → Int → BY → Prop} (h1 : 1 ≤ g3) (h2 : g3 ≤ 4294967295) (t0 : 0 ≤ t) (t1 : t ≤ 1099511627776) (hK : KX 0 g1 g2 g3 t t []) : gate_New_wp h lo hi mp fi li mo now g1 g2 g3 t K KX := by
  unfold gate_New_wp gate_mayTime_wp
  refine joinP1.i (cond_d (fun hx => by omega) (fun _ => cond_d (fun hx => by omega) (fun _ => cond_d (fun _ => ?_) (fun hx => by omega))))
  rw [decide_eq_true t1]
  exact hK
theorem secs_min (a b : Int) : (if a < b then a else b) = min b a := by split <;> omega
/-- What a NAT-PMP datagram may make. -/
structure PmpK (g1 : Bool) (t ep fh g3 : Int) (b : List Int) (l : List (Option Nat)) (now : Int) (by_ : BY) (m : SB) (bs : List BX) (K : List Int → List (Option Nat) → Int → BY → SB → Prop) : Prop where
  off : g1 = false → K (pansF 2 0 0 0 0 1 ep 0) l now by_ m
  bad : g1 = true → ¬ raOK b → K [] l now by_ m
  host : g1 = true → raOK b → b.length = 2 → K (ansF 0 0 0 0 0 0 ep 3405803777 true) l now by_ m
  drop : g1 = true → raOK b → b.length = 12 → rS b = 0 → ∀ l', NatS.Rep m l' (NatS.natDrop (NatS.live t bs) fh (rI b)).2 → K (ansF 0 (rI b) 0 0 0 0 ep 0 false) l' t (mapDel by_ (fh, rI b)) m
  arg : g1 = true → raOK b → b.length = 12 → rS b ≠ 0 → ¬ NatS.mayP fh (rI b) → K (ansF 0 (rI b) 0 0 0 2 ep 0 false) l now by_ m
  ask : g1 = true → raOK b → b.length = 12 → rS b ≠ 0 → NatS.mayP fh (rI b) → ∀ l' m', NatS.Rep m' l' (NatS.natAsk 40000 40009 12 (NatS.live t bs) fh (rI b) (rP b) (t + min (rS b) g3)).2 →
    ((NatS.natAsk 40000 40009 12 (NatS.live t bs) fh (rI b) (rP b) (t + min (rS b) g3)).1.2 = 0 → K (ansF 0 (rI b) (NatS.natAsk 40000 40009 12 (NatS.live t bs) fh (rI b) (rP b) (t + min (rS b) g3)).1.1 (min (rS b) g3) 0 0 ep 0 false) l' t (mapDel by_ (fh, rI b)) m') ∧
    ((NatS.natAsk 40000 40009 12 (NatS.live t bs) fh (rI b) (rP b) (t + min (rS b) g3)).1.2 = 10 → K (ansF 0 (rI b) 0 0 0 4 ep 0 false) l' t by_ m')
theorem raS {b : List Int} (hb : isBytes b) : 0 ≤ rS b ∧ rS b ≤ 4294967295 := by
  unfold rS
  split
  · exact num4 (by unfold seg; rw [List.length_drop, List.length_take]; omega) (seg_bytes hb)
  · omega
theorem gpmp_wp {mp fi now g3 boot gnow t fh fp : Int} {g1 g2 : Bool} {l : List (Option Nat)} {by_ : BY} {b : List Int} {m : SB} {bs : List BX} {K : List Int → List (Option Nat) → Int → BY → SB → Prop}
    (hr : NatS.Rep m l bs) (hl : bs.length ≤ 1000) (hbb : isBytes b) (h0 : 0 ≤ boot) (h1 : boot ≤ t) (ht : t ≤ 1073741824) (hn : now ≤ t) (hg1 : 1 ≤ g3) (hg2 : g3 ≤ 4294967295)
    (H : PmpK g1 t (t - boot) fh g3 b l now by_ m bs K) :
    gG_pmp_wp 3405803777 40000 40009 mp fi 30 12 l now g1 g2 g3 boot gnow by_ t fh fp b m K := by
  unfold gG_pmp_wp
  refine epoch_wp h0 h1 (by omega) ?_
  cases hg : g1 with
  | false => exact cond_t rfl (pans_wp (by decide) (by decide) (H.off hg))
  | true =>
    have hs := raS hbb
    refine cond_f rfl (readAsk_wp hbb (fun ha => cond_f rfl ?_) (fun ha => cond_t rfl (H.bad hg ha)))
    have hlen := ha.1
    by_cases h2 : b.length = 2
    · rw [decide_eq_true h2]
      refine cond_t rfl ?_
      unfold nN_Box_wp
      exact answer_wp (by decide) (by decide) (H.host hg ha h2)
    · rw [decide_eq_false h2]
      have h12 : b.length = 12 := by omega
      refine cond_f rfl (cond_e (fun hz => ?_) (fun hz => ?_))
      · unfold gG_drop_wp
        exact NatS.drop_wp hr (by omega) (fun hc => absurd ⟨hn, by omega⟩ hc) (fun _ l' hr' _ => answer_wp (by decide) (by decide) (H.drop hg ha h12 hz l' hr'))
      · unfold gG_grant_wp
        rw [secs_min, wrap_i64 (x := t + min (rS b) g3) (by omega) (by omega)]
        refine NatS.ask_wp hr (by omega) (by decide) (by decide) (fun hc => ?_) (fun hc l' m' hr' _ => ?_)
        · refine cond_n (fun _ => ?_) (fun hx => absurd hx (by decide))
          refine joinP2.i (cond_f rfl (cond_f rfl (answer_wp (by decide) (by decide) (H.arg hg ha h12 hz (fun hm => hc ⟨hm, ?_⟩)))))
          omega
        · have hA := H.ask hg ha h12 hz hc.1 l' m' hr'
          rcases NatS.natAsk_code (lo := 40000) (hi := 40009) (mo := 12) (ih := fh) (ip := rI b) (wish := rP b) (u := t + min (rS b) g3) (bs := NatS.live t bs) with e | e
          · rw [e]
            refine cond_n (fun hx => absurd rfl hx) (fun _ => joinP2.i (cond_t rfl (answer_wp (by decide) (by decide) (hA.1 e))))
          · rw [e]
            refine cond_n (fun _ => joinP2.i (cond_f rfl (cond_t rfl (answer_wp (by decide) (by decide) (hA.2 e))))) (fun hx => absurd hx (by decide))
theorem gasked_wp {mp fi now g3 boot gnow t fh fp : Int} {g1 g2 : Bool} {l : List (Option Nat)} {by_ : BY} {m : SB} {bs : List BX} {K : Int → Int → Int → Int → Int → Int → Bool → Bool → List (Option Nat) → Int → SB → Prop}
    (hr : NatS.Rep m l bs) (hl : bs.length ≤ 1000) (hn : now ≤ t) (ht : t ≤ 1099511627776) (hu : ∀ x ∈ NatS.live t bs, ∀ y ∈ NatS.live t bs, NatS.isAsked fh fp x = true → NatS.isAsked fh fp y = true → x = y)
    (h0 : (NatS.live t bs).find? (NatS.isAsked fh fp) = none → ∀ l' m', NatS.Rep m' l' (NatS.live t bs) → K 0 0 0 0 0 0 false false l' t m')
    (h1 : ∀ x, (NatS.live t bs).find? (NatS.isAsked fh fp) = some x → ∀ l' m', NatS.Rep m' l' (NatS.live t bs) → K x.1 x.2.1 x.2.2.1 x.2.2.2.1 x.2.2.2.2.1 x.2.2.2.2.2.1 x.2.2.2.2.2.2.1 true l' t m') :
    gG_asked_wp 3405803777 40000 40009 mp fi 30 12 l now g1 g2 g3 boot gnow by_ t fh fp m K := by
  unfold gG_asked_wp
  have hll := NatS.live_len (t := t) (bs := bs)
  refine joinP3.i (NatS.all_wp hr (by omega) (fun hc => absurd ⟨hn, ht⟩ hc) (fun _ l' m' rs hr' _ hp hs => ?_))
  have hlen := hp.length_eq
  rw [List.length_map] at hlen
  refine ⟨fun n i => 0 ≤ i ∧ i ≤ rs.length ∧ n = rs.length - i.toNat ∧ ∀ (j : Nat) z, j < i.toNat → rs[j]? = some z → ¬ (z.1 = fh ∧ z.2.1 = fp ∧ z.2.2.2.2.2.2 = true), ⟨_, by omega, by omega, rfl, fun j z hj => by omega⟩, ?_⟩
  rintro n i ⟨i0, i1, rfl, hno⟩
  refine cond_d (fun hlt => ?_) (fun hge => ?_)
  · refine ⟨i0, hlt, fun z hz => ?_⟩
    have goon : ¬ (z.1 = fh ∧ z.2.1 = fp ∧ z.2.2.2.2.2.2 = true) → ∃ (n_6 : Nat), n_6 < rs.length - i.toNat ∧ (0 ≤ (IntKind.wrap .i64 (i + 1)) ∧ (IntKind.wrap .i64 (i + 1)) ≤ rs.length ∧ n_6 = rs.length - (IntKind.wrap .i64 (i + 1)).toNat ∧ ∀ (j : Nat) z, j < (IntKind.wrap .i64 (i + 1)).toNat → rs[j]? = some z → ¬ (z.1 = fh ∧ z.2.1 = fp ∧ z.2.2.2.2.2.2 = true)) := by
      intro hzn
      rw [wrap_i64 (x := i + 1) (by omega) (by omega)]
      refine ⟨_, ?_, by omega, by omega, rfl, fun j y hj hy => ?_⟩
      · omega
      · by_cases ej : j = i.toNat
        · subst ej; rw [hz] at hy; cases hy; exact hzn
        · exact hno j y (by omega) hy
    refine ⟨fun b => b = true ↔ (z.1 = fh ∧ z.2.1 = fp ∧ z.2.2.2.2.2.2 = true), fun b hb => ?_, ?_⟩
    · refine cond_b (fun e => ?_) (fun e => goon (fun hx => by rw [hb.2 hx] at e; cases e))
      obtain ⟨e1, e2, e3⟩ := hb.1 e
      have hm : z ∈ (NatS.live t bs).map NatS.bi := hp.mem_iff.1 (List.mem_of_getElem? hz)
      obtain ⟨x, hx, rfl⟩ := List.mem_map.1 hm
      have hxa : NatS.isAsked fh fp x = true := by
        unfold NatS.bi at e1 e2 e3
        simp only at e1 e2 e3
        simp [NatS.isAsked, NatS.inIs, e1, e2, e3]
      cases hf : (NatS.live t bs).find? (NatS.isAsked fh fp) with
      | none => rw [List.find?_eq_none] at hf; exact absurd hxa (hf x hx)
      | some y =>
        have hy := List.mem_of_find?_eq_some hf
        have hya := List.find?_some hf
        have := hu x hx y hy hxa hya
        subst this
        exact h1 x hf l' m' hr'
    · refine cond_b (fun e => ?_) (fun e => ?_)
      · simp only [Bool.and_true, Bool.and_eq_true, beq_iff_eq] at e
        exact ⟨fun h => ⟨e.1, e.2, h⟩, fun h => h.2.2⟩
      · refine ⟨fun h => (by cases h), fun h => ?_⟩
        rw [h.1, h.2.1] at e
        simp at e
  · cases hf : (NatS.live t bs).find? (NatS.isAsked fh fp) with
    | none => exact h0 hf l' m' hr'
    | some y =>
      have hy := List.mem_of_find?_eq_some hf
      have hya := List.find?_some hf
      have hm : NatS.bi y ∈ rs := hp.mem_iff.2 (List.mem_map.2 ⟨y, hy, rfl⟩)
      obtain ⟨j, hj, ej⟩ := List.getElem_of_mem hm
      refine absurd ?_ (hno j (NatS.bi y) (by omega) (by rw [List.getElem?_eq_getElem hj, ej]))
      simp only [NatS.isAsked, NatS.inIs, Bool.and_true, Bool.and_eq_true, beq_iff_eq] at hya
      exact ⟨hya.1.1, hya.1.2, hya.2⟩
/-- Whether a binding that was asked for is another one's. -/
def othB (bs : List BX) (by_ : BY) (fh ip n : Int) : Bool := match bs.find? (NatS.isAsked fh ip) with
  | none => false
  | some x => !(mapHas by_ (fh, ip)) || (((mapGet by_ (fh, ip) (0, 0)).1 != NatS.prt x) || ((mapGet by_ (fh, ip) (0, 0)).2 != n))
theorem gothers_wp {mp fi now g3 boot gnow t fh fp v i p s n r e hh : Int} {g1 g2 : Bool} {l : List (Option Nat)} {by_ : BY} {m : SB} {bs : List BX} {K : Bool → List (Option Nat) → Int → SB → Prop}
    (hr : NatS.Rep m l bs) (hl : bs.length ≤ 1000) (hn : now ≤ t) (ht : t ≤ 1099511627776) (hu : ∀ x ∈ NatS.live t bs, ∀ y ∈ NatS.live t bs, NatS.isAsked fh fp x = true → NatS.isAsked fh fp y = true → x = y)
    (hK : ∀ l' m', NatS.Rep m' l' (NatS.live t bs) → K (othB (NatS.live t bs) by_ fh fp n) l' t m') :
    gG_others_wp 3405803777 40000 40009 mp fi 30 12 l now g1 g2 g3 boot gnow by_ t fh fp v i p s n r e hh m K := by
  unfold gG_others_wp
  refine gasked_wp hr hl hn ht hu (fun hf l' m' hr' => cond_f rfl ?_) (fun x hf l' m' hr' => cond_t rfl ?_)
  · have := hK l' m' hr'
    unfold othB at this
    rw [hf] at this
    exact this
  · have := hK l' m' hr'
    unfold othB at this
    rw [hf] at this
    simp only at this
    cases h1 : mapHas by_ (fh, fp) with
    | false => rw [h1] at this; exact this
    | true =>
      rw [h1] at this
      refine cond_f rfl (cond_n (fun hx => ?_) (fun hx => ?_))
      · have e : ((mapGet by_ (fh, fp) (0, 0)).1 != NatS.prt x) = true := by rw [bne_iff_ne]; exact hx
        rw [e] at this
        exact this
      · have e : ((mapGet by_ (fh, fp) (0, 0)).1 != NatS.prt x) = false := by
          rw [bne_eq_false_iff_eq]; exact hx
        rw [e] at this
        exact this
/-- What a PCP datagram may make. -/
structure PcpK (g2 : Bool) (t ep fh g3 : Int) (b : List Int) (l : List (Option Nat)) (now : Int) (by_ : BY) (m : SB) (bs : List BX) (K : List Int → List (Option Nat) → Int → BY → SB → Prop) : Prop where
  off : g2 = false → K (ansF 0 0 0 0 0 1 ep 0 true) l now by_ m
  bad : g2 = true → ¬ praOK b → K [] l now by_ m
  client : g2 = true → praOK b → gC b ≠ fh → K (pansF 2 (gI b) 0 0 (gN b) 12 ep 0) l now by_ m
  oth : g2 = true → praOK b → gC b = fh → othB (NatS.live t bs) by_ fh (gI b) (gN b) = true → ∀ l' m', NatS.Rep m' l' (NatS.live t bs) → K (pansF 2 (gI b) 0 0 (gN b) 2 ep 0) l' t by_ m'
  drop : g2 = true → praOK b → gC b = fh → othB (NatS.live t bs) by_ fh (gI b) (gN b) = false → gS b = 0 → ∀ l' m', NatS.Rep m' l' (NatS.natDrop (NatS.live t bs) fh (gI b)).2 → K (pansF 2 (gI b) 0 0 (gN b) 0 ep 0) l' t (mapDel by_ (fh, gI b)) m'
  arg : g2 = true → praOK b → gC b = fh → othB (NatS.live t bs) by_ fh (gI b) (gN b) = false → gS b ≠ 0 → ¬ NatS.mayP fh (gI b) → ∀ l' m', NatS.Rep m' l' (NatS.live t bs) → K (pansF 2 (gI b) 0 0 (gN b) 3 ep 0) l' t by_ m'
  ask : g2 = true → praOK b → gC b = fh → othB (NatS.live t bs) by_ fh (gI b) (gN b) = false → gS b ≠ 0 → NatS.mayP fh (gI b) → ∀ l' m', NatS.Rep m' l' (NatS.natAsk 40000 40009 12 (NatS.live t bs) fh (gI b) (gP b) (t + min (gS b) g3)).2 →
    ((NatS.natAsk 40000 40009 12 (NatS.live t bs) fh (gI b) (gP b) (t + min (gS b) g3)).1.2 = 0 → K (pansF 2 (gI b) (NatS.natAsk 40000 40009 12 (NatS.live t bs) fh (gI b) (gP b) (t + min (gS b) g3)).1.1 (min (gS b) g3) (gN b) 0 ep 3405803777) l' t (mapPut by_ (fh, gI b) ((NatS.natAsk 40000 40009 12 (NatS.live t bs) fh (gI b) (gP b) (t + min (gS b) g3)).1.1, gN b)) m') ∧
    ((NatS.natAsk 40000 40009 12 (NatS.live t bs) fh (gI b) (gP b) (t + min (gS b) g3)).1.2 = 10 → K (pansF 2 (gI b) 0 0 (gN b) 8 ep 0) l' t by_ m')
theorem gpcp_wp {mp fi now g3 boot gnow t fh fp : Int} {g1 g2 : Bool} {l : List (Option Nat)} {by_ : BY} {b : List Int} {m : SB} {bs : List BX} {K : List Int → List (Option Nat) → Int → BY → SB → Prop}
    (hr : NatS.Rep m l bs) (hl : bs.length ≤ 1000) (hbb : isBytes b) (h0 : 0 ≤ boot) (h1 : boot ≤ t) (ht : t ≤ 1073741824) (hn : now ≤ t) (hg1 : 1 ≤ g3) (hg2 : g3 ≤ 4294967295)
    (hu : ∀ x ∈ NatS.live t bs, ∀ y ∈ NatS.live t bs, NatS.isAsked fh (gI b) x = true → NatS.isAsked fh (gI b) y = true → x = y)
    (H : PcpK g2 t (t - boot) fh g3 b l now by_ m bs K) :
    gG_pcp_wp 3405803777 40000 40009 mp fi 30 12 l now g1 g2 g3 boot gnow by_ t fh fp b m K := by
  unfold gG_pcp_wp
  refine epoch_wp h0 h1 (by omega) ?_
  cases hg : g2 with
  | false => exact cond_t rfl (answer_wp (by decide) (by decide) (H.off hg))
  | true =>
    have hs : 0 ≤ gS b ∧ gS b ≤ 4294967295 := seg4 (by omega) hbb
    refine cond_f rfl (preadAsk_wp hbb (fun ha => cond_f rfl ?_) (fun ha => cond_t rfl (H.bad hg ha)))
    refine cond_n (fun hc => pans_wp (by decide) (by decide) (H.client hg ha hc)) (fun hc => ?_)
    refine gothers_wp hr hl hn (by omega) hu (fun l' m' hr' => ?_)
    have hll := NatS.live_len (t := t) (bs := bs)
    refine cond_b (fun ho => pans_wp (by decide) (by decide) (H.oth hg ha hc ho l' m' hr')) (fun ho => cond_e (fun hz => ?_) (fun hz => ?_))
    · unfold gG_drop_wp
      refine NatS.drop_wp hr' (by omega) (fun hx => absurd ⟨Int.le_refl t, by omega⟩ hx) (fun _ l2 hr2 _ => pans_wp (by decide) (by decide) ?_)
      rw [NatS.live_live] at hr2
      exact H.drop hg ha hc ho hz l2 m' hr2
    · unfold gG_grant_wp
      rw [secs_min, wrap_i64 (x := t + min (gS b) g3) (by omega) (by omega)]
      refine NatS.ask_wp hr' (by omega) (by decide) (by decide) (fun hx => ?_) (fun hx l2 m2 hr2 _ => ?_)
      · refine cond_n (fun _ => ?_) (fun hx => absurd hx (by decide))
        refine joinP3.i (cond_f rfl (cond_f rfl (pans_wp (by decide) (by decide) (H.arg hg ha hc ho hz (fun hm => hx ⟨hm, ?_⟩) l' m' hr'))))
        omega
      · rw [NatS.live_live] at hr2 ⊢
        have hA := H.ask hg ha hc ho hz hx.1 l2 m2 hr2
        rcases NatS.natAsk_code (lo := 40000) (hi := 40009) (mo := 12) (ih := fh) (ip := gI b) (wish := gP b) (u := t + min (gS b) g3) (bs := NatS.live t bs) with e | e
        · rw [e]
          refine cond_n (fun hx => absurd rfl hx) (fun _ => joinP3.i (cond_t rfl ?_))
          unfold nN_Box_wp
          exact pans_wp (by decide) (by decide) (hA.1 e)
        · rw [e]
          refine cond_n (fun _ => joinP3.i (cond_f rfl (cond_t rfl (pans_wp (by decide) (by decide) (hA.2 e))))) (fun hx => absurd hx (by decide))
theorem gmayTime_wp {t : Int} {K : Bool → Prop} (h0 : 0 ≤ t) (h1 : t ≤ 1099511627776) (hK : K true) : gate_mayTime_wp t K := by
  unfold gate_mayTime_wp
  refine cond_d (fun _ => ?_) (fun hx => by omega)
  rw [decide_eq_true h1]
  exact hK
theorem ghear_wp {mp fi now g3 boot gnow t fh fp : Int} {g1 g2 : Bool} {l : List (Option Nat)} {by_ : BY} {b : List Int} {m : SB} {K : List Int → Int → List (Option Nat) → Int → BY → SB → Prop}
    (hbb : isBytes b) (h0 : 0 ≤ t) (ht : t ≤ 1099511627776) (hg : gnow ≤ t) (hg12 : g1 = true ∨ g2 = true)
    (hno : ¬ NatS.mayP fh fp → K [] gnow l now by_ m)
    (hnil : NatS.mayP fh fp → b = [] → K [] t l now by_ m)
    (hoth : NatS.mayP fh fp → ∀ x, b[0]? = some x → x ≠ 0 → x ≠ 2 → K [] t l now by_ m)
    (hpmp : NatS.mayP fh fp → b[0]? = some 0 → gG_pmp_wp 3405803777 40000 40009 mp fi 30 12 l now g1 g2 g3 boot t by_ t fh fp b m (fun rs l' n' by' m' => K rs t l' n' by' m'))
    (hpcp : NatS.mayP fh fp → b[0]? = some 2 → gG_pcp_wp 3405803777 40000 40009 mp fi 30 12 l now g1 g2 g3 boot t by_ t fh fp b m (fun rs l' n' by' m' => K rs t l' n' by' m')) :
    gG_Hear_wp 3405803777 40000 40009 mp fi 30 12 l now g1 g2 g3 boot gnow by_ t fh fp b m K := by
  unfold gG_Hear_wp
  refine joinP0.i ⟨fun x => x = true ∧ ¬ NatS.mayP fh fp ∨ x = false ∧ NatS.mayP fh fp, ?_, ?_⟩
  · rintro x (⟨rfl, hm⟩ | ⟨rfl, hm⟩)
    · exact cond_t rfl (hno hm)
    · refine cond_f rfl (ver_wp hbb (fun x hx => ?_) (fun hb => ?_))
      · refine cond_e (fun e => ?_) (fun n0 => cond_e (fun e => ?_) (fun n2 => hoth hm x hx n0 n2))
        · subst e; exact hpmp hm hx
        · subst e; exact hpcp hm hx
      · exact hnil hm hb
  · refine NatS.addrMay_wp ?_
    by_cases hm : NatS.mayP fh fp
    · rw [decide_eq_true hm]
      refine cond_f rfl (gmayTime_wp h0 ht (cond_f rfl (cond_d (fun hx => by omega) (fun _ => ?_))))
      rcases hg12 with e | e
      · rw [e]; exact .inr ⟨rfl, hm⟩
      · rw [e]
        cases g1 with
        | true => exact .inr ⟨rfl, hm⟩
        | false => exact .inr ⟨rfl, hm⟩
    · rw [decide_eq_false hm]
      exact cond_t rfl (.inl ⟨rfl, hm⟩)
theorem box0_wp {K : Int → Int → Int → Int → Int → Int → Int → Prop} (hK : K 3405803777 40000 40009 0 0 30 12) : l8_Box_wp 0 K := NatS.box_wp (by omega) hK
theorem box8_wp {K : Int → Int → Int → Int → Int → Int → Int → Prop} (hK : K 3405803777 40000 40009 2 2 30 12) : l8_Box_wp 8 K := NatS.box_wp (by omega) hK
theorem nnew_wp {mp fi : Int} {K : Int → Prop} {KX : Int → Int → Int → Int → Int → Int → Int → Int → List (Option Nat) → Int → Prop} (h : mp = 0 ∧ fi = 0 ∨ mp = 2 ∧ fi = 2) (hK : KX 0 3405803777 40000 40009 mp fi 30 12 [] 0) : nat_New_wp 3405803777 40000 40009 mp fi 30 12 K KX :=
  NatS.newNat_wp (fun hn => absurd (by rcases h with ⟨rfl, rfl⟩ | ⟨rfl, rfl⟩ <;> decide) hn) (fun _ => hK)
theorem gawake_wp {K : Bool → Prop} (hK : K true) : law_awake_wp K := by
  unfold law_awake_wp
  refine box0_wp (nnew_wp (by decide) (joinP1.i (cond_f rfl ?_)))
  refine gnew_wp (by decide) (by decide) (by decide) (by decide) (joinP1.i (cond_f rfl ?_))
  have hb0 : isBytes [0, 0] := by unfold isBytes; decide
  have hb2 : isBytes [2] := by unfold isBytes; decide
  refine ghear_wp hb0 (by decide) (by decide) (by decide) (.inl rfl) (fun hm => absurd (by decide) hm) (fun _ h => by cases h) (fun _ x hx h0 => absurd (Option.some.inj hx).symm h0) (fun _ _ => ?_) (fun _ hx => by cases hx)
  have hra : raOK [0, 0] := ⟨.inl rfl, rfl⟩
  refine gpmp_wp (NatS.Rep.nil _) (by decide) hb0 (by decide) (by decide) (by decide) (by decide) (by decide) (by decide) ⟨fun h => (by cases h), fun _ h => absurd hra h, fun _ _ _ => ?_, fun _ _ h => (by cases h), fun _ _ h => (by cases h), fun _ _ h => (by cases h)⟩
  refine readAnsF (by decide) (by decide) (by decide) ?_
  refine cond_t rfl (cond_t rfl (cond_t rfl (cond_t rfl ?_)))
  refine epoch_wp (by decide) (by decide) (by decide) (cond_t rfl ?_)
  refine ghear_wp hb2 (by decide) (by decide) (by decide) (.inl rfl) (fun hm => absurd (by decide) hm) (fun _ h => by cases h) (fun _ x hx h0 h2 => absurd (Option.some.inj hx).symm h2) (fun _ hx => by cases hx) (fun _ _ => ?_)
  refine gpcp_wp (NatS.Rep.nil _) (by decide) hb2 (by decide) (by decide) (by decide) (by decide) (by decide) (by decide) (fun x hx => by cases hx) ⟨fun _ => ?_, fun h => (by cases h), fun h => (by cases h), fun h => (by cases h), fun h => (by cases h), fun h => (by cases h), fun h => (by cases h)⟩
  have e : ((((ansF 0 0 0 0 0 1 (105 - 100) 0 true).length : Nat) : Int) == 12) = true := by decide
  rw [e]
  exact hK
end Go.Proofs.Ytnmdnkmemjfoeaa
