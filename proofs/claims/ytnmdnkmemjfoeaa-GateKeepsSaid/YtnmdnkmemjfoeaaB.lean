/- The gateway's laws GateDeaf, GateEpochs, GateKeeps (plain side). -/
import Derived.Test.YtnmdnkmemjfoeaaA
namespace Go.Proofs.Ytnmdnkmemjfoeaa
open Go Go.Eng
theorem allNil_wp {mp fi now t : Int} {m : SB} {l : List (Option Nat)} {K : List BI → List (Option Nat) → Int → SB → Prop} (hr : NatS.Rep m l []) (hK : ∀ l' n' m', K [] l' n' m') : nat_Nat_All_wp 3405803777 40000 40009 mp fi 30 12 l now t m K := by
  refine NatS.all_wp hr (by decide) (fun _ => hK _ _ _) (fun _ l' m' rs _ _ hp _ => ?_)
  have : rs = [] := List.Perm.eq_nil hp
  subst this
  exact hK _ _ _
theorem rep_one {t ih ip p u : Int} (h : t < u) : NatS.live t [NatS.askB ih ip p u] = [NatS.askB ih ip p u] := NatS.live_have (A := []) h
theorem allOne_wp {mp fi now t ih ip p u : Int} {m : SB} {l : List (Option Nat)} {K : List BI → List (Option Nat) → Int → SB → Prop} (hr : NatS.Rep m l [NatS.askB ih ip p u]) (hn : now ≤ t) (ht : t ≤ 1099511627776) (hu : t < u) (hK : ∀ l' m', NatS.Rep m' l' [NatS.askB ih ip p u] → K [(ih, ip, 0, 0, p, u, true)] l' t m') : nat_Nat_All_wp 3405803777 40000 40009 mp fi 30 12 l now t m K := by
  refine NatS.all_wp hr (by simp) (fun hc => absurd ⟨hn, ht⟩ hc) (fun _ l' m' rs hr' _ hp _ => ?_)
  rw [rep_one hu] at hp hr'
  have : rs = [(ih, ip, 0, 0, p, u, true)] := List.perm_singleton.1 hp
  subst this
  exact hK _ _ hr'
theorem ask_nil {ih ip w u : Int} : ∃ p, NatS.natAsk 40000 40009 12 [] ih ip w u = ((p, 0), [NatS.askB ih ip p u]) ∧ 40000 ≤ p ∧ p ≤ 40009 ∧ (40000 ≤ w → w ≤ 40009 → p = w) := by
  unfold NatS.natAsk
  simp only [List.findIdx?_nil]
  by_cases h : 40000 ≤ w ∧ w ≤ 40009
  · refine ⟨w, ?_, h.1, h.2, fun _ _ => rfl⟩
    have : NatS.chooseP 40000 40009 w [] = some w := by
      unfold NatS.chooseP
      rw [if_pos ⟨h.1, h.2, rfl⟩]
    rw [this]
    rfl
  · refine ⟨40000, ?_, by decide, by decide, fun h1 h2 => absurd ⟨h1, h2⟩ h⟩
    have : NatS.chooseP 40000 40009 w [] = some 40000 := by
      unfold NatS.chooseP
      rw [if_neg (fun hx => h ⟨hx.1, hx.2.1⟩)]
      rfl
    rw [this]
    rfl
theorem paskF_head {i p s n h c : Int} (hp : paskP 2 i p s 0 0) : (paskF 2 i p s n 0 0 h c)[0]? = some 2 := by
  unfold paskF
  rw [if_pos hp]
  rfl
/-- A PCP request that is granted by a box that has no bindings. -/
theorem phearFirst {mp fi now g3 boot gnow t fh fp i p s n : Int} {g1 : Bool} {l : List (Option Nat)} {by_ : BY} {m : SB} {K : List Int → Int → List (Option Nat) → Int → BY → SB → Prop}
    (hr : NatS.Rep m l []) (h0 : 0 ≤ boot) (h1 : boot ≤ t) (ht : t ≤ 1073741824) (hn : now ≤ t) (hg : gnow ≤ t) (hg1 : 1 ≤ g3) (hg2 : g3 ≤ 4294967295) (hm : NatS.mayP fh fp) (hfh : 0 ≤ fh ∧ fh ≤ 4294967295) (hi : 1 ≤ i ∧ i ≤ 65535) (hp : 0 ≤ p ∧ p ≤ 65535) (hs : 1 ≤ s ∧ s ≤ 4294967295) (hn0 : 0 ≤ n ∧ n ≤ 18446744073709551615)
    (hK : ∀ l' m' q, 40000 ≤ q → q ≤ 40009 → NatS.Rep m' l' [NatS.askB fh i q (t + min s g3)] → K (pansF 2 i q (min s g3) n 0 (t - boot) 3405803777) t l' t (mapPut by_ (fh, i) (q, n)) m') :
    gate_Gate_Hear_wp 3405803777 40000 40009 mp fi 30 12 l now g1 true g3 boot gnow by_ t fh fp (paskF 2 i p s n 0 0 0 fh) m K := by
  have hap : paskP 2 i p s 0 0 := ⟨⟨rfl, ⟨by omega, hi.2⟩, hp, ⟨by omega, hs.2⟩, by decide, by decide⟩, rfl, rfl⟩
  obtain ⟨q1, q2, q3, q4, q5, q6, q7⟩ := pask_read (h := 0) hn0.1 hn0.2 (by decide) (by decide) hfh.1 hfh.2 hap
  have hhd := paskF_head (n := n) (h := 0) (c := fh) hap
  refine ghear_wp paskF_bytes (by omega) (by omega) hg (.inr rfl) (fun h => absurd hm h) (fun _ h => by rw [h] at hhd; cases hhd) (fun _ x hx h0 h2 => by rw [hx] at hhd; cases hhd; exact absurd rfl h2) (fun _ h => by rw [h] at hhd; cases hhd) (fun _ _ => ?_)
  refine gpcp_wp hr (by decide) paskF_bytes h0 h1 ht hn hg1 hg2 (fun x hx => by cases hx) ⟨fun h => (by cases h), fun _ h => absurd q1 h, fun _ _ h => absurd q7 h, fun _ _ _ h => absurd (show false = true from h) (by decide), fun _ _ _ _ h => ?_, fun _ _ _ _ _ h => ?_, fun _ _ _ _ _ _ l' m' hr' => ?_⟩
  · rw [q4] at h; omega
  · rw [q2] at h; exact absurd ⟨hm.1, hi⟩ h
  · rw [q2, q3, q4, q5] at *
    obtain ⟨q, eq, hq1, hq2, hq3⟩ := ask_nil (ih := fh) (ip := i) (w := p) (u := t + min s g3)
    have el : NatS.live t [] = [] := rfl
    rw [el, eq] at hr' ⊢
    exact ⟨fun _ => hK l' m' q hq1 hq2 hr', fun h => absurd (show (0 : Int) = 10 from h) (by decide)⟩
theorem same_wp {a : List BI} {K : Bool → Prop} (hl : a.length ≤ 1000000) (h : K true) : embrasureref08_Same_wp a a K := by
  unfold embrasureref08_Same_wp
  refine cond_n (fun hx => absurd rfl hx) (fun _ => ?_)
  refine ⟨fun n i => 0 ≤ i ∧ i ≤ a.length ∧ n = a.length - i.toNat, ⟨_, by omega, by omega, rfl⟩, ?_⟩
  rintro n i ⟨h0, h1, rfl⟩
  refine cond_d (fun hlt => ?_) (fun _ => h)
  refine ⟨h0, hlt, fun x hx => ⟨h0, hlt, fun y hy => ?_⟩⟩
  rw [hx] at hy
  cases hy
  simp only [beq_self_eq_true, Bool.and_true, Bool.not_true, cond_false]
  rw [wrap_i64 (x := i + 1) (by omega) (by omega)]
  exact ⟨_, by omega, by omega, by omega, rfl⟩
/-- A PCP request that isn't asked, or by one who may not be: nothing. -/
theorem phearNone {mp fi now g3 boot gnow t fh fp i p s n h : Int} {g1 g2 : Bool} {l : List (Option Nat)} {by_ : BY} {m : SB} {K : List Int → Int → List (Option Nat) → Int → BY → SB → Prop}
    (h0 : 0 ≤ t) (ht : t ≤ 1099511627776) (hg : gnow ≤ t) (hg12 : g1 = true ∨ g2 = true) (hc : ¬ NatS.mayP fh fp ∨ ¬ paskP 2 i p s 0 0) (hK : ∀ g', K [] g' l now by_ m) :
    gate_Gate_Hear_wp 3405803777 40000 40009 mp fi 30 12 l now g1 g2 g3 boot gnow by_ t fh fp (paskF 2 i p s n 0 0 h fh) m K := by
  by_cases hm : NatS.mayP fh fp
  · have hn : paskF 2 i p s n 0 0 h fh = [] := by
      unfold paskF
      rw [if_neg (hc.elim (fun hc => absurd hm hc) id)]
    rw [hn]
    exact ghear_wp isBytes_nil h0 ht hg hg12 (fun h => absurd hm h) (fun _ _ => hK _) (fun _ x hx => by cases hx) (fun _ hx => by cases hx) (fun _ hx => by cases hx)
  · exact ghear_wp paskF_bytes h0 ht hg hg12 (fun _ => hK _) (fun h => absurd h hm) (fun h => absurd h hm) (fun h => absurd h hm) (fun h => absurd h hm)
theorem gateKeeps_plain0 {a0 i p a3 n a5 a6 a7 fh fp x y : Int} (hn : 0 ≤ n ∧ n ≤ 18446744073709551615) (hf : 0 ≤ fh ∧ fh ≤ 4294967295) (hx : 0 ≤ x ∧ x ≤ 65535) (hy : 0 ≤ y ∧ y ≤ 65535) : embrasurelaw11_GateKeeps_wp a0 i p a3 n a5 a6 a7 fh fp x y (· = true) := by
  unfold embrasurelaw11_GateKeeps_wp
  refine gawake_wp (cond_f rfl ?_)
  refine box0_wp (nnew_wp (by decide) (joinP1.i (cond_f rfl ?_)))
  refine gnew_wp (by decide) (by decide) (by decide) (by decide) (joinP1.i (cond_f rfl ?_))
  have e1 : IntKind.wrap .u64 x = x := wrap_u64 (by omega) (by omega)
  have e2 : IntKind.wrap .i64 y = y := wrap_i64 (by omega) (by omega)
  rw [e1, e2]
  refine ⟨fun gnow l now ver ins port secs non res ep host code by_ m => (code ≠ 0 ∨ res ≠ 0) ∨ (code = 0 ∧ res = 0 ∧ secs = 50 ∧ non = n ∧ gnow = 0 ∧ now = 0 ∧ NatS.mayP fh fp ∧ (1 ≤ i ∧ i ≤ 65535) ∧ (0 ≤ p ∧ p ≤ 65535) ∧ 40000 ≤ port ∧ port ≤ 40009 ∧ by_ = mapPut [] (fh, i) (port, n) ∧ NatS.Rep m l [NatS.askB fh i port 50]), ?_, ?_⟩
  · rintro gnow l now ver ins port secs non res ep host code by_ m (hc | ⟨rfl, rfl, rfl, rfl, rfl, rfl, hm, hi, hp, hq1, hq2, rfl, hr⟩)
    · refine ⟨fun t => t = true, fun t ht => cond_t ht rfl, ?_⟩
      refine cond_n (fun _ => rfl) (fun h => ?_)
      have : res ≠ 0 := hc.elim (fun hc => absurd h hc) id
      exact bne_iff_ne.2 this
    · refine joinP1.i (cond_f rfl (cond_f rfl ?_))
      refine allOne_wp hr (by decide) (by decide) (by decide) (fun l2 m2 hr2 => ?_)
      have hhas : mapHas (mapPut ([] : BY) (fh, i) (port, non)) (fh, i) = true := by rw [mapHas_put KN.nil]; simp
      have hget : mapGet (mapPut ([] : BY) (fh, i) (port, non)) (fh, i) (0, 0) = (port, non) := by rw [mapGet_put KN.nil]; simp
      have hlive : NatS.live 1 [NatS.askB fh i port 50] = [NatS.askB fh i port 50] := rep_one (by decide)
      have hap : paskP 2 i p y 0 0 := ⟨⟨rfl, ⟨by omega, hi.2⟩, hp, ⟨by omega, by omega⟩, by decide, by decide⟩, rfl, rfl⟩
      have hoth : othB [NatS.askB fh i port 50] (mapPut [] (fh, i) (port, non)) fh i x = (non != x) := by
        unfold othB
        have : [NatS.askB fh i port 50].find? (NatS.isAsked fh i) = some (NatS.askB fh i port 50) := by
          rw [List.find?_cons, NatS.askB_asked]
        rw [this]
        simp only
        rw [hhas, hget]
        have : NatS.prt (NatS.askB fh i port 50) = port := rfl
        rw [this]
        simp
      -- the outcome
      refine ⟨fun l now gnow ver ins port1 secs1 non1 res1 ep host code m by_ => code = 0 ∧ now = 1 ∧ ((x ≠ non ∧ res1 = 2 ∧ secs1 = 0 ∧ NatS.Rep m l [NatS.askB fh i port 50]) ∨ (x = non ∧ y = 0 ∧ res1 = 0 ∧ NatS.Rep m l []) ∨ (x = non ∧ y ≠ 0 ∧ res1 = 0 ∧ port1 = port ∧ secs1 = min y 100 ∧ NatS.Rep m l [NatS.askB fh i port (1 + min y 100)])), ?_, ?_⟩
      · rintro l now gnow ver ins port1 secs1 non1 res1 ep host code m by_ ⟨rfl, rfl, hcase⟩
        refine joinP1.i (cond_f rfl (cond_n (fun h => absurd rfl h) (fun _ => cond_f rfl (cond_f rfl ?_))))
        rcases hcase with ⟨hxn, rfl, rfl, hr3⟩ | ⟨hxn, hy0, rfl, hr3⟩ | ⟨hxn, hy0, rfl, rfl, rfl, hr3⟩
        · refine cond_n (fun _ => cond_t rfl (cond_t rfl ?_)) (fun h => absurd h hxn)
          exact allOne_wp hr3 (by decide) (by decide) (by decide) (fun l4 m4 _ => same_wp (by simp) rfl)
        · refine cond_n (fun h => absurd hxn h) (fun _ => cond_e (fun _ => cond_t rfl (allNil_wp hr3 (fun _ _ _ => rfl))) (fun h => absurd hy0 h))
        · refine cond_n (fun h => absurd hxn h) (fun _ => cond_e (fun h => absurd h hy0) (fun _ => ?_))
          refine allOne_wp hr3 (by decide) (by decide) (by omega) (fun l4 m4 _ => ?_)
          refine cond_t rfl (cond_t (by simp) (cond_t ?_ (cond_t rfl ⟨by decide, by simp, fun s hs => ?_⟩)))
          · rw [beq_iff_eq, secs_min]
          · cases hs
            rw [wrap_i64 (by omega) (by omega), beq_iff_eq]
      · obtain ⟨q1, q2, q3, q4, q5, q6, q7⟩ := pask_read (n := x) (h := 0) (c := fh) (by omega) (by omega) (by decide) (by decide) hf.1 hf.2 hap
        have hhd := paskF_head (n := x) (h := 0) (c := fh) hap
        have H : ∀ (K : List Int → Int → List (Option Nat) → Int → BY → SB → Prop),
            (x ≠ non → ∀ l' m' by', NatS.Rep m' l' [NatS.askB fh i port 50] → K (pansF 2 i 0 0 x 2 1 0) 1 l' 1 by' m') →
            (x = non → y = 0 → ∀ l' m' by', NatS.Rep m' l' [] → K (pansF 2 i 0 0 x 0 1 0) 1 l' 1 by' m') →
            (x = non → y ≠ 0 → ∀ l' m' by', NatS.Rep m' l' [NatS.askB fh i port (1 + min y 100)] → K (pansF 2 i port (min y 100) x 0 1 3405803777) 1 l' 1 by' m') →
            gate_Gate_Hear_wp 3405803777 40000 40009 0 0 30 12 l2 1 false true 100 0 0 (mapPut [] (fh, i) (port, non)) 1 fh fp (paskF 2 i p y x 0 0 0 fh) m2 K := by
          intro K k1 k2 k3
          refine ghear_wp paskF_bytes (by decide) (by decide) (by decide) (.inr rfl) (fun h => absurd hm h) (fun _ h => by rw [h] at hhd; cases hhd) (fun _ z hz h0 h2 => by rw [hz] at hhd; cases hhd; exact absurd rfl h2) (fun _ h => by rw [h] at hhd; cases hhd) (fun _ _ => ?_)
          refine gpcp_wp hr2 (by simp) paskF_bytes (by decide) (by decide) (by decide) (by decide) (by decide) (by decide) (fun z hz w hw _ _ => ?_) ⟨fun h => (by cases h), fun _ h => absurd q1 h, fun _ _ h => absurd q7 h, fun _ _ _ ho l' m' hr' => ?_, fun _ _ _ ho hs l' m' hr' => ?_, fun _ _ _ _ _ h => ?_, fun _ _ _ ho hs _ l' m' hr' => ?_⟩
          · rw [hlive] at hz hw
            rw [List.mem_singleton.1 hz, List.mem_singleton.1 hw]
          · rw [hlive] at ho hr'
            rw [q2, q5, hoth] at ho
            rw [q2, q5]
            exact k1 (fun e => by rw [e] at ho; simp at ho) l' m' _ hr'
          · rw [hlive] at ho hr'
            rw [q2, q5, hoth] at ho
            rw [q2] at hr'
            rw [q2, q5]
            have hd : NatS.natDrop [NatS.askB fh i port 50] fh i = (true, []) := NatS.natDrop_have (A := []) (fun x hx => by cases hx)
            rw [hd] at hr'
            rw [q4] at hs
            refine k2 ?_ hs l' m' _ hr'
            rw [bne_eq_false_iff_eq] at ho
            exact ho.symm
          · rw [q2] at h
            exact absurd ⟨hm.1, hi⟩ h
          · rw [hlive] at ho hr' ⊢
            rw [q2, q5, hoth] at ho
            rw [q2, q3, q4] at hr' ⊢
            rw [q5]
            rw [q4] at hs
            have hd : NatS.natAsk 40000 40009 12 [NatS.askB fh i port 50] fh i p (1 + min y 100) = ((port, 0), [NatS.askB fh i port (1 + min y 100)]) := NatS.natAsk_have (A := []) (fun x hx => by cases hx)
            rw [hd] at hr' ⊢
            rw [bne_eq_false_iff_eq] at ho
            exact ⟨fun _ => k3 ho.symm hs l' m' _ hr', fun h => absurd (show (0 : Int) = 10 from h) (by decide)⟩
        have R : ∀ (K : Int → Int → Int → Int → Int → Int → Int → Int → Int → Prop) (po se re h : Int), (0 ≤ po ∧ po ≤ 65535) → (0 ≤ se ∧ se ≤ 4294967295) → (0 ≤ re ∧ re ≤ 255) → (0 ≤ h ∧ h ≤ 4294967295) → K 2 i po se x re 1 h 0 → pcp_ReadAnswer_wp (pansF 2 i po se x re 1 h) K := fun K po se re h a b c d hK =>
          preadAnsF (by omega) (by omega) d.1 d.2 ⟨rfl, ⟨by omega, by omega⟩, a, b, by decide, c⟩ hK
        have G : ∀ (K : List Int → Int → List (Option Nat) → Int → BY → SB → Prop), (∀ po se re h l' m' by', (0 ≤ po ∧ po ≤ 65535) → (0 ≤ se ∧ se ≤ 4294967295) → (0 ≤ re ∧ re ≤ 255) → (0 ≤ h ∧ h ≤ 4294967295) → ((x ≠ non ∧ re = 2 ∧ se = 0 ∧ NatS.Rep m' l' [NatS.askB fh i port 50]) ∨ (x = non ∧ y = 0 ∧ re = 0 ∧ NatS.Rep m' l' []) ∨ (x = non ∧ y ≠ 0 ∧ re = 0 ∧ po = port ∧ se = min y 100 ∧ NatS.Rep m' l' [NatS.askB fh i port (1 + min y 100)])) → K (pansF 2 i po se x re 1 h) 1 l' 1 by' m') → gate_Gate_Hear_wp 3405803777 40000 40009 0 0 30 12 l2 1 false true 100 0 0 (mapPut [] (fh, i) (port, non)) 1 fh fp (paskF 2 i p y x 0 0 0 fh) m2 K := fun K hK =>
          H K (fun h l' m' by' hr' => hK 0 0 2 0 l' m' by' (by decide) (by decide) (by decide) (by decide) (.inl ⟨h, rfl, rfl, hr'⟩)) (fun h1 h2 l' m' by' hr' => hK 0 0 0 0 l' m' by' (by decide) (by decide) (by decide) (by decide) (.inr (.inl ⟨h1, h2, rfl, hr'⟩))) (fun h1 h2 l' m' by' hr' => hK port (min y 100) 0 3405803777 l' m' by' ⟨by omega, by omega⟩ ⟨by omega, by omega⟩ (by decide) (by decide) (.inr (.inr ⟨h1, h2, rfl, rfl, rfl, hr'⟩)))
        exact ⟨pask_wp (by decide) (by decide) hf.1 hf.2 ⟨G _ fun po se re h l' m' by' a b c d hh => ⟨R _ po se re h a b c d ⟨rfl, rfl, hh⟩, R _ po se re h a b c d ⟨rfl, rfl, hh⟩⟩, G _ fun po se re h l' m' by' a b c d hh => R _ po se re h a b c d ⟨rfl, rfl, hh⟩⟩, pask_wp (by decide) (by decide) hf.1 hf.2 (G _ fun po se re h l' m' by' a b c d hh => R _ po se re h a b c d ⟨rfl, rfl, hh⟩)⟩
  · -- the first request
    have H : ∀ (K : List Int → Int → List (Option Nat) → Int → BY → SB → Prop), (∀ g' l' n' by' m', K [] g' l' n' by' m') →
        (∀ g' l' n' by' m', (1 ≤ 50) → paskP 2 i p 50 0 0 → K (pansF 2 i 0 0 n 3 0 0) g' l' n' by' m') →
        (∀ q l' m', NatS.mayP fh fp → (1 ≤ i ∧ i ≤ 65535) → (0 ≤ p ∧ p ≤ 65535) → 40000 ≤ q → q ≤ 40009 → NatS.Rep m' l' [NatS.askB fh i q 50] → K (pansF 2 i q 50 n 0 0 3405803777) 0 l' 0 (mapPut [] (fh, i) (q, n)) m') →
        gate_Gate_Hear_wp 3405803777 40000 40009 0 0 30 12 [] 0 false true 100 0 0 [] 0 fh fp (paskF 2 i p 50 n 0 0 0 fh) [] K := by
      intro K k1 k2 k3
      by_cases hm : NatS.mayP fh fp
      · by_cases hap : paskP 2 i p 50 0 0
        · obtain ⟨⟨-, hi, hp, -⟩, -⟩ := id hap
          by_cases hi1 : 1 ≤ i
          · refine phearFirst (NatS.Rep.nil _) (by decide) (by decide) (by decide) (by decide) (by decide) (by decide) (by decide) hm hf ⟨hi1, hi.2⟩ hp (by decide) hn (fun l' m' q hq1 hq2 hr' => ?_)
            exact k3 q l' m' hm ⟨hi1, hi.2⟩ hp hq1 hq2 hr'
          · obtain ⟨q1, q2, q3, q4, q5, q6, q7⟩ := pask_read (n := n) (h := 0) (c := fh) hn.1 hn.2 (by decide) (by decide) hf.1 hf.2 hap
            have hhd := paskF_head (n := n) (h := 0) (c := fh) hap
            refine ghear_wp paskF_bytes (by decide) (by decide) (by decide) (.inr rfl) (fun h => absurd hm h) (fun _ h => by rw [h] at hhd; cases hhd) (fun _ z hz h0 h2 => by rw [hz] at hhd; cases hhd; exact absurd rfl h2) (fun _ h => by rw [h] at hhd; cases hhd) (fun _ _ => ?_)
            refine gpcp_wp (NatS.Rep.nil _) (by decide) paskF_bytes (by decide) (by decide) (by decide) (by decide) (by decide) (by decide) (fun x hx => by cases hx) ⟨fun h => (by cases h), fun _ h => absurd q1 h, fun _ _ h => absurd q7 h, fun _ _ _ h => absurd (show false = true from h) (by decide), fun _ _ _ _ h => ?_, fun _ _ _ _ _ _ l' m' _ => ?_, fun _ _ _ _ _ h => ?_⟩
            · rw [q4] at h; omega
            · rw [q2, q5]
              exact k2 _ _ _ _ _ (by decide) hap
            · rw [q2] at h
              exact absurd h.2.1 hi1
        · exact phearNone (by decide) (by decide) (by decide) (.inr rfl) (.inr hap) (fun _ => k1 _ _ _ _ _)
      · exact phearNone (by decide) (by decide) (by decide) (.inr rfl) (.inl hm) (fun _ => k1 _ _ _ _ _)
    have R : ∀ (K : Int → Int → Int → Int → Int → Int → Int → Int → Int → Prop) (po se re h : Int), paskP 2 i p 50 0 0 → (0 ≤ po ∧ po ≤ 65535) → (0 ≤ se ∧ se ≤ 4294967295) → (0 ≤ re ∧ re ≤ 255) → (0 ≤ h ∧ h ≤ 4294967295) → K 2 i po se n re 0 h 0 → pcp_ReadAnswer_wp (pansF 2 i po se n re 0 h) K := fun K po se re h hap a b c d hK =>
      preadAnsF hn.1 hn.2 d.1 d.2 ⟨rfl, hap.1.2.1, a, b, by decide, c⟩ hK
    have G : ∀ (Q5 : Int → List (Option Nat) → Int → Int → Int → Int → Int → Int → Int → Int → Int → Int → BY → SB → Prop), (∀ gnow l now ver ins port secs non res ep host code by_ m, ((code ≠ 0 ∨ res ≠ 0) ∨ (code = 0 ∧ res = 0 ∧ secs = 50 ∧ non = n ∧ gnow = 0 ∧ now = 0 ∧ NatS.mayP fh fp ∧ (1 ≤ i ∧ i ≤ 65535) ∧ (0 ≤ p ∧ p ≤ 65535) ∧ 40000 ≤ port ∧ port ≤ 40009 ∧ by_ = mapPut [] (fh, i) (port, n) ∧ NatS.Rep m l [NatS.askB fh i port 50])) → Q5 gnow l now ver ins port secs non res ep host code by_ m) →
        ∀ (K : List Int → Int → List (Option Nat) → Int → BY → SB → Prop), (∀ rs g' l' n' by' m', (∀ (K2 : Int → Int → Int → Int → Int → Int → Int → Int → Int → Prop), (∀ r1 r2 r3 r4 r5 r6 r7 r8 r9, Q5 g' l' n' r1 r2 r3 r4 r5 r6 r7 r8 r9 by' m' → K2 r1 r2 r3 r4 r5 r6 r7 r8 r9) → pcp_ReadAnswer_wp rs K2) → K rs g' l' n' by' m') →
        gate_Gate_Hear_wp 3405803777 40000 40009 0 0 30 12 [] 0 false true 100 0 0 [] 0 fh fp (paskF 2 i p 50 n 0 0 0 fh) [] K := by
      intro Q5 hQ K hK
      refine H K (fun g' l' n' by' m' => hK _ _ _ _ _ _ (fun K2 h2 => preadAnsNil (h2 _ _ _ _ _ _ _ _ _ (hQ _ _ _ _ _ _ _ _ _ _ _ _ _ _ (.inl (.inl (by decide))))))) (fun g' l' n' by' m' _ hap => hK _ _ _ _ _ _ (fun K2 h2 => R _ 0 0 3 0 hap (by decide) (by decide) (by decide) (by decide) (h2 _ _ _ _ _ _ _ _ _ (hQ _ _ _ _ _ _ _ _ _ _ _ _ _ _ (.inl (.inr (by decide))))))) (fun q l' m' hm hi hp hq1 hq2 hr' => hK _ _ _ _ _ _ (fun K2 h2 => R _ q 50 0 3405803777 ⟨⟨rfl, ⟨by omega, hi.2⟩, hp, by decide, by decide, by decide⟩, rfl, rfl⟩ ⟨by omega, by omega⟩ (by decide) (by decide) (by decide) (h2 _ _ _ _ _ _ _ _ _ (hQ _ _ _ _ _ _ _ _ _ _ _ _ _ _ (.inr ⟨rfl, rfl, rfl, rfl, rfl, rfl, hm, hi, hp, hq1, hq2, rfl, hr'⟩)))))
    exact ⟨pask_wp (by decide) (by decide) hf.1 hf.2 ⟨G _ (fun _ _ _ _ _ _ _ _ _ _ _ _ _ _ h => h) _ fun rs g' l' n' by' m' hR => ⟨hR _ (fun _ _ _ _ _ _ _ _ _ h => h), hR _ (fun _ _ _ _ _ _ _ _ _ h => h)⟩, G _ (fun _ _ _ _ _ _ _ _ _ _ _ _ _ _ h => h) _ fun rs g' l' n' by' m' hR => hR _ (fun _ _ _ _ _ _ _ _ _ h => h)⟩, pask_wp (by decide) (by decide) hf.1 hf.2 (G _ (fun _ _ _ _ _ _ _ _ _ _ _ _ _ _ h => h) _ fun rs g' l' n' by' m' hR => hR _ (fun _ _ _ _ _ _ _ _ _ h => h))⟩
end Go.Proofs.Ytnmdnkmemjfoeaa
