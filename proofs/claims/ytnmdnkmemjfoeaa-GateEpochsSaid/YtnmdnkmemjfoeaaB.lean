/- The gateway's laws GateDeaf, GateEpochs, GateKeeps (plain side). -/
import Derived.Test.YtnmdnkmemjfoeaaA
namespace Go.Proofs.Ytnmdnkmemjfoeaa
open Go Go.Eng
theorem rep_one {t ih ip p u : Int} (h : t < u) : NatS.live t [NatS.askB ih ip p u] = [NatS.askB ih ip p u] := NatS.live_have (A := []) h
theorem allOne_wp {mp fi now t ih ip p u : Int} {m : SB} {l : List (Option Nat)} {K : List BI → List (Option Nat) → Int → SB → Prop} (hr : NatS.Rep m l [NatS.askB ih ip p u]) (hn : now ≤ t) (ht : t ≤ 1099511627776) (hu : t < u) (hK : ∀ l' m', NatS.Rep m' l' [NatS.askB ih ip p u] → K [(ih, ip, 0, 0, p, u, true)] l' t m') : nat_Nat_All_wp 3405803777 40000 40009 mp fi 30 12 l now t m K := by
  refine NatS.all_wp hr (by simp) (fun hc => absurd ⟨hn, ht⟩ hc) (fun _ l' m' rs hr' _ hp _ => ?_)
  rw [rep_one hu] at hp hr'
  have : rs = [(ih, ip, 0, 0, p, u, true)] := List.perm_singleton.1 hp
  subst this
  exact hK _ _ hr'
theorem ask_nil {ih ip w u : Int} : ∃ p, NatS.natAsk 40000 40009 12 [] ih ip w u = ((p, 0), [NatS.askB ih ip p u]) ∧ 40000 ≤ p ∧ p ≤ 40009 ∧ (40000 ≤ w → w ≤ 40009 → p = w) := by
  unfold NatS.natAsk
  simp only [List.findIdx?_nil]
  by_cases h : 40000 ≤ w ∧ w ≤ 40009
  · refine ⟨w, ?_, h.1, h.2, fun _ _ => rfl⟩
    have : NatS.chooseP 40000 40009 w [] = some w := by
      unfold NatS.chooseP
      rw [if_pos ⟨h.1, h.2, rfl⟩]
    rw [this]
    rfl
  · refine ⟨40000, ?_, by decide, by decide, fun h1 h2 => absurd ⟨h1, h2⟩ h⟩
    have : NatS.chooseP 40000 40009 w [] = some 40000 := by
      unfold NatS.chooseP
      rw [if_neg (fun hx => h ⟨hx.1, hx.2.1⟩)]
      rfl
    rw [this]
    rfl
theorem paskF_head {i p s n h c : Int} (hp : paskP 2 i p s 0 0) : (paskF 2 i p s n 0 0 h c)[0]? = some 2 := by
  unfold paskF
  rw [if_pos hp]
  rfl
/-- A NAT-PMP request that is granted by a box that has no bindings. -/
theorem hearFirst {mp fi now g3 boot gnow t fh fp i p s : Int} {g2 : Bool} {l : List (Option Nat)} {by_ : BY} {m : SB} {K : List Int → Int → List (Option Nat) → Int → BY → SB → Prop}
    (hr : NatS.Rep m l []) (h0 : 0 ≤ boot) (h1 : boot ≤ t) (ht : t ≤ 1073741824) (hn : now ≤ t) (hg : gnow ≤ t) (hg1 : 1 ≤ g3) (hg2 : g3 ≤ 4294967295) (hm : NatS.mayP fh fp) (hi : 1 ≤ i ∧ i ≤ 65535) (hp : 0 ≤ p ∧ p ≤ 65535) (hs : 1 ≤ s ∧ s ≤ 4294967295) (hts : t + min s g3 ≤ 1099511627776)
    (hK : ∀ l' m' q, (40000 ≤ p → p ≤ 40009 → q = p) → 40000 ≤ q → q ≤ 40009 → NatS.Rep m' l' [NatS.askB fh i q (t + min s g3)] → K (ansF 0 i q (min s g3) 0 0 (t - boot) 0 false) t l' t (mapDel by_ (fh, i)) m') :
    gate_Gate_Hear_wp 3405803777 40000 40009 mp fi 30 12 l now true g2 g3 boot gnow by_ t fh fp (askF 0 i p s 0 0 0 0 false) m K := by
  have hap : askP 0 i p s 0 0 0 0 false := ⟨⟨⟨by omega, hi.2⟩, hp, ⟨by omega, hs.2⟩, by decide, by decide⟩, ⟨rfl, rfl, rfl, rfl, rfl⟩, fun h => by cases h⟩
  obtain ⟨q1, q2, q3, q4, q5⟩ := ask_read hap
  have q6 : ¬ (askF 0 i p s 0 0 0 0 false).length = 2 := of_decide_eq_false q5
  have hhd := askF_head hap
  refine ghear_wp (askF_bytes _ _ _ _ _ _ _ _ _) (by omega) (by omega) hg (.inl rfl) (fun h => absurd hm h) (fun _ h => by rw [h] at hhd; cases hhd) (fun _ x hx h0 => by rw [hx] at hhd; cases hhd; exact absurd rfl h0) (fun _ _ => ?_) (fun _ h => by rw [h] at hhd; cases hhd)
  refine gpmp_wp hr (by decide) (askF_bytes _ _ _ _ _ _ _ _ _) h0 h1 ht hn hg1 hg2 ⟨fun h => (by cases h), fun _ h => absurd q1 h, fun _ _ h => absurd h q6, fun _ _ _ h => ?_, fun _ _ _ _ h => ?_, fun _ _ _ _ _ l' m' hr' => ?_⟩
  · rw [q4] at h; omega
  · rw [q2] at h; exact absurd ⟨hm.1, hi⟩ h
  · rw [q2, q3, q4] at hr' ⊢
    obtain ⟨q, eq, hq1, hq2, hq3⟩ := ask_nil (ih := fh) (ip := i) (w := p) (u := t + min s g3)
    have el : NatS.live t [] = [] := rfl
    rw [el, eq] at hr' ⊢
    exact ⟨fun _ => hK l' m' q hq3 hq1 hq2 hr', fun h => absurd (show (0 : Int) = 10 from h) (by decide)⟩
/-- A PCP request that is granted by a box that has no bindings. -/
theorem phearFirst {mp fi now g3 boot gnow t fh fp i p s n : Int} {g1 : Bool} {l : List (Option Nat)} {by_ : BY} {m : SB} {K : List Int → Int → List (Option Nat) → Int → BY → SB → Prop}
    (hr : NatS.Rep m l []) (h0 : 0 ≤ boot) (h1 : boot ≤ t) (ht : t ≤ 1073741824) (hn : now ≤ t) (hg : gnow ≤ t) (hg1 : 1 ≤ g3) (hg2 : g3 ≤ 4294967295) (hm : NatS.mayP fh fp) (hfh : 0 ≤ fh ∧ fh ≤ 4294967295) (hi : 1 ≤ i ∧ i ≤ 65535) (hp : 0 ≤ p ∧ p ≤ 65535) (hs : 1 ≤ s ∧ s ≤ 4294967295) (hn0 : 0 ≤ n ∧ n ≤ 18446744073709551615)
    (hK : ∀ l' m' q, 40000 ≤ q → q ≤ 40009 → NatS.Rep m' l' [NatS.askB fh i q (t + min s g3)] → K (pansF 2 i q (min s g3) n 0 (t - boot) 3405803777) t l' t (mapPut by_ (fh, i) (q, n)) m') :
    gate_Gate_Hear_wp 3405803777 40000 40009 mp fi 30 12 l now g1 true g3 boot gnow by_ t fh fp (paskF 2 i p s n 0 0 0 fh) m K := by
  have hap : paskP 2 i p s 0 0 := ⟨⟨rfl, ⟨by omega, hi.2⟩, hp, ⟨by omega, hs.2⟩, by decide, by decide⟩, rfl, rfl⟩
  obtain ⟨q1, q2, q3, q4, q5, q6, q7⟩ := pask_read (h := 0) hn0.1 hn0.2 (by decide) (by decide) hfh.1 hfh.2 hap
  have hhd := paskF_head (n := n) (h := 0) (c := fh) hap
  refine ghear_wp paskF_bytes (by omega) (by omega) hg (.inr rfl) (fun h => absurd hm h) (fun _ h => by rw [h] at hhd; cases hhd) (fun _ x hx h0 h2 => by rw [hx] at hhd; cases hhd; exact absurd rfl h2) (fun _ h => by rw [h] at hhd; cases hhd) (fun _ _ => ?_)
  refine gpcp_wp hr (by decide) paskF_bytes h0 h1 ht hn hg1 hg2 (fun x hx => by cases hx) ⟨fun h => (by cases h), fun _ h => absurd q1 h, fun _ _ h => absurd q7 h, fun _ _ _ h => absurd (show false = true from h) (by decide), fun _ _ _ _ h => ?_, fun _ _ _ _ _ h => ?_, fun _ _ _ _ _ _ l' m' hr' => ?_⟩
  · rw [q4] at h; omega
  · rw [q2] at h; exact absurd ⟨hm.1, hi⟩ h
  · rw [q2, q3, q4, q5] at *
    obtain ⟨q, eq, hq1, hq2, hq3⟩ := ask_nil (ih := fh) (ip := i) (w := p) (u := t + min s g3)
    have el : NatS.live t [] = [] := rfl
    rw [el, eq] at hr' ⊢
    exact ⟨fun _ => hK l' m' q hq1 hq2 hr', fun h => absurd (show (0 : Int) = 10 from h) (by decide)⟩
theorem gateEpochs_plain0 {x y z fh fp : Int} (x0 : 0 ≤ x ∧ x ≤ 65535) (y0 : 0 ≤ y ∧ y ≤ 65535) (z0 : 0 ≤ z ∧ z ≤ 65535) (hf : 0 ≤ fh ∧ fh ≤ 4294967295) : embrasurelaw11_GateEpochs_wp x y z fh fp (· = true) := by
  unfold embrasurelaw11_GateEpochs_wp
  refine gawake_wp (cond_f rfl ?_)
  refine box0_wp (nnew_wp (by decide) ?_)
  refine joinP1.i (cond_n (fun h => absurd rfl h) (fun _ => cond_e (fun _ => rfl) (fun nz => cond_d (fun _ => rfl) (fun hp1 => cond_d (fun _ => rfl) (fun hp2 => ?_)))))
  have hm : NatS.mayP fh fp := ⟨nz, by omega, by omega⟩
  have e1 : IntKind.wrap .i64 x = x := wrap_i64 (by omega) (by omega)
  have e2 : IntKind.wrap .i64 (x + IntKind.wrap .i64 y) = x + y := by rw [wrap_i64 (x := y) (by omega) (by omega)]; exact wrap_i64 (by omega) (by omega)
  have e3 : IntKind.wrap .i64 (x + y + IntKind.wrap .i64 z) = x + y + z := by rw [wrap_i64 (x := z) (by omega) (by omega)]; exact wrap_i64 (by omega) (by omega)
  rw [e1, e2, e3]
  have e4 : IntKind.wrap .i64 (x + y - x) = x + y - x := wrap_i64 (by omega) (by omega)
  have e5 : IntKind.wrap .i64 (x + y + z - (x + y)) = x + y + z - (x + y) := wrap_i64 (by omega) (by omega)
  rw [e4, e5]
  refine gnew_wp (by decide) (by decide) x0.1 (by omega) (joinP1.i (cond_f rfl ?_))
  refine ⟨fun gnow l now ver ins port secs non res ep host code by_ m => code = 0 ∧ ep = x + y - x ∧ port = 40003 ∧ gnow = x + y ∧ now = x + y ∧ NatS.Rep m l [NatS.askB fh 5 40003 (x + y + 536870912)], ?_, ?_⟩
  · rintro gnow l now ver ins port secs non res ep host code by_ m ⟨rfl, rfl, rfl, rfl, rfl, hr⟩
    refine ⟨fun l now t m => t = false, ?_, ?_⟩
    · rintro l now t m rfl
      refine cond_f rfl ?_
      unfold gate_Gate_Reboot_wp nat_Nat_Reboot_wp
      refine ⟨fun gnow l now ver ins port secs non res ep host code by_ m => code = 0 ∧ ep = x + y + z - (x + y) ∧ now = x + y + z ∧ ∃ q, NatS.Rep m l [NatS.askB fh 6 q (x + y + z + 5)], ?_, ?_⟩
      · rintro gnow l now ver ins port secs non res ep host code by_ m ⟨rfl, rfl, rfl, q, hr⟩
        refine allOne_wp hr (Int.le_refl _) (by omega) (by omega) (fun l' m' hr' => ?_)
        refine cond_t rfl (cond_t (by simp) (cond_t rfl ⟨by decide, by simp, fun s hs => ?_⟩))
        cases hs
        rfl
      · have H : ∀ (K : List Int → Int → List (Option Nat) → Int → BY → SB → Prop), (∀ l' m' q by', NatS.Rep m' l' [NatS.askB fh 6 q (x + y + z + 5)] → 40000 ≤ q → q ≤ 40009 → K (pansF 2 6 q 5 0 0 (x + y + z - (x + y)) 3405803777) (x + y + z) l' (x + y + z) by' m') → gate_Gate_Hear_wp 3405803777 40000 40009 0 0 30 12 [] 0 true true 1073741824 (x + y) (x + y) [] (x + y + z) fh fp (paskF 2 6 0 5 0 0 0 0 fh) m K := fun K hK =>
          phearFirst (NatS.Rep.nil _) (by omega) (by omega) (by omega) (by omega) (by omega) (by decide) (by decide) hm hf (by decide) (by decide) (by decide) (by decide) (fun l' m' q hq1 hq2 hr' => hK l' m' q _ hr' hq1 hq2)
        have R : ∀ (K : Int → Int → Int → Int → Int → Int → Int → Int → Int → Prop) (q : Int), 40000 ≤ q → q ≤ 40009 → K 2 6 q 5 0 0 (x + y + z - (x + y)) 3405803777 0 → pcp_ReadAnswer_wp (pansF 2 6 q 5 0 0 (x + y + z - (x + y)) 3405803777) K := fun K q hq1 hq2 hK =>
          preadAnsF (by decide) (by decide) (by decide) (by decide) ⟨rfl, by decide, ⟨by omega, by omega⟩, by decide, ⟨by omega, by omega⟩, by decide⟩ hK
        refine ⟨pask_wp (by decide) (by decide) hf.1 hf.2 ⟨H _ fun l' m' q by' hr' a b => ⟨R _ q a b ⟨rfl, rfl, rfl, q, hr'⟩, R _ q a b ⟨rfl, rfl, rfl, q, hr'⟩⟩, H _ fun l' m' q by' hr' a b => R _ q a b ⟨rfl, rfl, rfl, q, hr'⟩⟩, pask_wp (by decide) (by decide) hf.1 hf.2 (H _ fun l' m' q by' hr' a b => R _ q a b ⟨rfl, rfl, rfl, q, hr'⟩)⟩
    · refine cond_f rfl (cond_f (by simp) (cond_f rfl ?_))
      exact allOne_wp hr (Int.le_refl _) (by omega) (by omega) (fun l' m' hr' => rfl)
  · have H : ∀ (K : List Int → Int → List (Option Nat) → Int → BY → SB → Prop), (∀ l' m' by', NatS.Rep m' l' [NatS.askB fh 5 40003 (x + y + 536870912)] → K (ansF 0 5 40003 536870912 0 0 (x + y - x) 0 false) (x + y) l' (x + y) by' m') → gate_Gate_Hear_wp 3405803777 40000 40009 0 0 30 12 [] 0 true true 1073741824 x x [] (x + y) fh fp (askF 0 5 40003 536870912 0 0 0 0 false) [] K := fun K hK =>
      hearFirst (NatS.Rep.nil _) (by omega) (by omega) (by omega) (by omega) (by omega) (by decide) (by decide) hm (by decide) (by decide) (by decide) (by omega) (fun l' m' q hq _ _ hr' => by
        have := hq (by decide) (by decide)
        subst this
        exact hK l' m' _ hr')
    have R : ∀ (K : Int → Int → Int → Int → Int → Int → Int → Int → Bool → Int → Prop), K 0 5 40003 536870912 0 0 (x + y - x) 0 false 0 → pmp_ReadAnswer_wp (ansF 0 5 40003 536870912 0 0 (x + y - x) 0 false) K := fun K hK =>
      readAnsF (by decide) (by decide) ⟨⟨by decide, by decide, by decide, by decide, ⟨by omega, by omega⟩⟩, by decide, (by decide), (by decide)⟩ hK
    exact ⟨ask_wp ⟨H _ fun l' m' by' hr' => ⟨R _ ⟨rfl, rfl, rfl, rfl, rfl, hr'⟩, R _ ⟨rfl, rfl, rfl, rfl, rfl, hr'⟩⟩, H _ fun l' m' by' hr' => R _ ⟨rfl, rfl, rfl, rfl, rfl, hr'⟩⟩, ask_wp (H _ fun l' m' by' hr' => R _ ⟨rfl, rfl, rfl, rfl, rfl, hr'⟩)⟩
end Go.Proofs.Ytnmdnkmemjfoeaa
