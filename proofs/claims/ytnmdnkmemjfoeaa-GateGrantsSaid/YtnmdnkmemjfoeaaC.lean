/- The gateway's law GateGrants (plain side). -/
import Derived.Test.YtnmdnkmemjfoeaaA
namespace Go.Proofs.Ytnmdnkmemjfoeaa
open Go Go.Eng
theorem okS_ask {lo hi mo ih ip wish u : Int} {bs : List BX} (h : NatS.okS bs) : NatS.okS (NatS.natAsk lo hi mo bs ih ip wish u).2 := fun x hx => by
  rcases NatS.mem_ask hx with ⟨y, hy, -, e⟩ | ⟨-, e⟩
  · rw [e]; exact h y hy
  · rw [e]; exact Nat.zero_le _
/-- Whatever another host asks. -/
theorem hearPre {mp fi now gnow fh fp q v i p s n r e hh : Int} {l : List (Option Nat)} {by_ : BY} {m : SB} {bs : List BX} {K : List Int → Int → List (Option Nat) → Int → BY → SB → Prop}
    (hr : NatS.Rep m l bs) (hl : bs.length ≤ 500) (hq : fh ≠ q) (hb : ∀ x ∈ bs, x.1 ≠ q) (hs : NatS.okS bs) (hn : now ≤ 1) (hg : gnow ≤ 1)
    (hK : ∀ rs g' l' n' by' m' bs', NatS.Rep m' l' bs' → (∀ x ∈ bs', x.1 ≠ q) → NatS.okS bs' → bs'.length ≤ bs.length + 1 → (g' = gnow ∨ g' = 1) → (n' = now ∨ n' = 1) → K rs g' l' n' by' m') :
    gG_Hear_wp 3405803777 40000 40009 mp fi 30 12 l now true true 100 0 gnow by_ 1 fh fp (askF v i p s n r e hh false) m K := by
  have same : ∀ rs g', (g' = gnow ∨ g' = 1) → K rs g' l now by_ m := fun rs g' h => hK rs g' l now by_ m bs hr hb hs (by omega) h (.inl rfl)
  by_cases hap : askP v i p s n r e hh false
  · have hhd := askF_head hap
    refine ghear_wp (askF_bytes _ _ _ _ _ _ _ _ _) (by decide) (by decide) hg (.inl rfl) (fun _ => same _ _ (.inl rfl)) (fun _ h => by rw [h] at hhd; cases hhd) (fun _ x hx h0 => by rw [hx] at hhd; cases hhd; exact absurd rfl h0) (fun _ _ => ?_) (fun _ h => by rw [h] at hhd; cases hhd)
    have hll := NatS.live_len (t := 1) (bs := bs)
    refine gpmp_wp hr (by omega) (askF_bytes _ _ _ _ _ _ _ _ _) (by decide) (by decide) (by decide) hn (by decide) (by decide) ⟨fun h => (by cases h), fun _ _ => same _ _ (.inr rfl), fun _ _ _ => same _ _ (.inr rfl), fun _ _ _ _ l' hr' => ?_, fun _ _ _ _ _ => same _ _ (.inr rfl), fun _ _ _ _ _ l' m' hr' => ?_⟩
    · have := NatS.natDrop_len (ih := fh) (ip := rI (askF v i p s n r e hh false)) (bs := NatS.live 1 bs)
      exact hK _ _ _ _ _ _ _ hr' (fun x hx => hb x (NatS.live_mem (NatS.mem_drop hx))) (fun x hx => hs x (NatS.live_mem (NatS.mem_drop hx))) (by omega) (.inr rfl) (.inr rfl)
    · have hlen := NatS.natAsk_len (lo := 40000) (hi := 40009) (mo := 12) (ih := fh) (ip := rI (askF v i p s n r e hh false)) (wish := rP (askF v i p s n r e hh false)) (u := 1 + min (rS (askF v i p s n r e hh false)) 100) (bs := NatS.live 1 bs)
      have fin : ∀ rs by', K rs 1 l' 1 by' m' := fun rs by' => by
        refine hK _ _ _ _ _ _ _ hr' (fun x hx => ?_) (okS_ask (NatS.okS_live hs)) (by omega) (.inr rfl) (.inr rfl)
        rcases NatS.mem_ask hx with ⟨y, hy, e1, -⟩ | ⟨e1, -⟩
        · rw [e1]; exact hb y (NatS.live_mem hy)
        · rw [e1]; exact hq
      exact ⟨fun _ => fin _ _, fun _ => fin _ _⟩
  · have hn' : askF v i p s n r e hh false = [] := by unfold askF; rw [if_neg hap]
    rw [hn']
    exact ghear_wp isBytes_nil (by decide) (by decide) hg (.inl rfl) (fun _ => same _ _ (.inl rfl)) (fun _ _ => same _ _ (.inr rfl)) (fun _ x hx => by cases hx) (fun _ hx => by cases hx) (fun _ hx => by cases hx)
/-- The first request. -/
theorem hearAsk {mp fi now gnow fh fp i p s : Int} {l : List (Option Nat)} {by_ : BY} {m : SB} {bs : List BX} {K : List Int → Int → List (Option Nat) → Int → BY → SB → Prop}
    (hr : NatS.Rep m l bs) (hl : bs.length ≤ 500) (hb : ∀ x ∈ bs, x.1 ≠ fh) (hs : NatS.okS bs) (hn : now ≤ 2) (hg : gnow ≤ 2)
    (hnil : ∀ g' l' n' by' m', K [] g' l' n' by' m')
    (hbad : ∀ re g' l' n' by' m', (re = 2 ∨ re = 4) → (0 ≤ i ∧ i ≤ 65535) → K (ansF 0 i 0 0 0 re (2 - 0) 0 false) g' l' n' by' m')
    (hdrop : ∀ g' l' n' by' m', (0 ≤ i ∧ i ≤ 65535) → K (ansF 0 i 0 0 0 0 (2 - 0) 0 false) g' l' n' by' m')
    (hgr : ∀ q l' by' m', NatS.mayP fh fp → (1 ≤ i ∧ i ≤ 65535) → (1 ≤ s ∧ s ≤ 4294967295) → (40000 ≤ q ∧ q ≤ 40009) → (∀ x ∈ NatS.live 2 bs, NatS.prt x ≠ q) → NatS.Rep m' l' (NatS.live 2 bs ++ [NatS.askB fh i q (2 + min s 100)]) → K (ansF 0 i q (min s 100) 0 0 (2 - 0) 0 false) 2 l' 2 by' m') :
    gG_Hear_wp 3405803777 40000 40009 mp fi 30 12 l now true true 100 0 gnow by_ 2 fh fp (askF 0 i p s 0 0 0 0 false) m K := by
  by_cases hap : askP 0 i p s 0 0 0 0 false
  · have hhd := askF_head hap
    obtain ⟨q1, q2, q3, q4, q5⟩ := ask_read hap
    have q6 : ¬ (askF 0 i p s 0 0 0 0 false).length = 2 := of_decide_eq_false q5
    obtain ⟨⟨hi, hp, hss, -⟩, -⟩ := id hap
    refine ghear_wp (askF_bytes _ _ _ _ _ _ _ _ _) (by decide) (by decide) hg (.inl rfl) (fun _ => hnil _ _ _ _ _) (fun _ h => by rw [h] at hhd; cases hhd) (fun _ x hx h0 => by rw [hx] at hhd; cases hhd; exact absurd rfl h0) (fun hm _ => ?_) (fun _ h => by rw [h] at hhd; cases hhd)
    refine gpmp_wp hr (by omega) (askF_bytes _ _ _ _ _ _ _ _ _) (by decide) (by decide) (by decide) hn (by decide) (by decide) ⟨fun h => (by cases h), fun _ h => absurd q1 h, fun _ _ h => absurd h q6, fun _ _ _ _ l' hr' => ?_, fun _ _ _ _ _ => ?_, fun _ _ _ hs0 hmi l' m' hr' => ?_⟩
    · rw [q2]; exact hdrop _ _ _ _ _ hi
    · rw [q2]; exact hbad _ _ _ _ _ _ (.inl rfl) hi
    · rw [q2, q3, q4] at *
      rcases NatS.natAsk_new (lo := 40000) (hi := 40009) (mo := 12) (ip := i) (wish := p) (u := 2 + min s 100) (bs := NatS.live 2 bs) (ih := fh) (fun x hx => hb x (NatS.live_mem hx)) with e | ⟨q, hq1, hq2, hq3, -, e⟩
      · rw [e]
        exact ⟨fun h => absurd (show (10 : Int) = 0 from h) (by decide), fun _ => hbad _ _ _ _ _ _ (.inr rfl) hi⟩
      · rw [e] at hr' ⊢
        exact ⟨fun _ => hgr q l' _ m' hm hmi.2 ⟨by omega, hss.2⟩ ⟨hq2, hq3⟩ (NatS.used_false hq1) hr', fun h => absurd (show (0 : Int) = 10 from h) (by decide)⟩
  · have hn' : askF 0 i p s 0 0 0 0 false = [] := by unfold askF; rw [if_neg hap]
    rw [hn']
    exact ghear_wp isBytes_nil (by decide) (by decide) hg (.inl rfl) (fun _ => hnil _ _ _ _ _) (fun _ _ => hnil _ _ _ _ _) (fun _ x hx => by cases hx) (fun _ hx => by cases hx) (fun _ hx => by cases hx)
/-- It is asked for again. -/
theorem hearRenew {mp fi now gnow t fh fp i p s q u : Int} {l : List (Option Nat)} {by_ : BY} {m : SB} {A : List BX} {K : List Int → Int → List (Option Nat) → Int → BY → SB → Prop}
    (hr : NatS.Rep m l (A ++ [NatS.askB fh i q u])) (hl : A.length ≤ 500) (hb : ∀ x ∈ A, x.1 ≠ fh) (t0 : 0 ≤ t) (t1 : t ≤ 100000) (hn : now ≤ t) (hg : gnow ≤ t) (htu : t < u) (hm : NatS.mayP fh fp) (hi : 1 ≤ i ∧ i ≤ 65535) (hp : 0 ≤ p ∧ p ≤ 65535) (hs : 1 ≤ s ∧ s ≤ 4294967295)
    (hK : ∀ l' by' m', NatS.Rep m' l' (NatS.live t A ++ [NatS.askB fh i q (t + min s 100)]) → K (ansF 0 i q (min s 100) 0 0 (t - 0) 0 false) t l' t by' m') :
    gG_Hear_wp 3405803777 40000 40009 mp fi 30 12 l now true true 100 0 gnow by_ t fh fp (askF 0 i p s 0 0 0 0 false) m K := by
  have hap : askP 0 i p s 0 0 0 0 false := ⟨⟨⟨by omega, hi.2⟩, hp, ⟨by omega, hs.2⟩, by decide, by decide⟩, ⟨rfl, rfl, rfl, rfl, rfl⟩, fun h => (by cases h)⟩
  have hhd := askF_head hap
  obtain ⟨q1, q2, q3, q4, q5⟩ := ask_read hap
  have q6 : ¬ (askF 0 i p s 0 0 0 0 false).length = 2 := of_decide_eq_false q5
  refine ghear_wp (askF_bytes _ _ _ _ _ _ _ _ _) t0 (by omega) hg (.inl rfl) (fun h => absurd hm h) (fun _ h => by rw [h] at hhd; cases hhd) (fun _ x hx h0 => by rw [hx] at hhd; cases hhd; exact absurd rfl h0) (fun _ _ => ?_) (fun _ h => by rw [h] at hhd; cases hhd)
  refine gpmp_wp hr (by simp; omega) (askF_bytes _ _ _ _ _ _ _ _ _) (by decide) t0 (by omega) hn (by decide) (by decide) ⟨fun h => (by cases h), fun _ h => absurd q1 h, fun _ _ h => absurd h q6, fun _ _ _ h => ?_, fun _ _ _ _ h => ?_, fun _ _ _ _ _ l' m' hr' => ?_⟩
  · rw [q4] at h; omega
  · rw [q2] at h; exact absurd ⟨hm.1, hi⟩ h
  · rw [NatS.live_have htu] at hr' ⊢
    rw [q2, q3, q4] at hr' ⊢
    rw [NatS.natAsk_have (fun x hx => hb x (NatS.live_mem hx))] at hr' ⊢
    exact ⟨fun _ => hK _ _ _ hr', fun h => absurd (show (0 : Int) = 10 from h) (by decide)⟩
/-- It is dropped. -/
theorem hearDrop {mp fi now gnow t fh fp i q u : Int} {l : List (Option Nat)} {by_ : BY} {m : SB} {A : List BX} {K : List Int → Int → List (Option Nat) → Int → BY → SB → Prop}
    (hr : NatS.Rep m l (A ++ [NatS.askB fh i q u])) (hl : A.length ≤ 500) (hb : ∀ x ∈ A, x.1 ≠ fh) (t0 : 0 ≤ t) (t1 : t ≤ 100000) (hn : now ≤ t) (hg : gnow ≤ t) (htu : t < u) (hm : NatS.mayP fh fp) (hi : 1 ≤ i ∧ i ≤ 65535)
    (hK : ∀ l' by', NatS.Rep m l' (NatS.live t A) → K (ansF 0 i 0 0 0 0 (t - 0) 0 false) t l' t by' m) :
    gG_Hear_wp 3405803777 40000 40009 mp fi 30 12 l now true true 100 0 gnow by_ t fh fp (askF 0 i 0 0 0 0 0 0 false) m K := by
  have hap : askP 0 i 0 0 0 0 0 0 false := ⟨⟨⟨by omega, hi.2⟩, by decide, by decide, by decide, by decide⟩, ⟨rfl, rfl, rfl, rfl, rfl⟩, fun h => (by cases h)⟩
  have hhd := askF_head hap
  obtain ⟨q1, q2, q3, q4, q5⟩ := ask_read hap
  have q6 : ¬ (askF 0 i 0 0 0 0 0 0 false).length = 2 := of_decide_eq_false q5
  refine ghear_wp (askF_bytes _ _ _ _ _ _ _ _ _) t0 (by omega) hg (.inl rfl) (fun h => absurd hm h) (fun _ h => by rw [h] at hhd; cases hhd) (fun _ x hx h0 => by rw [hx] at hhd; cases hhd; exact absurd rfl h0) (fun _ _ => ?_) (fun _ h => by rw [h] at hhd; cases hhd)
  refine gpmp_wp hr (by simp; omega) (askF_bytes _ _ _ _ _ _ _ _ _) (by decide) t0 (by omega) hn (by decide) (by decide) ⟨fun h => (by cases h), fun _ h => absurd q1 h, fun _ _ h => absurd h q6, fun _ _ _ _ l' hr' => ?_, fun _ _ _ h => ?_, fun _ _ _ h => ?_⟩
  · rw [NatS.live_have htu, q2, NatS.natDrop_have (fun x hx => hb x (NatS.live_mem hx))] at hr'
    rw [q2]
    exact hK _ _ hr'
  · rw [q4] at h; exact absurd rfl h
  · rw [q4] at h; exact absurd rfl h
theorem inHave_wp {mp fi now t fh fp ih ip q u : Int} {l : List (Option Nat)} {m : SB} {A : List BX} {K : Int → Int → Int → List (Option Nat) → Int → SB → Prop} (hr : NatS.Rep m l (A ++ [NatS.askB ih ip q u])) (hl : A.length ≤ 500) (hs : NatS.okS A) (hb : ∀ x ∈ A, NatS.prt x ≠ q) (hm : NatS.mayP fh fp) (hn : now ≤ t) (t1 : t ≤ 100000) (htu : t < u)
    (hK : ∀ l' m', NatS.Rep m' l' (NatS.live t A ++ [NatS.askB ih ip q u]) → K ih ip 0 l' t m') : nN_In_wp 3405803777 40000 40009 mp fi 30 12 l now t q fh fp m K := by
  refine NatS.in_wp hr (by simp; omega) (fun x hx => ?_) (fun hc => absurd ⟨hm, hn, by omega⟩ hc) (fun _ l' m' hr' _ => ?_)
  · rcases List.mem_append.1 hx with hx | hx
    · exact hs x hx
    · simp at hx; subst hx; exact Nat.zero_le _
  · rw [NatS.live_have htu] at hr' ⊢
    rw [NatS.natIn_have (fun x hx => hb x (NatS.live_mem hx))]
    exact hK l' m' hr'
theorem inNo_wp {mp fi now t fh fp q : Int} {l : List (Option Nat)} {m : SB} {A : List BX} {K : Int → Int → Int → List (Option Nat) → Int → SB → Prop} (hr : NatS.Rep m l A) (hl : A.length ≤ 500) (hs : NatS.okS A) (hb : ∀ x ∈ A, NatS.prt x ≠ q) (hm : NatS.mayP fh fp) (hn : now ≤ t) (t1 : t ≤ 100000)
    (hK : ∀ l' m', K 0 0 8 l' t m') : nN_In_wp 3405803777 40000 40009 mp fi 30 12 l now t q fh fp m K := by
  refine NatS.in_wp hr (by omega) hs (fun hc => absurd ⟨hm, hn, by omega⟩ hc) (fun _ l' m' hr' _ => ?_)
  rw [NatS.natIn_no (fun x hx => hb x (NatS.live_mem hx))]
  exact hK l' m'
abbrev GDo := Int × Int × Int × Int × Int × Int × (List Int) × Int × Int × Int × Int × Int × Int × Int × Int × Int
theorem gateGrants_plain0 {a0 i p s a4 a5 a6 a7 fh fp : Int} {script : List GDo} : law_GateGrants_wp a0 i p s a4 a5 a6 a7 fh fp script (· = true) := by
  unfold law_GateGrants_wp
  refine gawake_wp (cond_f rfl ?_)
  refine box8_wp (nnew_wp (by decide) (joinP1.i (cond_f rfl ?_)))
  refine gnew_wp (by decide) (by decide) (by decide) (by decide) (joinP1.i (cond_f rfl ?_))
  refine ⟨fun gnow l now by_ m => ∃ bs, NatS.Rep m l bs ∧ (∀ x ∈ bs, x.1 ≠ fh) ∧ NatS.okS bs ∧ bs.length ≤ 60 ∧ 0 ≤ gnow ∧ gnow ≤ 1 ∧ now ≤ 1, ?_, ?_⟩
  rotate_left
  · refine ⟨fun n gnow l now k by_ m => 0 ≤ k ∧ k ≤ 60 ∧ n = 60 - k.toNat ∧ ∃ bs, NatS.Rep m l bs ∧ (∀ x ∈ bs, x.1 ≠ fh) ∧ NatS.okS bs ∧ (bs.length : Int) ≤ k ∧ 0 ≤ gnow ∧ gnow ≤ 1 ∧ now ≤ 1, ⟨_, by decide, by decide, rfl, [], NatS.Rep.nil _, fun x hx => (by cases hx), fun x hx => (by cases hx), by decide, by decide, by decide, by decide⟩, ?_⟩
    rintro n gnow l now k by_ m ⟨k0, k1, rfl, bs, hr, hb, hs, hl, hg0, hg1, hn⟩
    have fin : ∃ bs, NatS.Rep m l bs ∧ (∀ x ∈ bs, x.1 ≠ fh) ∧ NatS.okS bs ∧ bs.length ≤ 60 ∧ 0 ≤ gnow ∧ gnow ≤ 1 ∧ now ≤ 1 := ⟨bs, hr, hb, hs, by omega, hg0, hg1, hn⟩
    refine joinP1.i (cond_d (fun hlt => cond_d (fun h60 => ?_) (fun _ => fin)) (fun _ => fin))
    refine ⟨k0, hlt, fun x hx => ?_⟩
    rw [wrap_i64 (x := k + 1) (by omega) (by omega)]
    refine cond_n (fun hne => ⟨k0, hlt, fun x3 hx3 => ⟨k0, hlt, fun x4 hx4 => ?_⟩⟩) (fun _ => ?_)
    · rw [hx] at hx3 hx4
      cases hx3; cases hx4
      refine ask_wp (hearPre hr (by omega) hne hb hs hn hg1 (fun rs g' l' n' by' m' bs' hr' hb' hs' hl' hg' hn' => ?_))
      refine ⟨_, ?_, by omega, by omega, rfl, bs', hr', hb', hs', by omega, by omega, by omega, by omega⟩
      omega
    · refine ⟨_, ?_, by omega, by omega, rfl, bs, hr, hb, hs, by omega, hg0, hg1, hn⟩
      omega
  · rintro gnow l now by_ m ⟨bs, hr, hb, hs, hl, hg0, hg1, hn⟩
    have hll := NatS.live_len (t := 2) (bs := bs)
    refine ⟨fun gnow l now ver ins port secs non res ep host code by_ m => (code ≠ 0 ∨ res ≠ 0 ∨ secs = 0) ∨ (code = 0 ∧ res = 0 ∧ gnow = 2 ∧ now = 2 ∧ ins = i ∧ NatS.mayP fh fp ∧ (1 ≤ i ∧ i ≤ 65535) ∧ (1 ≤ s ∧ s ≤ 4294967295) ∧ secs = min s 100 ∧ ∃ A, (∀ x ∈ A, x.1 ≠ fh) ∧ (∀ x ∈ A, NatS.prt x ≠ port) ∧ NatS.okS A ∧ A.length ≤ 60 ∧ (40000 ≤ port ∧ port ≤ 40009) ∧ NatS.Rep m l (A ++ [NatS.askB fh i port (2 + secs)])), ?_, ?_⟩
    · rintro gnow l now ver ins0 port secs non res ep host code by_ m (hc | ⟨rfl, rfl, rfl, rfl, rfl, hm, hi, hss, hsec, A, hA1, hA2, hA3, hA4, hq, hrA⟩)
      · refine ⟨fun t => t = true, fun t ht => cond_t ht rfl, ?_⟩
        refine cond_n (fun _ => rfl) (fun h => cond_n (fun _ => rfl) (fun h2 => ?_))
        exact beq_iff_eq.2 (hc.elim (fun hc => absurd h hc) (fun hc => hc.elim (fun hc => absurd h2 hc) id))
      · have hs1 : 1 ≤ secs := by omega
        have hs2 : secs ≤ 100 := by omega
        refine joinP1.i (cond_f rfl (cond_f rfl (cond_e (fun h => by omega) (fun _ => ?_))))
        rw [wrap_i64 (x := 2 + secs) (by omega) (by omega), wrap_i64 (x := 2 + secs - 1) (by omega) (by omega), wrap_i64 (x := 2 + secs + 8) (by omega) (by omega)]
        refine inHave_wp hrA (by omega) hA3 hA2 (by decide) (by omega) (by omega) (by omega) (fun l1 m1 hr1 => ?_)
        have hl1 := NatS.live_len (t := 2 + secs - 1) (bs := A)
        have hB1 : ∀ x ∈ NatS.live (2 + secs - 1) A, x.1 ≠ fh := fun x hx => hA1 x (NatS.live_mem hx)
        have hB2 : ∀ x ∈ NatS.live (2 + secs - 1) A, NatS.prt x ≠ port := fun x hx => hA2 x (NatS.live_mem hx)
        have hB3 : NatS.okS (NatS.live (2 + secs - 1) A) := NatS.okS_live hA3
        generalize hB : NatS.live (2 + secs - 1) A = B at hr1 hl1 hB1 hB2 hB3
        refine ⟨fun l now gnow ver ins port1 secs1 non res ep host code m by_ => code = 0 ∧ port1 = port ∧ secs1 = 10 ∧ now = 2 + secs - 1 ∧ gnow = 2 + secs - 1 ∧ NatS.Rep m l (NatS.live (2 + secs - 1) B ++ [NatS.askB fh ins0 port (2 + secs - 1 + 10)]), ?_, ?_⟩
        · rintro l now gnow ver ins port1 secs1 non res ep host code m by_ ⟨rfl, rfl, rfl, rfl, rfl, hr2⟩
          have hl2 := NatS.live_len (t := 2 + secs - 1) (bs := B)
          refine inHave_wp hr2 (by omega) (NatS.okS_live hB3) (fun x hx => hB2 x (NatS.live_mem hx)) (by decide) (by omega) (by omega) (by omega) (fun l3 m3 hr3 => ?_)
          have hl3 := NatS.live_len (t := 2 + secs + 8) (bs := NatS.live (2 + secs - 1) B)
          refine ⟨fun l now gnow ver ins port2 secs2 non res ep host code m by_ => code = 0 ∧ secs2 = 0 ∧ port2 = 0 ∧ res = 0 ∧ now = 2 + secs + 8 ∧ NatS.Rep m l (NatS.live (2 + secs + 8) (NatS.live (2 + secs + 8) (NatS.live (2 + secs - 1) B))), ?_, ?_⟩
          · rintro l now gnow ver ins port2 secs2 non res ep host code m by_ ⟨rfl, rfl, rfl, rfl, rfl, hr4⟩
            have hl4 := NatS.live_len (t := 2 + secs + 8) (bs := NatS.live (2 + secs + 8) (NatS.live (2 + secs - 1) B))
            refine inNo_wp hr4 (by omega) (NatS.okS_live (NatS.okS_live (NatS.okS_live hB3))) (fun x hx => hB2 x (NatS.live_mem (NatS.live_mem (NatS.live_mem hx)))) (by decide) (by omega) (by omega) (fun l5 m5 => ?_)
            refine joinP1.i (cond_d (fun h => by omega) (fun _ => ?_))
            refine cond_n (fun h => absurd ?_ h) (fun _ => cond_f rfl (cond_f (by simp) (cond_f rfl (cond_f (by simp) (cond_f rfl ?_)))))
            · rw [secs_min]; omega
            · exact cond_t rfl (cond_t (by simp) (cond_t rfl (cond_t rfl (cond_t rfl (cond_t rfl rfl)))))
          · have H : ∀ (K : List Int → Int → List (Option Nat) → Int → BY → SB → Prop), (∀ l' by' m', NatS.Rep m' l' (NatS.live (2 + secs + 8) (NatS.live (2 + secs + 8) (NatS.live (2 + secs - 1) B))) → K (ansF 0 ins0 0 0 0 0 (2 + secs + 8 - 0) 0 false) (2 + secs + 8) l' (2 + secs + 8) by' m') → gG_Hear_wp 3405803777 40000 40009 2 2 30 12 l3 (2 + secs + 8) true true 100 0 (2 + secs - 1) by_ (2 + secs + 8) fh fp (askF 0 ins0 0 0 0 0 0 0 false) m3 K := fun K hK =>
              hearDrop hr3 (by omega) (fun x hx => hB1 x (NatS.live_mem (NatS.live_mem hx))) (by omega) (by omega) (by omega) (by omega) (by omega) hm hi (fun l' by' hr' => hK _ _ _ hr')
            have R : ∀ (K : Int → Int → Int → Int → Int → Int → Int → Int → Bool → Int → Prop), K 0 ins0 0 0 0 0 (2 + secs + 8 - 0) 0 false 0 → pmp_ReadAnswer_wp (ansF 0 ins0 0 0 0 0 (2 + secs + 8 - 0) 0 false) K := fun K hK =>
              readAnsF (by decide) (by decide) ⟨⟨⟨by omega, hi.2⟩, by decide, by decide, by decide, ⟨by omega, by omega⟩⟩, by decide, (fun h => by cases h), (fun _ => rfl)⟩ hK
            exact ⟨ask_wp ⟨H _ fun l' by' m' hr' => ⟨R _ ⟨rfl, rfl, rfl, rfl, rfl, hr'⟩, R _ ⟨rfl, rfl, rfl, rfl, rfl, hr'⟩⟩, H _ fun l' by' m' hr' => R _ ⟨rfl, rfl, rfl, rfl, rfl, hr'⟩⟩, ask_wp (H _ fun l' by' m' hr' => R _ ⟨rfl, rfl, rfl, rfl, rfl, hr'⟩)⟩
        · have H : ∀ (K : List Int → Int → List (Option Nat) → Int → BY → SB → Prop), (∀ l' by' m', NatS.Rep m' l' (NatS.live (2 + secs - 1) B ++ [NatS.askB fh ins0 port (2 + secs - 1 + 10)]) → K (ansF 0 ins0 port 10 0 0 (2 + secs - 1 - 0) 0 false) (2 + secs - 1) l' (2 + secs - 1) by' m') → gG_Hear_wp 3405803777 40000 40009 2 2 30 12 l1 (2 + secs - 1) true true 100 0 2 by_ (2 + secs - 1) fh fp (askF 0 ins0 1 10 0 0 0 0 false) m1 K := fun K hK =>
            hearRenew hr1 (by omega) hB1 (by omega) (by omega) (by omega) (by omega) (by omega) hm hi (by decide) (by decide) (fun l' by' m' hr' => hK _ _ _ hr')
          have R : ∀ (K : Int → Int → Int → Int → Int → Int → Int → Int → Bool → Int → Prop), K 0 ins0 port 10 0 0 (2 + secs - 1 - 0) 0 false 0 → pmp_ReadAnswer_wp (ansF 0 ins0 port 10 0 0 (2 + secs - 1 - 0) 0 false) K := fun K hK =>
            readAnsF (by decide) (by decide) ⟨⟨⟨by omega, hi.2⟩, ⟨by omega, by omega⟩, by decide, by decide, ⟨by omega, by omega⟩⟩, by decide, (fun h => by cases h), (fun _ => rfl)⟩ hK
          exact ⟨ask_wp ⟨H _ fun l' by' m' hr' => ⟨R _ ⟨rfl, rfl, rfl, rfl, rfl, hr'⟩, R _ ⟨rfl, rfl, rfl, rfl, rfl, hr'⟩⟩, H _ fun l' by' m' hr' => R _ ⟨rfl, rfl, rfl, rfl, rfl, hr'⟩⟩, ask_wp (H _ fun l' by' m' hr' => R _ ⟨rfl, rfl, rfl, rfl, rfl, hr'⟩)⟩
    · have G : ∀ (Q9 : Int → List (Option Nat) → Int → Int → Int → Int → Int → Int → Int → Int → Int → Int → BY → SB → Prop), (∀ gnow l now ver ins port secs non res ep host code by_ m, ((code ≠ 0 ∨ res ≠ 0 ∨ secs = 0) ∨ (code = 0 ∧ res = 0 ∧ gnow = 2 ∧ now = 2 ∧ ins = i ∧ NatS.mayP fh fp ∧ (1 ≤ i ∧ i ≤ 65535) ∧ (1 ≤ s ∧ s ≤ 4294967295) ∧ secs = min s 100 ∧ ∃ A, (∀ x ∈ A, x.1 ≠ fh) ∧ (∀ x ∈ A, NatS.prt x ≠ port) ∧ NatS.okS A ∧ A.length ≤ 60 ∧ (40000 ≤ port ∧ port ≤ 40009) ∧ NatS.Rep m l (A ++ [NatS.askB fh i port (2 + secs)]))) → Q9 gnow l now ver ins port secs non res ep host code by_ m) →
          ∀ (K : List Int → Int → List (Option Nat) → Int → BY → SB → Prop), (∀ rs g' l' n' by' m', (∀ (K2 : Int → Int → Int → Int → Int → Int → Int → Int → Bool → Int → Prop), (∀ r1 r2 r3 r4 r5 r6 r7 r8 b r9, Q9 g' l' n' r1 r2 r3 r4 r5 r6 r7 r8 r9 by' m' → K2 r1 r2 r3 r4 r5 r6 r7 r8 b r9) → pmp_ReadAnswer_wp rs K2) → K rs g' l' n' by' m') →
          gG_Hear_wp 3405803777 40000 40009 2 2 30 12 l now true true 100 0 gnow by_ 2 fh fp (askF 0 i p s 0 0 0 0 false) m K := by
        intro Q9 hQ K hK
        refine hearAsk hr (by omega) hb hs (by omega) (by omega) (fun g' l' n' by' m' => hK _ _ _ _ _ _ (fun K2 h2 => readAnsNil (h2 _ _ _ _ _ _ _ _ _ _ (hQ _ _ _ _ _ _ _ _ _ _ _ _ _ _ (.inl (.inl (by decide)))))))
          (fun re g' l' n' by' m' hre hi => hK _ _ _ _ _ _ (fun K2 h2 => readAnsF (by decide) (by decide) ⟨⟨hi, by decide, by decide, ⟨by omega, by omega⟩, by decide⟩, by decide, (fun h => by cases h), (fun _ => rfl)⟩ (h2 _ _ _ _ _ _ _ _ _ _ (hQ _ _ _ _ _ _ _ _ _ _ _ _ _ _ (.inl (.inr (.inl (by omega))))))))
          (fun g' l' n' by' m' hi => hK _ _ _ _ _ _ (fun K2 h2 => readAnsF (by decide) (by decide) ⟨⟨hi, by decide, by decide, by decide, by decide⟩, by decide, (fun h => by cases h), (fun _ => rfl)⟩ (h2 _ _ _ _ _ _ _ _ _ _ (hQ _ _ _ _ _ _ _ _ _ _ _ _ _ _ (.inl (.inr (.inr rfl)))))))
          (fun q l' by' m' hm hi hss hq hqA hr' => hK _ _ _ _ _ _ (fun K2 h2 => readAnsF (by decide) (by decide) ⟨⟨⟨by omega, hi.2⟩, ⟨by omega, by omega⟩, ⟨by omega, by omega⟩, by decide, by decide⟩, by decide, (fun h => by cases h), (fun _ => rfl)⟩ (h2 _ _ _ _ _ _ _ _ _ _ (hQ _ _ _ _ _ _ _ _ _ _ _ _ _ _ (.inr ⟨rfl, rfl, rfl, rfl, rfl, hm, hi, hss, rfl, NatS.live 2 bs, fun x hx => hb x (NatS.live_mem hx), hqA, NatS.okS_live hs, by omega, hq, hr'⟩)))))
      exact ⟨ask_wp ⟨G _ (fun _ _ _ _ _ _ _ _ _ _ _ _ _ _ h => h) _ fun rs g' l' n' by' m' hR => ⟨hR _ (fun _ _ _ _ _ _ _ _ _ _ h => h), hR _ (fun _ _ _ _ _ _ _ _ _ _ h => h)⟩, G _ (fun _ _ _ _ _ _ _ _ _ _ _ _ _ _ h => h) _ fun rs g' l' n' by' m' hR => hR _ (fun _ _ _ _ _ _ _ _ _ _ h => h)⟩, ask_wp (G _ (fun _ _ _ _ _ _ _ _ _ _ _ _ _ _ h => h) _ fun rs g' l' n' by' m' hR => hR _ (fun _ _ _ _ _ _ _ _ _ _ h => h))⟩
end Go.Proofs.Ytnmdnkmemjfoeaa
