/- The gateway's laws GateDeaf, GateEpochs, GateKeeps (plain side). -/
import Derived.Test.YtnmdnkmemjfoeaaA
namespace Go.Proofs.Ytnmdnkmemjfoeaa
open Go Go.Eng
theorem same_nil {K : Bool → Prop} (h : K true) : embrasureref08_Same_wp [] [] K := by
  unfold embrasureref08_Same_wp
  refine cond_n (fun hx => absurd rfl hx) (fun _ => ?_)
  refine ⟨fun n i => i = 0, ⟨0, rfl⟩, ?_⟩
  rintro n i rfl
  exact cond_f rfl h
theorem allNil_wp {mp fi now t : Int} {m : SB} {l : List (Option Nat)} {K : List BI → List (Option Nat) → Int → SB → Prop} (hr : NatS.Rep m l []) (hK : ∀ l' n' m', K [] l' n' m') : nat_Nat_All_wp 3405803777 40000 40009 mp fi 30 12 l now t m K := by
  refine NatS.all_wp hr (by decide) (fun _ => hK _ _ _) (fun _ l' m' rs _ _ hp _ => ?_)
  have : rs = [] := List.Perm.eq_nil hp
  subst this
  exact hK _ _ _
theorem gateDeaf_plain0 {b : List Int} {fh fp : Int} {both : Bool} (hbb : isBytes b) (hf : 0 ≤ fh) : embrasurelaw11_GateDeaf_wp b fh fp both (· = true) := by
  unfold embrasurelaw11_GateDeaf_wp
  refine gawake_wp (cond_f rfl (cond_d (fun _ => rfl) (fun hl200 => ?_)))
  refine box0_wp (nnew_wp (by decide) (joinP1.i (cond_f rfl ?_)))
  refine gnew_wp (by decide) (by decide) (by decide) (by decide) (joinP1.i (cond_f rfl ?_))
  -- what it answers where the bytes are no request
  have main : ∀ (r_31 : Int), (r_31 = 0 ∨ ¬ raOK b) → gate_Gate_Hear_wp 3405803777 40000 40009 0 0 30 12 [] 0 true both 60 0 0 [] 1 fh fp b ([] : SB) (fun (rs : List Int) (now_2 : Int) (list_1 : List (Option Nat)) (now_3 : Int) (m_1 : BY) (m_2 : SB) => joinP1 (fun (t63 : Bool) => cond t63 (true = true) (joinP1 (fun (t91 : Bool) => cond t91 (pmp_ReadAnswer_wp rs (fun r_32 r_33 r_34 r_35 r_36 r_37 r_38 r_39 r_40 r_41 => cond (r_41 == 0) (cond r_40 (cond (r_37 == 1) (nat_Nat_All_wp 3405803777 40000 40009 0 0 30 12 list_1 now_3 1 m_2 (fun rs_1 list_2 now_4 m_3 => (((rs_1.length : Nat) : Int) == 0) = true)) (false = true)) (false = true)) (false = true))) (cond ((((rs.length : Nat) : Int)) == 0) (nat_Nat_All_wp 3405803777 40000 40009 0 0 30 12 list_1 now_3 1 m_2 (fun rs_2 list_3 now_5 m_4 => embrasureref08_Same_wp rs_2 [] (fun r_42 => r_42 = true))) (false = true))) (fun (Q_5 : Bool → Prop) => cond (decide (((b.length : Nat) : Int) > 0)) (0 ≤ (0 : Int) ∧ (0 : Int) < ((b.length : Nat) : Int) ∧ (∀ (x_1 : Int), b[Int.toNat 0]? = some x_1 → (cond (x_1 == 2) (cond (!both) (cond (fh != 0) (cond (decide (fp ≥ 1)) (Q_5 (decide (fp ≤ 65535))) (Q_5 false)) (Q_5 false)) (Q_5 false)) (Q_5 false)))) (Q_5 false)))) (fun (Q_4 : Bool → Prop) => cond (r_31 == 0) (Q_4 true) (Q_4 ((((b.length : Nat) : Int)) == 60)))) := by
    intro r31 hr31
    -- an empty answer, that should be empty
    have emp : (∀ x, b[0]? = some x → x = 2 → both = false → ¬ NatS.mayP fh fp) ∨ r31 = 0 ∨ b.length = 60 → joinP1 (fun (t63 : Bool) => cond t63 (true = true) (joinP1 (fun (t91 : Bool) => cond t91 (pmp_ReadAnswer_wp [] (fun r_32 r_33 r_34 r_35 r_36 r_37 r_38 r_39 r_40 r_41 => cond (r_41 == 0) (cond r_40 (cond (r_37 == 1) (nat_Nat_All_wp 3405803777 40000 40009 0 0 30 12 [] 0 1 [] (fun rs_1 list_2 now_4 m_3 => (((rs_1.length : Nat) : Int) == 0) = true)) (false = true)) (false = true)) (false = true))) (cond ((((([] : List Int).length : Nat) : Int)) == 0) (nat_Nat_All_wp 3405803777 40000 40009 0 0 30 12 [] 0 1 [] (fun rs_2 list_3 now_5 m_4 => embrasureref08_Same_wp rs_2 [] (fun r_42 => r_42 = true))) (false = true))) (fun (Q_5 : Bool → Prop) => cond (decide (((b.length : Nat) : Int) > 0)) (0 ≤ (0 : Int) ∧ (0 : Int) < ((b.length : Nat) : Int) ∧ (∀ (x_1 : Int), b[Int.toNat 0]? = some x_1 → (cond (x_1 == 2) (cond (!both) (cond (fh != 0) (cond (decide (fp ≥ 1)) (Q_5 (decide (fp ≤ 65535))) (Q_5 false)) (Q_5 false)) (Q_5 false)) (Q_5 false)))) (Q_5 false)))) (fun (Q_4 : Bool → Prop) => cond (r31 == 0) (Q_4 true) (Q_4 ((((b.length : Nat) : Int)) == 60))) := by
      intro hc
      refine joinP1.i (cond_e (fun _ => rfl) (fun hr0 => ?_))
      refine cond_e (fun _ => rfl) (fun h60 => ?_)
      have hc2 : ∀ x, b[0]? = some x → x = 2 → both = false → ¬ NatS.mayP fh fp := by
        rcases hc with hc | hc | hc
        · exact hc
        · exact absurd hc hr0
        · omega
      have done : cond false (pmp_ReadAnswer_wp [] (fun r_32 r_33 r_34 r_35 r_36 r_37 r_38 r_39 r_40 r_41 => cond (r_41 == 0) (cond r_40 (cond (r_37 == 1) (nat_Nat_All_wp 3405803777 40000 40009 0 0 30 12 [] 0 1 [] (fun rs_1 list_2 now_4 m_3 => (((rs_1.length : Nat) : Int) == 0) = true)) (false = true)) (false = true)) (false = true))) (cond ((((([] : List Int).length : Nat) : Int)) == 0) (nat_Nat_All_wp 3405803777 40000 40009 0 0 30 12 [] 0 1 [] (fun rs_2 list_3 now_5 m_4 => embrasureref08_Same_wp rs_2 [] (fun r_42 => r_42 = true))) (false = true)) :=
        cond_f rfl (cond_t rfl (allNil_wp (NatS.Rep.nil _) (fun _ _ _ => same_nil rfl)))
      refine joinP1.i (cond_d (fun hpos => ⟨by decide, by omega, fun x hx => ?_⟩) (fun _ => done))
      refine cond_e (fun e2 => cond_b (fun eb => ?_) (fun _ => done)) (fun _ => done)
      have hb' : both = false := by cases both <;> simp_all
      refine cond_n (fun nz => cond_d (fun hp1 => ?_) (fun _ => done)) (fun _ => done)
      have : ¬ fp ≤ 65535 := fun hp2 => hc2 x hx e2 hb' ⟨nz, hp1, hp2⟩
      rw [decide_eq_false this]
      exact done
    refine ghear_wp hbb (by decide) (by decide) (by decide) (.inl rfl) (fun hm => emp (.inl fun _ _ _ _ => hm)) (fun _ hb => emp (.inl fun x hx => by rw [hb] at hx; cases hx)) (fun _ x hx h0 h2 => emp (.inl fun y hy ey => by rw [hx] at hy; cases hy; exact absurd ey h2)) (fun hm hx => ?_) (fun hm hx => ?_)
    · -- NAT-PMP's
      by_cases hra : raOK b
      · have hr0 : r31 = 0 := hr31.elim id (fun h => absurd hra h)
        subst hr0
        have tt : ∀ (R : Bool → Prop), R true → joinP1 R (fun Q_4 => cond ((0 : Int) == 0) (Q_4 true) (Q_4 ((((b.length : Nat) : Int)) == 60))) := fun R hR => joinP1.i (cond_t rfl hR)
        exact gpmp_wp (NatS.Rep.nil _) (by decide) hbb (by decide) (by decide) (by decide) (by decide) (by decide) (by decide) ⟨fun h => (by cases h), fun _ h => absurd hra h, fun _ _ _ => tt _ rfl, fun _ _ _ _ _ _ => tt _ rfl, fun _ _ _ _ _ => tt _ rfl, fun _ _ _ _ _ _ _ _ => ⟨fun _ => tt _ rfl, fun _ => tt _ rfl⟩⟩
      · refine gpmp_wp (NatS.Rep.nil _) (by decide) hbb (by decide) (by decide) (by decide) (by decide) (by decide) (by decide) ⟨fun h => (by cases h), fun _ _ => emp (.inl fun y hy ey => ?_), fun _ h => absurd h hra, fun _ h => absurd h hra, fun _ h => absurd h hra, fun _ h => absurd h hra⟩
        rw [hx] at hy; cases hy; cases ey
    · -- PCP's
      cases hbo : both with
      | true =>
        subst hbo
        by_cases h60 : b.length = 60
        · have e60 : ((((b.length : Nat) : Int)) == 60) = true := by rw [beq_iff_eq]; omega
          have tt : ∀ (R : Bool → Prop), R true → joinP1 R (fun Q_4 => cond (r31 == 0) (Q_4 true) (Q_4 ((((b.length : Nat) : Int)) == 60))) := fun R hR => joinP1.i (cond_e (fun _ => hR) (fun _ => by rw [e60]; exact hR))
          refine gpcp_wp (NatS.Rep.nil _) (by decide) hbb (by decide) (by decide) (by decide) (by decide) (by decide) (by decide) (fun x hx => by cases hx) ⟨fun h => (by cases h), fun _ _ => tt _ rfl, fun _ _ _ => tt _ rfl, fun _ _ _ _ _ _ _ => tt _ rfl, fun _ _ _ _ _ _ _ _ => tt _ rfl, fun _ _ _ _ _ _ _ _ _ => tt _ rfl, fun _ _ _ _ _ _ _ _ _ => ⟨fun _ => tt _ rfl, fun _ => tt _ rfl⟩⟩
        · have nra : ¬ praOK b := fun h => h60 h.1
          refine gpcp_wp (NatS.Rep.nil _) (by decide) hbb (by decide) (by decide) (by decide) (by decide) (by decide) (by decide) (fun x hx => by cases hx) ⟨fun h => (by cases h), fun _ _ => emp (.inl fun y hy ey eb => (by cases eb)), fun _ h => absurd h nra, fun _ h => absurd h nra, fun _ h => absurd h nra, fun _ h => absurd h nra, fun _ h => absurd h nra⟩
      | false =>
        subst hbo
        refine gpcp_wp (NatS.Rep.nil _) (by decide) hbb (by decide) (by decide) (by decide) (by decide) (by decide) (by decide) (fun x hx => by cases hx) ⟨fun _ => ?_, fun h => (by cases h), fun h => (by cases h), fun h => (by cases h), fun h => (by cases h), fun h => (by cases h), fun h => (by cases h)⟩
        refine joinP1.i (cond_e (fun _ => rfl) (fun _ => cond_e (fun _ => rfl) (fun _ => ?_)))
        have hpos : b.length > 0 := by
          cases b with
          | nil => cases hx
          | cons => simp
        refine joinP1.i (cond_d (fun _ => ⟨by decide, by omega, fun x hx' => ?_⟩) (fun h => by omega))
        have ex : x = 2 := by
          have : b[Int.toNat 0]? = some 2 := hx
          rw [this] at hx'
          exact (Option.some.inj hx').symm
        refine cond_e (fun _ => cond_t rfl ?_) (fun h => absurd ex h)
        refine cond_n (fun _ => cond_d (fun _ => ?_) (fun h => absurd hm.2.1 h)) (fun h => absurd h hm.1)
        rw [decide_eq_true hm.2.2]
        refine cond_t rfl (readAnsF (by decide) (by decide) (by decide) ?_)
        exact cond_t rfl (cond_t rfl (cond_t rfl (allNil_wp (NatS.Rep.nil _) (fun _ _ _ => rfl))))
  refine readAsk_wp hbb (fun ha => main 0 (.inl rfl)) (fun ha => main 3 (.inr ha))
end Go.Proofs.Ytnmdnkmemjfoeaa
