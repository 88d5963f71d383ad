/- The plain side: NatAsked. -/
import Derived.Test.YthhbnjcebmhilaaPA
namespace Go.Proofs.Ythhbnjcebmhilaa
open Go Go.Eng

def xa (ih ip u : Int) (s : List (Int × Int)) : BX := (ih, ip, 0, 0, 40005, u, true, s)

theorem asked_xa (ih ip u : Int) (s : List (Int × Int)) : [xa ih ip u s].findIdx? (isAsked ih ip) = some 0 := by
  simp [List.findIdx?_cons, isAsked, inIs, xa]

theorem natOut_xa {h lo hi mp li mo t ih ip th tp u : Int} {s : List (Int × Int)} : natOut h lo hi mp li mo [xa ih ip u s] t ih ip th tp = ((h, 40005, 0), [xa ih ip u (seeS th tp s)]) := by
  have e : outI ih ip (keyH mp th) (keyP mp tp) [xa ih ip u s] = some 0 := by
    unfold outI
    rw [asked_xa]
  unfold natOut
  rw [e]
  rfl

theorem natIn_xa {fi ih ip u fh fp : Int} {s : List (Int × Int)} : natIn fi [xa ih ip u s] 40005 fh fp = (ih, ip, 0) := by
  have e : [xa ih ip u s].findIdx? (portIs 40005) = some 0 := by simp [List.findIdx?_cons, portIs, xa]
  unfold natIn
  rw [e]
  rfl

theorem natAsk_xa {lo hi mo ih ip u u' w : Int} {s : List (Int × Int)} : natAsk lo hi mo [xa ih ip u s] ih ip w u' = ((40005, 0), [xa ih ip u' s]) := by
  unfold natAsk
  rw [asked_xa]
  rfl

theorem natAsk_new {mo ih ip u : Int} (h : 0 < mo) : natAsk 40000 40009 mo [] ih ip 40005 u = ((40005, 0), [xa ih ip u []]) := by
  unfold natAsk
  have e : chooseP 40000 40009 40005 [] = some 40005 := by decide
  simp only [List.findIdx?_nil, e]
  rw [if_pos (by simpa using h)]
  rfl

theorem natAsked_plain {c : Int} {ih ip : Int} {others : List (Int × Int)} (hc : inK .u8 c) (h1 : inK .u32 ih) (h2 : inK .i64 ip) (hw : ∀ x ∈ others, inK .u32 x.1 ∧ inK .i64 x.2) (hl : others.length ≤ 9223372036854775807) :
    embrasurelaw08_NatAsked_wp c ih ip others (· = true) := by
  have hc := u8b hc
  unfold embrasurelaw08_NatAsked_wp
  refine awake_wp (cond_f rfl (box_wp hc (newNat_wp (fun h => absurd (by unfold mayB; omega) h) (fun _ => ?_))))
  generalize c % 3 = mp
  generalize c / 3 % 3 = fi
  refine ⟨fun t => (t = true ↔ others.length > 20), fun t ht => ?_, cond_f rfl (by simp; omega)⟩
  refine cond_b (fun e => ?_) (fun e => ?_)
  · have := ht.1 e; simp only [decide_eq_true_eq]; omega
  have hlen : others.length ≤ 20 := Classical.byContradiction fun hcc => by rw [ht.2 (by omega)] at e; cases e
  refine ask_wp (Rep.nil _) (by simp) (by omega) (by omega) (fun _ => cond_t rfl rfl) (fun hm l1 m1 hr1 _ => ?_)
  have e0 : live 0 ([] : List BX) = [] := rfl
  rw [e0, natAsk_new (by omega)] at hr1 ⊢
  have lv : ∀ {t u : Int} {s : List (Int × Int)}, t < u → live t [xa ih ip u s] = [xa ih ip u s] := fun {t u s} h => live_one.1 h
  refine cond_f rfl ⟨fun l now m => ∃ s, (now = 0 ∨ now = 1) ∧ s.length ≤ 16 ∧ Rep m l [xa ih ip 50 s], ?_, fun n l now i m => ∃ s, (now = 0 ∨ now = 1) ∧ 0 ≤ i ∧ i ≤ others.length ∧ n = others.length - i.toNat ∧ s.length ≤ 16 ∧ Rep m l [xa ih ip 50 s],
    ⟨_, [], .inl rfl, by omega, by omega, rfl, by simp, hr1⟩, ?_⟩
  · rintro l now m ⟨s, hnow, hs, hr⟩
    refine ask_wp hr (by simp) (by omega) (by omega) (fun h => absurd ⟨hm.1, by omega, by omega, by omega, by omega⟩ h) (fun _ l2 m2 hr2 _ => ?_)
    rw [lv (by omega), natAsk_xa] at hr2 ⊢
    have hs2 : okS [xa ih ip 60 s] := okS_one hs
    have h55 : mayP 5 5 := by unfold mayP; omega
    refine in_wp hr2 (by simp) hs2 (fun h => absurd ⟨h55, by omega, by omega⟩ h) (fun _ l3 m3 hr3 _ => ?_)
    rw [lv (by omega), natIn_xa]
    rw [lv (by omega)] at hr3
    refine in_wp hr3 (by simp) hs2 (fun h => absurd ⟨h55, by omega, by omega⟩ h) (fun _ l4 m4 hr4 _ => ?_)
    have e60 : live 60 [xa ih ip 60 s] = [] := live_one.2 (by show (60 : Int) ≤ 60; omega)
    rw [e60, natIn_nil]
    rw [e60] at hr4
    refine cond_t rfl (cond_t rfl (cond_t rfl (cond_t rfl (cond_t (by simp) (cond_t rfl (all_wp hr4 (by simp) (fun h => absurd (by omega) h) (fun _ l' m' rs _ _ hp _ => ?_)))))))
    have : rs = [] := by simpa [live] using hp
    rw [this]; rfl
  · rintro n l now i m ⟨s, hnow, i0, i1, rfl, hs, hr⟩
    refine cond_d (fun hlt => ?_) (fun _ => ⟨s, hnow, hs, hr⟩)
    have hil : i.toNat < others.length := by omega
    obtain ⟨o, ho⟩ : ∃ o, others[i.toNat]? = some o := ⟨_, List.getElem?_eq_getElem hil⟩
    refine ⟨fun l' now' hh p g m' => ∃ s, s.length ≤ 16 ∧ Rep m' l' [xa ih ip 50 s] ∧ ((g = 1 ∧ (now' = 0 ∨ now' = 1)) ∨ (g = 0 ∧ p = 40005 ∧ now' = 1 ∧ mayP o.1 o.2)), ?_, ⟨i0, hlt, fun x hx => ?_⟩⟩
    · rintro l' now' hh p g m' ⟨s', hs', hr', (⟨rfl, hn'⟩ | ⟨rfl, rfl, rfl, hmo⟩)⟩
      · refine cond_t rfl ⟨_, ?_, s', hn', ?_, ?_, rfl, hs', hr'⟩
        all_goals rw [wrap_i64 (by omega) (by omega)]
        all_goals omega
      · refine cond_f rfl ⟨i0, hlt, fun x hx => ?_⟩
        rw [ho] at hx; cases hx
        refine in_wp hr' (by simp) (okS_one hs') (fun h => absurd ⟨hmo, by omega, by omega⟩ h) (fun _ l3 m3 hr3 _ => ?_)
        rw [lv (by omega), natIn_xa]
        rw [lv (by omega)] at hr3
        refine joinP1.i (cond_f rfl (cond_f rfl (cond_f rfl (cond_f (by simp) ⟨_, ?_, s', .inr rfl, ?_, ?_, rfl, hs', hr3⟩))))
        all_goals rw [wrap_i64 (by omega) (by omega)]
        all_goals omega
    · rw [ho] at hx; cases hx
      have key : nat_Nat_Out_wp 3405803777 40000 40009 mp fi 30 12 l now 1 ih ip o.1 o.2 m (fun _ p g l' now' m' => ∃ s, s.length ≤ 16 ∧ Rep m' l' [xa ih ip 50 s] ∧ ((g = 1 ∧ (now' = 0 ∨ now' = 1)) ∨ (g = 0 ∧ p = 40005 ∧ now' = 1 ∧ mayP o.1 o.2))) := by
        refine out_wp hr (by simp) (by omega) (by omega) (by omega) (by omega) (okS_one hs) (fun _ => ⟨s, hs, hr, .inl ⟨rfl, hnow⟩⟩) (fun hmm l' m' hr' _ => ?_)
        rw [lv (by omega), natOut_xa] at hr' ⊢
        exact ⟨_, seeS_len _ _ _, hr', .inr ⟨rfl, rfl, rfl, hmm.2.1⟩⟩
      exact ⟨key, key⟩

end Go.Proofs.Ythhbnjcebmhilaa
