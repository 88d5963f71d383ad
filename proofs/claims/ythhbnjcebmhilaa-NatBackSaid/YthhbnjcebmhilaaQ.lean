/- The plain side: what the document fixes; NatLasts. -/
import Derived.Test.YthhbnjcebmhilaaP
namespace Go.Proofs.Ythhbnjcebmhilaa
open Go Go.Eng

theorem i64b {h : Int} (hh : inK .i64 h) : -9223372036854775808 ≤ h ∧ h ≤ 9223372036854775807 := by simp [inK, IntKind.min, IntKind.max, IntKind.signed, IntKind.bits] at hh; omega
theorem u8b {h : Int} (hh : inK .u8 h) : 0 ≤ h ∧ h ≤ 255 := by simp [inK, IntKind.min, IntKind.max, IntKind.signed, IntKind.bits] at hh; omega
theorem u32b {h : Int} (hh : inK .u32 h) : 0 ≤ h ∧ h ≤ 4294967295 := by simp [inK, IntKind.min, IntKind.max, IntKind.signed, IntKind.bits] at hh; omega

theorem box_wp {c : Int} {K : Int → Int → Int → Int → Int → Int → Int → Prop} (hc : 0 ≤ c ∧ c ≤ 255) (hK : K 3405803777 40000 40009 (c % 3) (c / 3 % 3) 30 12) : embrasurelaw08_Box_wp c K := by
  unfold embrasurelaw08_Box_wp
  rw [wrap_i64 (x := c) (by omega) (by omega), tmod_pos hc.1, tdiv_pos hc.1, wrap_i64 (x := c / 3) (by omega) (by omega), tmod_pos (by omega)]
  exact hK

theorem okS_one {x : BX} (h : x.2.2.2.2.2.2.2.length ≤ 16) : okS [x] := fun y hy => by simp at hy; subst hy; exact h

theorem awake_wp {K : Bool → Prop} (hK : K true) : embrasurelaw08_awake_wp K := by
  unfold embrasurelaw08_awake_wp
  refine box_wp (by omega) (newNat_wp (fun h => absurd (by decide) h) (fun _ => joinP1.i (cond_f rfl ?_)))
  refine out_wp (Rep.nil _) (by simp) (by omega) (by omega) (by omega) (by omega) (fun x hx => by simp at hx) (fun h => absurd (by decide) h) (fun _ l1 m1 hr1 _ => ?_)
  have e1 : natOut 3405803777 40000 40009 (4 % 3) 30 12 (live 1 []) 1 167772161 5 134744072 53 = ((3405803777, 40000, 0), [(167772161, 5, 134744072, 0, 40000, 31, false, [(134744072, 53)])]) := rfl
  rw [e1] at hr1 ⊢
  have hs : okS [((167772161, 5, 134744072, 0, 40000, 31, false, [(134744072, 53)]) : BX)] := okS_one (by decide)
  have e2 : live 2 [((167772161, 5, 134744072, 0, 40000, 31, false, [(134744072, 53)]) : BX)] = [(167772161, 5, 134744072, 0, 40000, 31, false, [(134744072, 53)])] := rfl
  refine in_wp hr1 (by simp) hs (fun h => absurd (by decide) h) (fun _ l2 m2 hr2 _ => ?_)
  rw [e2] at hr2 ⊢
  refine in_wp hr2 (by simp) hs (fun h => absurd (by decide) h) (fun _ l3 m3 hr3 _ => ?_)
  rw [e2] at hr3 ⊢
  refine in_wp hr3 (by simp) hs (fun h => absurd (by decide) h) (fun _ l4 m4 hr4 _ => ?_)
  refine cond_t rfl (cond_t rfl (cond_t rfl (cond_t (by decide) (cond_t (by decide) (cond_t (by decide) (cond_t (by decide) ?_))))))
  unfold nat_Nat_Box_wp
  exact box_wp (by omega) hK

/-! ### One who sends to one -/

theorem choose_nil {lo hi w : Int} (h : lo ≤ hi) : ∃ p, chooseP lo hi w [] = some p := by
  unfold chooseP
  split
  · exact ⟨_, rfl⟩
  · obtain ⟨k, hk⟩ : ∃ k, (hi - lo + 1).toNat = k + 1 := ⟨(hi - lo).toNat, by omega⟩
    rw [hk, ffree, if_neg (by simp [used])]
    exact ⟨_, rfl⟩

theorem inIs_self (ih ip : Int) (x : Int × Int × Int × Int × Bool × List (Int × Int)) : inIs ih ip (ih, ip, x) = true := by simp [inIs]

theorem natOut_nil {h lo hi mp li mo t ih ip th tp p : Int} (hp : chooseP lo hi ip [] = some p) (hm : 0 < mo) : natOut h lo hi mp li mo [] t ih ip th tp = ((h, p, 0), [touch t li th tp (ih, ip, keyH mp th, keyP mp tp, p, 0, false, [])]) := by
  unfold natOut outI
  simp only [List.findIdx?_nil]
  rw [hp]
  simp only []
  rw [if_pos (by simpa using hm)]
  rfl

theorem natOut_one {h lo hi mp li mo t ih ip th tp p u : Int} {s : List (Int × Int)} : natOut h lo hi mp li mo [(ih, ip, keyH mp th, keyP mp tp, p, u, false, s)] t ih ip th tp = ((h, p, 0), [touch t li th tp (ih, ip, keyH mp th, keyP mp tp, p, u, false, s)]) := by
  have e : outI ih ip (keyH mp th) (keyP mp tp) [(ih, ip, keyH mp th, keyP mp tp, p, u, false, s)] = some 0 := by
    unfold outI
    simp [List.findIdx?_cons, isAsked, isTo, inIs]
  unfold natOut
  rw [e]
  rfl

theorem seeS_same (th tp : Int) : seeS th tp [(th, tp)] = [(th, tp)] ∧ seeS th tp [] = [(th, tp)] := by
  constructor <;> simp [seeS]

theorem touch_one {t li th tp ih ip kh kp p u : Int} (h : t + li ≤ 1099511627776) : touch t li th tp (ih, ip, kh, kp, p, u, false, [(th, tp)]) = (ih, ip, kh, kp, p, t + li, false, [(th, tp)]) ∧ touch t li th tp (ih, ip, kh, kp, p, u, false, []) = (ih, ip, kh, kp, p, t + li, false, [(th, tp)]) := by
  have e : (if (1099511627776 : Int) < t + li then 1099511627776 else t + li) = t + li := by split <;> omega
  unfold touch
  simp [e, (seeS_same th tp).1, (seeS_same th tp).2]

theorem live_one {t : Int} {x : BX} : (t < x.2.2.2.2.2.1 → live t [x] = [x]) ∧ (x.2.2.2.2.2.1 ≤ t → live t [x] = []) := by
  unfold live overB
  constructor
  · intro h
    have : decide (x.2.2.2.2.2.1 ≤ t) = false := by simp; omega
    simp [this]
  · intro h
    simp [h]

theorem natIn_one {fi port ih ip kh kp u th tp : Int} (hfi : fi = 0 ∨ fi = 1 ∨ fi = 2) : natIn fi [(ih, ip, kh, kp, port, u, false, [(th, tp)])] port th tp = (ih, ip, 0) := by
  have e : ([((ih, ip, kh, kp, port, u, false, [(th, tp)]) : BX)]).findIdx? (portIs port) = some 0 := by simp [List.findIdx?_cons, portIs]
  unfold natIn
  rw [e]
  have : letsB fi (ih, ip, kh, kp, port, u, false, [(th, tp)]) th tp = true := by
    unfold letsB
    rcases hfi with rfl | rfl | rfl <;> simp
  simp only [List.getElem?_cons_zero, this, if_true]

theorem natIn_nil (fi port fh fp : Int) : natIn fi [] port fh fp = (0, 0, 8) := by simp [natIn]

theorem natLasts_plain {c : Int} {waits : List Int} {ih ip th tp : Int} (hc : inK .u8 c) (hw : ∀ x ∈ waits, inK .u8 x) (hl : waits.length ≤ 9223372036854775807) (h1 : inK .u32 ih) (h2 : inK .i64 ip) (h3 : inK .u32 th) (h4 : inK .i64 tp) :
    embrasurelaw08_NatLasts_wp c waits ih ip th tp (· = true) := by
  have hc := u8b hc
  unfold embrasurelaw08_NatLasts_wp
  refine awake_wp (cond_f rfl (box_wp hc (newNat_wp (fun h => absurd (by unfold mayB; omega) h) (fun _ => ?_))))
  have hmp : 0 ≤ c % 3 ∧ c % 3 ≤ 2 := by omega
  have hfi : c / 3 % 3 = 0 ∨ c / 3 % 3 = 1 ∨ c / 3 % 3 = 2 := by omega
  generalize c % 3 = mp at hmp ⊢
  generalize c / 3 % 3 = fi at hfi ⊢
  refine ⟨fun t => (t = true ↔ waits.length > 40), fun t ht => ?_, cond_f rfl (by simp; omega)⟩
  refine cond_b (fun e => ?_) (fun e => ?_)
  · have := ht.1 e; simp only [decide_eq_true_eq]; omega
  have hlen : waits.length ≤ 40 := Classical.byContradiction fun hcc => by rw [ht.2 (by omega)] at e; cases e
  refine out_wp (Rep.nil _) (by simp) (by omega) (by omega) (by omega) (by omega) (fun x hx => by simp at hx) (fun _ => cond_t rfl rfl) (fun hm l1 m1 hr1 _ => ?_)
  obtain ⟨p, hp⟩ := choose_nil (lo := 40000) (hi := 40009) (w := ip) (by omega)
  have e0 : live 0 ([] : List BX) = [] := rfl
  rw [e0, natOut_nil hp (by omega), (touch_one (by omega)).2] at hr1
  rw [e0, natOut_nil hp (by omega)]
  refine cond_f rfl ⟨fun n l now t last i m => now = t ∧ 0 ≤ last ∧ last ≤ t ∧ 0 ≤ i ∧ i ≤ waits.length ∧ t ≤ 40 * i ∧ n = waits.length - i.toNat ∧ Rep m l [(ih, ip, keyH mp th, keyP mp tp, p, last + 30, false, [(th, tp)])] ∧ t < last + 30,
    ⟨_, rfl, by omega, by omega, by omega, by omega, by omega, rfl, hr1, by omega⟩, ?_⟩
  rintro n l now t last i m ⟨rfl, l0, l1', i0, i1, ti, rfl, hr, halive⟩
  refine cond_d (fun hlt => ⟨i0, hlt, fun w hw' => ?_⟩) (fun _ => rfl)
  have hwb := u8b (hw w (List.mem_of_getElem? hw'))
  rw [wrap_i64 (x := w) (by omega) (by omega), tmod_pos hwb.1]
  have hw40 : 0 ≤ w % 40 ∧ w % 40 ≤ 39 := by omega
  generalize w % 40 = v at hw40
  rw [wrap_i64 (x := now + v) (by omega) (by omega), wrap_i64 (x := last + 30) (by omega) (by omega), wrap_i64 (x := i + 1) (by omega) (by omega)]
  have hs : okS [((ih, ip, keyH mp th, keyP mp tp, p, last + 30, false, [(th, tp)]) : BX)] := okS_one (by simp)
  refine in_wp hr (by simp) hs (fun h => absurd ⟨hm.2.1, by omega, by omega⟩ h) (fun _ l2 m2 hr2 _ => ?_)
  by_cases ha : now + v < last + 30
  · rw [live_one.1 ha] at hr2 ⊢
    rw [natIn_one hfi]
    refine cond_f (by simp [ha]) ⟨fun t => (t = true ∨ t = false), fun t _ => cond_b (fun _ => ?_) (fun _ => ?_), cond_b (fun _ => .inl rfl) (fun _ => .inr rfl)⟩
    · refine out_wp hr2 (by simp) (by omega) (by omega) (by omega) (by omega) hs (fun h => absurd ⟨hm.1, hm.2.1, by omega, by omega⟩ h) (fun _ l3 m3 hr3 _ => ?_)
      rw [live_one.1 ha, natOut_one, (touch_one (by omega)).1] at hr3
      rw [live_one.1 ha, natOut_one]
      refine joinP1.i (cond_f rfl (cond_f (by simp) ⟨waits.length - (i + 1).toNat, by omega, rfl, by omega, by omega, by omega, by omega, by omega, rfl, hr3, by omega⟩))
    · exact ⟨waits.length - (i + 1).toNat, by omega, rfl, by omega, by omega, by omega, by omega, by omega, rfl, hr2, ha⟩
  · rw [live_one.2 (by show last + 30 ≤ now + v; omega)] at hr2 ⊢
    rw [natIn_nil]
    refine cond_f (by simp [ha]) ⟨fun t => t = true, fun t ht => ?_, cond_b (fun _ => rfl) (fun _ => rfl)⟩
    subst ht
    refine cond_t rfl (out_wp hr2 (by simp) (by omega) (by omega) (by omega) (by omega) (fun x hx => by simp at hx) (fun h => absurd ⟨hm.1, hm.2.1, by omega, by omega⟩ h) (fun _ l3 m3 hr3 _ => ?_))
    have e1 : live (now + v) ([] : List BX) = [] := rfl
    rw [e1, natOut_nil hp (by omega), (touch_one (by omega)).2] at hr3
    rw [e1, natOut_nil hp (by omega)]
    refine joinP1.i (cond_f rfl (cond_f (by simp) ⟨waits.length - (i + 1).toNat, by omega, rfl, by omega, by omega, by omega, by omega, by omega, rfl, hr3, by omega⟩))

end Go.Proofs.Ythhbnjcebmhilaa
