/- The plain side of the statement on the client that asks a gateway: MapperOver. -/
import Derived.Test.YtighenkbdiahpaaP
namespace Go.Proofs.Ytighenkbdiahpaa
open Go Go.Eng
set_option maxRecDepth 20000

abbrev Hx := Option Addr × Nat × Nat
abbrev Pool := List (Hx × List Int)

/-- A client that may be. -/
def okC (host inside secs : Int) : Prop := host ≠ 0 ∧ 1 ≤ inside ∧ inside ≤ 65535 ∧ 1 ≤ secs ∧ secs ≤ 4294967295
instance (host inside secs : Int) : Decidable (okC host inside secs) := by unfold okC; infer_instance

theorem new_wp {host inside secs nonce : Int} {K : Int → Prop} {KX : Int → Int → Int → Int → Int → Int → Int → Int → Int → Int → Int → Int → Int → Int → Int → Int → Int → Int → Bool → Prop}
    (h1 : ¬ okC host inside secs → K 1) (h0 : okC host inside secs → KX 0 0 0 inside 0 0 0 0 0 host secs nonce 0 0 0 0 0 0 false) : mapper_New_wp host inside secs nonce K KX := by
  unfold mapper_New_wp
  refine ⟨fun t => (t = true ↔ ¬ okC host inside secs), fun t ht => ?_, ?_⟩
  · by_cases hq : okC host inside secs
    · exact cond_f (by cases t with | false => rfl | true => exact absurd hq (ht.1 rfl)) (h0 hq)
    · exact cond_t (ht.2 hq) (h1 hq)
  · unfold okC
    refine cond_e (fun a => ?_) (fun a => cond_d (fun b => ?_) (fun b => cond_d (fun c => ?_) (fun c => cond_d (fun d => ?_) (fun d => ?_))))
    all_goals simp only [decide_eq_true_eq, true_iff]
    all_goals omega

theorem rmayc_wp {host inside secs : Int} {K : Bool → Prop} (hK : K (decide (okC host inside secs))) : embrasureref12_May_wp host inside secs K := by
  unfold embrasureref12_May_wp
  refine cond_n (fun a => cond_d (fun b => cond_d (fun c => cond_d (fun d => ?_) (fun d => ?_)) (fun c => ?_)) (fun b => ?_)) (fun a => ?_)
  all_goals refine dec_key hK _ ?_
  all_goals unfold okC
  all_goals simp only [decide_eq_true_eq, Bool.false_eq_true]
  all_goals constructor <;> intro hh <;> first | omega | exact hh.elim

theorem wait0 {K : Int → Int → Prop} (hK : K 1 0) : back_Wait_wp 1 64 0 K := by
  unfold back_Wait_wp back_may_wp
  refine ⟨fun t => t = false, fun t ht => cond_f ht ?_, cond_t (by decide) (cond_t (by decide) (cond_f (by decide) (by decide)))⟩
  refine ⟨fun n k w => n = 0 ∧ k = 0 ∧ w = 1, ⟨0, rfl, rfl, rfl⟩, ?_⟩
  rintro n k w ⟨rfl, rfl, rfl⟩
  exact ⟨fun t => t = false, fun t ht => cond_f ht hK, cond_t (by decide) (by decide)⟩

theorem wait1 {K : Int → Int → Prop} (hK : K 2 0) : back_Wait_wp 1 64 1 K := by
  unfold back_Wait_wp back_may_wp
  refine ⟨fun t => t = false, fun t ht => cond_f ht ?_, cond_t (by decide) (cond_t (by decide) (cond_f (by decide) (by decide)))⟩
  refine ⟨fun n k w => (n = 1 ∧ k = 1 ∧ w = 1) ∨ (n = 0 ∧ k = 0 ∧ w = 2), ⟨1, .inl ⟨rfl, rfl, rfl⟩⟩, ?_⟩
  rintro n k w (⟨rfl, rfl, rfl⟩ | ⟨rfl, rfl, rfl⟩)
  · exact ⟨fun t => t = true, fun t ht => cond_t ht ⟨0, by decide, .inr ⟨rfl, by decide, by decide⟩⟩, cond_t (by decide) (by decide)⟩
  · exact ⟨fun t => t = false, fun t ht => cond_f ht hK, cond_t (by decide) (by decide)⟩

section
variable {s s1 s2 s3 s4 s5 s6 s7 host secs nonce w w1 out now ep epA n1 : Int} {he : Bool} {m : Pool}

theorem on_wp {K : Bool → Int → Prop} (h0 : now ≤ n1) (h1 : n1 ≤ 1099511627776) (hK : K true n1) : mapper_Mapper_on_wp s s1 s2 s3 s4 s5 s6 s7 host secs nonce w w1 out now ep epA he n1 K := by
  unfold mapper_Mapper_on_wp
  refine ⟨fun t => t = false, fun t ht => cond_f ht hK, cond_d (fun h => absurd h (by omega)) (fun _ => ?_)⟩
  show decide _ = false
  simp only [decide_eq_false_iff_not]; omega

theorem request2 {sx : Int} {K : List Hx → Pool → Prop} (w0 : 0 ≤ w) (w9 : w ≤ 4294967295) (h0 : 0 ≤ host) (h9 : host ≤ 4294967295)
    (hK : ∀ (hd : Hx) (m' : Pool), hd.2.1 = (paskF 2 s2 w1 sx nonce 0 0 w host).length → K [hd] m') : mapper_Mapper_request_wp s 2 s2 s3 s4 s5 s6 s7 host secs nonce w w1 out now ep epA he sx m K := by
  unfold mapper_Mapper_request_wp
  exact cond_t rfl (pask_wp w0 w9 h0 h9 (fun hd hh => hK hd _ hh))

theorem ask0 {K : List Hx → Int → Int → Pool → Prop} (w0 : 0 ≤ w) (w9 : w ≤ 4294967295) (h0 : 0 ≤ host) (h9 : host ≤ 4294967295) (n0 : 0 ≤ now) (n9 : now ≤ 1099511627776)
    (hK : ∀ (hd : Hx) (m' : Pool), hd.2.1 = (paskF 2 s2 w1 secs nonce 0 0 w host).length → K [hd] 1 (now + 1) m') : mapper_Mapper_ask_wp s 2 s2 s3 s4 s5 0 s7 host secs nonce w w1 out now ep epA he m K := by
  unfold mapper_Mapper_ask_wp
  refine wait0 (request2 w0 w9 h0 h9 (fun hd m' hh => ?_))
  have := hK hd m' hh
  rw [show IntKind.wrap .i64 (0 + 1) = 1 by decide, wrap_i64 (x := now + 1) (by omega) (by omega)]
  exact this

theorem ask1 {K : List Hx → Int → Int → Pool → Prop} (w0 : 0 ≤ w) (w9 : w ≤ 4294967295) (h0 : 0 ≤ host) (h9 : host ≤ 4294967295) (n0 : 0 ≤ now) (n9 : now ≤ 1099511627776)
    (hK : ∀ (hd : Hx) (m' : Pool), hd.2.1 = (paskF 2 s2 w1 secs nonce 0 0 w host).length → K [hd] 2 (now + 2) m') : mapper_Mapper_ask_wp s 2 s2 s3 s4 s5 1 s7 host secs nonce w w1 out now ep epA he m K := by
  unfold mapper_Mapper_ask_wp
  refine wait1 (request2 w0 w9 h0 h9 (fun hd m' hh => ?_))
  have := hK hd m' hh
  rw [show IntKind.wrap .i64 (1 + 1) = 2 by decide, wrap_i64 (x := now + 2) (by omega) (by omega)]
  exact this

theorem start_wp {K : List Hx → Int → Int → Int → Int → Int → Int → Int → Int → Bool → Pool → Prop} (w0 : 0 ≤ w) (w9 : w ≤ 4294967295) (h0 : 0 ≤ host) (h9 : host ≤ 4294967295)
    (hK : ∀ (hd : Hx) (m' : Pool), hd.2.1 = (paskF 2 s2 w1 secs nonce 0 0 w host).length → K [hd] 1 2 0 0 0 1 1 0 false m') : mapper_Mapper_Start_wp 0 s1 s2 s3 s4 s5 s6 s7 host secs nonce w w1 out 0 ep epA he 0 m K := by
  unfold mapper_Mapper_Start_wp
  refine ⟨fun n t => n = 0 ∧ t = false, fun n t h => ?_, cond_f (by decide) (on_wp (by omega) (by omega) ⟨rfl, rfl⟩)⟩
  obtain ⟨rfl, rfl⟩ := h
  unfold mapper_Mapper_probe_wp
  exact cond_f rfl (ask0 w0 w9 h0 h9 (by omega) (by omega) (fun hd m' hh => hK hd m' hh))

/-- An answer with another number is nothing. -/
theorem pcp_other {i p t n : Int} {K : List Hx → Int → Int → Int → Int → Int → Int → Int → Int → Int → Int → Int → Bool → Pool → Prop} (n0 : 0 ≤ n) (n9 : n ≤ 18446744073709551615) (hf : fitP 2 i p t 0 0) (hne : n ≠ nonce)
    (hK : K [] s s1 s3 s4 s5 s6 s7 w w1 ep epA he m) : mapper_Mapper_pcp_wp s s1 s2 s3 s4 s5 s6 s7 host secs nonce w w1 out now ep epA he (pansF 2 i p t n 0 0 9) m K := by
  unfold mapper_Mapper_pcp_wp
  obtain ⟨e0, e1, e2, e3, e4, e5, e6, e7⟩ := pans_read (h := 9) n0 n9 (by decide) (by decide) hf
  refine preadAns_wp pansF_bytes (fun _ => ?_) (fun h => absurd e0 h)
  rw [e1, e2, e3, e4, e5, e6, e7]
  refine cond_f rfl (cond_f rfl ⟨fun t => t = true, fun t ht => cond_t ht hK, ?_⟩)
  refine cond_n (fun _ => rfl) (fun _ => cond_n (fun _ => rfl) (fun _ => ?_))
  show (n != nonce) = true
  simpa using hne

/-- A grant is held. -/
theorem pcp_take {p t : Int} {K : List Hx → Int → Int → Int → Int → Int → Int → Int → Int → Int → Int → Int → Bool → Pool → Prop} (n0 : 0 ≤ nonce) (n9 : nonce ≤ 18446744073709551615) (hf : fitP 2 s2 p t 0 0) (hp : 0 < p) (ht : 2 ≤ t)
    (hK : K [] 2 2 9 p t 0 (t / 2) 9 p 0 0 true m) : mapper_Mapper_pcp_wp 1 2 s2 s3 s4 s5 s6 s7 host secs nonce w w1 out 0 ep epA false (pansF 2 s2 p t nonce 0 0 9) m K := by
  unfold mapper_Mapper_pcp_wp
  obtain ⟨e0, e1, e2, e3, e4, e5, e6, e7⟩ := pans_read (h := 9) n0 n9 (by decide) (by decide) hf
  have hf' := hf
  unfold fitP at hf'
  refine preadAns_wp pansF_bytes (fun _ => ?_) (fun h => absurd e0 h)
  rw [e1, e2, e3, e4, e5, e6, e7]
  refine cond_f rfl (cond_f rfl ⟨fun q => q = false, fun q hq => cond_f hq ?_, ?_⟩)
  · unfold mapper_Mapper_take_wp
    refine ⟨fun a b c => a = 0 ∧ b = 0 ∧ c = true, fun a b c h => ?_, ?_⟩
    · obtain ⟨rfl, rfl, rfl⟩ := h
      refine ⟨fun q => q = true, fun q hq => ?_, cond_t rfl rfl⟩
      subst hq
      refine ⟨fun q => q = true, fun q hq => cond_t hq ?_, cond_t rfl (cond_t rfl (cond_t (by simp; omega) (cond_t (by simp; omega) (by decide))))⟩
      unfold mapper_Mapper_granted_wp
      have q1 : Int.tdiv t 2 = t / 2 := Int.tdiv_eq_ediv_of_nonneg (by omega)
      rw [q1, wrap_i64 (x := t / 2) (by omega) (by omega), wrap_i64 (x := 0 + t) (by omega) (by omega), if_neg (by omega)]
      have q2 : (if t / 2 > 1 then t / 2 else 1) = t / 2 := by split <;> omega
      rw [q2, wrap_i64 (x := 0 + t / 2) (by omega) (by omega), Int.zero_add, Int.zero_add]
      exact hK
    · refine ⟨fun a b c d => a = 0 ∧ b = 0 ∧ c = true ∧ d = false, fun a b c d h => ?_, ?_⟩
      · obtain ⟨rfl, rfl, rfl, rfl⟩ := h
        exact cond_f rfl ⟨rfl, rfl, rfl⟩
      · unfold mapper_Mapper_anew_wp
        exact ⟨fun q => q = false, fun q hq => cond_f hq ⟨rfl, rfl, rfl, rfl⟩, cond_f rfl rfl⟩
  · refine cond_f (by decide) (cond_n (fun h => absurd rfl h) (fun _ => ?_))
    show (nonce != nonce) = false
    simp

theorem hear_wp {b : List Int} {K : List Hx → Int → Int → Int → Int → Int → Int → Int → Int → Int → Int → Int → Int → Int → Bool → Pool → Prop} (hb : isBytes b) (hv : b[0]? = some 2)
    (hK : mapper_Mapper_pcp_wp 1 s1 s2 s3 s4 s5 s6 s7 host secs nonce w w1 out 0 ep epA he b m (fun rs a1 a2 a3 a4 a5 a6 a7 b1 b2 c1 c2 d m' => K rs a1 a2 a3 a4 a5 a6 a7 b1 b2 out 0 c1 c2 d m')) : mapper_Mapper_Hear_wp 1 s1 s2 s3 s4 s5 s6 s7 host secs nonce w w1 out 0 ep epA he 0 b m K := by
  unfold mapper_Mapper_Hear_wp
  refine ⟨fun n t => n = 0 ∧ t = false, fun n t h => ?_, cond_f (by decide) (cond_f (by decide) (on_wp (by omega) (by omega) ⟨rfl, rfl⟩))⟩
  obtain ⟨rfl, rfl⟩ := h
  refine cond_f rfl (ver_wp hb (fun x hx => ?_) (fun h => by rw [h] at hv; simp at hv))
  obtain rfl : 2 = x := Option.some.inj (hv.symm.trans hx)
  exact cond_t rfl hK

end

theorem awake_wp {K : Bool → Prop} (hK : K true) : embrasurelaw12_awake_wp K := by
  unfold embrasurelaw12_awake_wp
  refine new_wp (fun h => absurd (by decide) h) (fun _ => ?_)
  refine new_wp (fun _ => ?_) (fun h => absurd h (by decide))
  refine ⟨fun t => t = false, fun t ht => cond_f ht ?_, by decide⟩
  have hl : (paskF 2 80 0 60 9 0 0 0 5).length = 60 := by
    unfold paskF
    rw [if_pos (by unfold paskP fitP; decide)]
    simp [bigF_len, hostF_len, tailF_len]
  refine start_wp (by decide) (by decide) (by decide) (by decide) (fun hd m1 hh => ?_)
  unfold mapper_Mapper_Tick_wp mapper_Mapper_lost_wp
  refine on_wp (by decide) (by decide) (cond_f rfl (cond_f rfl (cond_f rfl (cond_f rfl (cond_t rfl ⟨fun t => t = false, fun t ht => cond_f ht ?_, by decide⟩)))))
  unfold mapper_Mapper_probing_wp
  refine cond_f (by decide) (ask1 (by decide) (by decide) (by decide) (by decide) (by decide) (by decide) (fun hd2 m2 hh2 => ?_))
  refine cond_t rfl (cond_t rfl ⟨by decide, by simp, fun x hx => ?_⟩)
  obtain rfl : hd = x := by simpa using hx
  rw [hh, hl]
  refine cond_t rfl (cond_t rfl ?_)
  refine on_wp (by decide) (by decide) (cond_f rfl (cond_f rfl (cond_f rfl (cond_f rfl (cond_t rfl ⟨fun t => t = true, fun t ht => cond_t ht (cond_t rfl ?_), by decide⟩)))))
  exact hK

theorem mapperOver_plain {host inside secs0 nonce secs port : Int} (hh : inK .u32 host) (hi : inK .i64 inside) (hs0 : inK .i64 secs0) (hno : inK .u64 nonce) (hs : inK .u16 secs) (hp : inK .u16 port) : embrasurelaw12_MapperOver_wp host inside secs0 nonce secs port (· = true) := by
  have hh : 0 ≤ host ∧ host ≤ 4294967295 := by simp [inK, IntKind.min, IntKind.max, IntKind.signed, IntKind.bits] at hh; omega
  have hno : 0 ≤ nonce ∧ nonce ≤ 18446744073709551615 := by simp [inK, IntKind.min, IntKind.max, IntKind.signed, IntKind.bits] at hno; omega
  have hs : 0 ≤ secs ∧ secs ≤ 65535 := by simp [inK, IntKind.min, IntKind.max, IntKind.signed, IntKind.bits] at hs; omega
  have hp : 0 ≤ port ∧ port ≤ 65535 := by simp [inK, IntKind.min, IntKind.max, IntKind.signed, IntKind.bits] at hp; omega
  unfold embrasurelaw12_MapperOver_wp
  rw [wrap_i64 (x := port) (by omega) (by omega), wrap_i64 (x := secs) (by omega) (by omega), wrap_i64 (x := 2 + secs) (by omega) (by omega)]
  have hS : 2 ≤ 2 + secs ∧ 2 + secs ≤ 65537 := by omega
  generalize 2 + secs = S at hS ⊢
  rw [wrap_i64 (x := S - 1) (by omega) (by omega)]
  have hN : 0 ≤ IntKind.wrap .u64 (nonce + 1) ∧ IntKind.wrap .u64 (nonce + 1) ≤ 18446744073709551615 ∧ IntKind.wrap .u64 (nonce + 1) ≠ nonce := by
    by_cases hx : nonce + 1 ≤ 18446744073709551615
    · rw [wrap_u64 (by omega) hx]; omega
    · have : nonce = 18446744073709551615 := by omega
      subst this
      decide
  generalize IntKind.wrap .u64 (nonce + 1) = N at hN ⊢
  obtain ⟨hN0, hN9, hNe⟩ := hN
  refine awake_wp (cond_f rfl (new_wp (fun h => rmayc_wp (cond_t (by simp [h]) rfl)) (fun h => rmayc_wp (cond_f (by simp [h]) ?_))))
  unfold okC at h
  refine ⟨fun t => t = false → port ≠ 0, fun t ht => cond_b (fun _ => rfl) (fun e => ?_), cond_f rfl (fun h => by simpa using h)⟩
  have hp0 := ht e
  refine start_wp (by decide) (by decide) hh.1 hh.2 (fun hd m1 _ => ?_)
  have hf : fitP 2 inside port S 0 0 := by unfold fitP; omega
  refine pans_wp (by decide) (by decide) (hear_wp pansF_bytes ?_ (pcp_other hN0 hN9 hf hNe ?_))
  · have := pans_read (n := N) (h := 9) hN0 hN9 (by decide) (by decide) hf
    exact (pans_head this.1).1
  unfold mapper_Mapper_State_wp
  refine cond_f rfl (pans_wp (by decide) (by decide) (hear_wp pansF_bytes ?_ (pcp_take hno.1 hno.2 hf (by omega) hS.1 ?_)))
  · have := pans_read (n := nonce) (h := 9) hno.1 hno.2 (by decide) (by decide) hf
    exact (pans_head this.1).1
  have q1 : IntKind.wrap .i64 (Int.tdiv S 2) = S / 2 := by rw [Int.tdiv_eq_ediv_of_nonneg (by omega), wrap_i64 (by omega) (by omega)]
  rw [q1]
  refine ⟨fun t => t = false, fun t ht => cond_f ht ?_, ?_⟩
  · unfold mapper_Mapper_Tick_wp mapper_Mapper_lost_wp
    refine on_wp (by omega) (by omega) (cond_f rfl (cond_t rfl (cond_f (by simp only [decide_eq_false_iff_not]; omega) (cond_f rfl (cond_t rfl ⟨fun t => t = false, fun t ht => cond_f ht ?_, ?_⟩)))))
    · unfold mapper_Mapper_holding_wp
      refine ask0 (by decide) (by decide) hh.1 hh.2 (by omega) (by omega) (fun hd2 m2 _ => ?_)
      refine on_wp (by omega) (by omega) (cond_f rfl (cond_f rfl (cond_t rfl (cond_t (by simp) ?_))))
      unfold mapper_Mapper_probe_wp
      refine ask0 (by decide) (by decide) hh.1 hh.2 (by omega) (by omega) (fun hd3 m3 _ => ?_)
      exact cond_t (by simp) (cond_t rfl (cond_t rfl rfl))
    · show decide _ = false
      simp only [decide_eq_false_iff_not]; omega
  · refine cond_f rfl (cond_n (fun h => absurd rfl h) (fun _ => cond_f (by simp) ?_))
    show (_ != _) = false
    simp

end Go.Proofs.Ytighenkbdiahpaa
