/- Each function over plain data (printed by a program of this claim's author). -/
import Derived.Test.YtnmdnkmemjfoeaaL3
namespace Go.Proofs.Ytnmdnkmemjfoeaa
open Go Go.Eng Go.Proofs
set_option maxRecDepth 100000
set_option maxHeartbeats 2000000
def nN_lets_c1_wp (a_Host a_Port Host Port : Int) (K : Bool → Prop) : Prop :=
  K (a_Host == Host)
theorem nN_lets_c1_ok {b_1 : Nat} {a_Host a_Port Host Port : Int} {FL : List HP} {w : World} {K : Bool → Prop} {R : Value → World → Prop}
  (h : Mem (cel b_1 25 [Value.int .u32 Host, Value.int .i64 Port] :: FL) w) (hp : nN_lets_c1_wp a_Host a_Port Host Port K)
  (hR : ∀ (r : Bool) (w : World), Mem (cel b_1 25 [Value.int .u32 Host, Value.int .i64 Port] :: FL) w → K r → R (Value.bool r) w) :
  CallV Try.prog 69 #[(Value.agg #[Value.int .u32 a_Host, Value.int .i64 a_Port]), Value.pointer (some (Addr.mk b_1 0 none))] w R := by
  refine nN_lets_c1_call ?_
  unfold nN_lets_c1
  unfold nN_lets_c1_wp at hp
  refine newL (o := [Value.int .u32 a_Host, Value.int .i64 a_Port]) h ?_
  intro b_2 w h
  refine ⟨_, cellL h 0 0 rfl rfl rfl, ?_⟩
  refine ⟨_, cellL h 1 0 rfl rfl rfl, ?_⟩
  replace h := h.sel [1] 1
  dsimp only [pickL, pickR, nthH, delH, dropH, List.cons_append, List.nil_append] at h
  exact hR (a_Host == Host) _ h hp
def sIdxA_wp {σ1 : Type} (s : List (Int × Int)) (s_1 : σ1) (Y1 : (Int × Int) → σ1 → (Bool → σ1 → Prop) → Prop) (K : Int → σ1 → Prop) : Prop :=
  ∃ (I : Nat → Int → σ1 → Prop), (∃ (n_4 : Nat), I n_4 0 s_1) ∧ ∀ (n_2 : Nat) (t8 : Int) (s_3 : σ1), I n_2 t8 s_3 → (cond (decide (t8 < ((s.length : Nat) : Int))) (0 ≤ t8 ∧ (t8 : Int) < ((s.length : Nat) : Int) ∧ (∀ (x_1 : Int × Int), s[Int.toNat t8]? = some x_1 → (Y1 x_1 s_3 (fun (t16 : Bool) (s_4 : σ1) => cond t16 (K t8 s_4) (∃ (n_3 : Nat), n_3 < n_2 ∧ I n_3 (IntKind.wrap .i64 (t8 + 1)) s_4))))) (K (-1) s_3))
theorem sIdxA_ok {σ1 : Type} {A1 : σ1 → HP} {p_1 : Option Addr} {n_1 c_1 : Nat} {ff1 : Fn} {fa1 fc1 : Array Value} {s : List (Int × Int)} {s_1 : σ1} {Y1 : (Int × Int) → σ1 → (Bool → σ1 → Prop) → Prop} {FL : List HP} {w : World} {K : Int → σ1 → Prop} {R : Value → World → Prop}
  (hY1 : ∀ (x0 : Int × Int) (s : σ1) (K : Bool → σ1 → Prop) (FL2 : List HP) (w : World) (R : Value → World → Prop), (∀ w, Mem FL2 w → Mem FL w) → Mem (A1 s :: FL2) w → Y1 x0 s K → (∀ (r : Bool) (s : σ1) (w : World), Mem (A1 s :: FL2) w → K r s → R (Value.bool r) w) → CalleeV Try.prog (Value.func ff1 fa1 fc1) #[(Value.agg #[Value.int .u32 x0.1, Value.int .i64 x0.2])] w R)
  (hF_s : ∀ w, Mem FL w → Rd w 2 p_1 enc25 s) (hl_s : n_1 = s.length) (hc_s : n_1 ≤ c_1)
  (h : Mem (A1 s_1 :: FL) w) (hp : sIdxA_wp s s_1 Y1 K)
  (hR : ∀ (r : Int) (s_2 : σ1) (w : World), Mem (A1 s_2 :: FL) w → K r s_2 → R (Value.int .i64 r) w) :
  CallV Try.prog 86 #[Value.slice p_1 n_1 c_1, Value.func ff1 fa1 fc1] w R := by
  refine sIdxA_call ?_
  unfold sIdxA
  unfold sIdxA_wp at hp
  subst hl_s
  obtain ⟨I, ⟨n_4, h0⟩, hq⟩ := hp
  refine ⟨fun n_2 s0p s0l s0c f1 t7 t8 w => ∃ (s_3 : σ1), p_1 = s0p ∧ s.length = s0l ∧ c_1 = s0c ∧ (Value.func ff1 fa1 fc1) = f1 ∧ ((s.length : Nat) : Int) = t7 ∧ I n_2 t8 s_3 ∧ Mem (A1 s_3 :: FL) w, ⟨n_4, s_1, rfl, rfl, rfl, rfl, rfl, h0, h⟩, ?_⟩
  clear h0 h
  rintro n_2 s0p s0l s0c f1 t7 t8 w ⟨s_3, rfl, rfl, rfl, rfl, rfl, hp, h⟩
  replace hp := hq n_2 t8 s_3 hp
  clear hq
  unfold sIdxA_l1
  refine cond_both' hp (fun hp => ?_) (fun hp => ?_)
  · exact hR (-1) s_3 _ h hp
  obtain ⟨ia_1, ja_1, hp⟩ := hp
  obtain ⟨a_1, ha_1⟩ := rdAddr (hF_s _ (h.drop 1)) rfl ia_1 ja_1
  refine ⟨a_1, ha_1, ia_1, ja_1, ?_⟩
  obtain ⟨x_1, hx_1, hc⟩ := rdCell (hF_s _ (h.drop 1)) ha_1 rfl ia_1 ja_1
  replace hp := hp x_1 hx_1
  refine ⟨_, hc 0 _ rfl, _, hc 1 _ rfl, ?_⟩
  refine hY1 x_1 _ _ (FL) _ _ (fun _ h => Mem.drop 0 h) h hp ?_
  intro t16 s_4 w h hp
  refine ⟨_, rfl, ?_⟩
  refine cond_both hp (fun hp => ?_) (fun hp => ?_)
  · exact hR t8 s_4 _ h hp
  obtain ⟨n_3, hn, hp⟩ := hp
  exact ⟨n_3, hn, s_4, rfl, rfl, rfl, rfl, rfl, hp, h⟩
def sConFA_wp {σ1 : Type} (s : List (Int × Int)) (s_1 : σ1) (Y1 : (Int × Int) → σ1 → (Bool → σ1 → Prop) → Prop) (K : Bool → σ1 → Prop) : Prop :=
  sIdxA_wp s s_1 Y1 (fun (r : Int) (s_3 : σ1) => K (decide (r ≥ 0)) s_3)
theorem sConFA_ok {σ1 : Type} {A1 : σ1 → HP} {p_1 : Option Addr} {n_1 c_1 : Nat} {ff1 : Fn} {fa1 fc1 : Array Value} {s : List (Int × Int)} {s_1 : σ1} {Y1 : (Int × Int) → σ1 → (Bool → σ1 → Prop) → Prop} {FL : List HP} {w : World} {K : Bool → σ1 → Prop} {R : Value → World → Prop}
  (hY1 : ∀ (x0 : Int × Int) (s : σ1) (K : Bool → σ1 → Prop) (FL2 : List HP) (w : World) (R : Value → World → Prop), (∀ w, Mem FL2 w → Mem FL w) → Mem (A1 s :: FL2) w → Y1 x0 s K → (∀ (r : Bool) (s : σ1) (w : World), Mem (A1 s :: FL2) w → K r s → R (Value.bool r) w) → CalleeV Try.prog (Value.func ff1 fa1 fc1) #[(Value.agg #[Value.int .u32 x0.1, Value.int .i64 x0.2])] w R)
  (hF_s : ∀ w, Mem FL w → Rd w 2 p_1 enc25 s) (hl_s : n_1 = s.length) (hc_s : n_1 ≤ c_1)
  (h : Mem (A1 s_1 :: FL) w) (hp : sConFA_wp s s_1 Y1 K)
  (hR : ∀ (r : Bool) (s_2 : σ1) (w : World), Mem (A1 s_2 :: FL) w → K r s_2 → R (Value.bool r) w) :
  CallV Try.prog 68 #[Value.slice p_1 n_1 c_1, Value.func ff1 fa1 fc1] w R := by
  refine sConFA_call ?_
  unfold sConFA
  unfold sConFA_wp at hp
  subst hl_s
  refine sIdxA_ok (FL := FL) (A1 := A1) (Y1 := Y1) (σ1 := σ1) (s_1 := s_1) (fun _ _ _ FL2 w R hx => hY1 _ _ _ FL2 w R (fun w h => (Mem.drop 0 (hx w h)))) (fun w h => (hF_s _ (h.drop 0))) rfl hc_s h hp ?_
  intro r s_3 w h hp
  refine ⟨_, rfl, ?_⟩
  exact hR (decide (r ≥ 0)) s_3 _ h hp
def sIxA_wp (s : List (Int × Int)) (v_Host v_Port : Int) (K : Int → Prop) : Prop :=
  ∃ (I : Nat → Int → Prop), (∃ (n_4 : Nat), I n_4 0) ∧ ∀ (n_2 : Nat) (t8 : Int), I n_2 t8 → (cond (decide (t8 < ((s.length : Nat) : Int))) (0 ≤ t8 ∧ (t8 : Int) < ((s.length : Nat) : Int) ∧ (∀ (x_1 : Int × Int), s[Int.toNat t8]? = some x_1 → (cond ((v_Host == x_1.1) && ((v_Port == x_1.2) && true)) (K t8) (∃ (n_3 : Nat), n_3 < n_2 ∧ I n_3 (IntKind.wrap .i64 (t8 + 1)))))) (K (-1)))
theorem sIxA_ok {p_1 : Option Addr} {n_1 c_1 : Nat} {s : List (Int × Int)} {v_Host v_Port : Int} {FL : List HP} {w : World} {K : Int → Prop} {R : Value → World → Prop}
  (hF_s : ∀ w, Mem FL w → Rd w 2 p_1 enc25 s) (hl_s : n_1 = s.length) (hc_s : n_1 ≤ c_1)
  (h : Mem (FL) w) (hp : sIxA_wp s v_Host v_Port K)
  (hR : ∀ (r : Int) (w : World), Mem (FL) w → K r → R (Value.int .i64 r) w) :
  CallV Try.prog 87 #[Value.slice p_1 n_1 c_1, (Value.agg #[Value.int .u32 v_Host, Value.int .i64 v_Port])] w R := by
  refine sIxA_call ?_
  unfold sIxA
  unfold sIxA_wp at hp
  subst hl_s
  refine newL (o := [Value.int .u32 v_Host, Value.int .i64 v_Port]) h ?_
  intro b_1 w h
  obtain ⟨I, ⟨n_4, h0⟩, hq⟩ := hp
  refine ⟨fun n_2 s0p s0l s0c v3 t7 t8 w => p_1 = s0p ∧ s.length = s0l ∧ c_1 = s0c ∧ (Addr.mk b_1 0 none) = v3 ∧ ((s.length : Nat) : Int) = t7 ∧ I n_2 t8 ∧ Mem (cel b_1 25 [Value.int .u32 v_Host, Value.int .i64 v_Port] :: FL) w, ⟨n_4, rfl, rfl, rfl, rfl, rfl, h0, h⟩, ?_⟩
  clear h0 h
  rintro n_2 s0p s0l s0c v3 t7 t8 w ⟨rfl, rfl, rfl, rfl, rfl, hp, h⟩
  replace hp := hq n_2 t8 hp
  clear hq
  unfold sIxA_l1
  refine cond_both' hp (fun hp => ?_) (fun hp => ?_)
  · replace h := h.sel [] 1
    dsimp only [pickL, pickR, nthH, delH, dropH, List.cons_append, List.nil_append] at h
    exact hR (-1) _ h hp
  replace h := h.drew
  refine ⟨_, cellL h 0 0 rfl rfl rfl, _, cellL h 0 1 rfl rfl rfl, ?_⟩
  obtain ⟨ia_1, ja_1, hp⟩ := hp
  obtain ⟨a_1, ha_1⟩ := rdAddr (hF_s _ (h.drop 1)) rfl ia_1 ja_1
  refine ⟨a_1, ha_1, ia_1, ja_1, ?_⟩
  obtain ⟨x_1, hx_1, hc⟩ := rdCell (hF_s _ (h.drop 1)) ha_1 rfl ia_1 ja_1
  replace hp := hp x_1 hx_1
  refine ⟨_, hc 0 _ rfl, _, hc 1 _ rfl, ?_⟩
  refine eqlAgg (xs := [Value.int .u32 v_Host, Value.int .i64 v_Port]) (ys := [Value.int .u32 x_1.1, Value.int .i64 x_1.2]) eqG25 eqA25 (eqT25 v_Host v_Port x_1.1 x_1.2) ?_
  refine ⟨_, rfl, ?_⟩
  refine ⟨rfl, ?_⟩
  refine cond_both' hp (fun hp => ?_) (fun hp => ?_)
  · obtain ⟨n_3, hn, hp⟩ := hp
    exact ⟨n_3, hn, rfl, rfl, rfl, rfl, rfl, hp, h⟩
  replace h := h.sel [] 1
  dsimp only [pickL, pickR, nthH, delH, dropH, List.cons_append, List.nil_append] at h
  exact hR t8 _ h hp
def sConA_wp (s : List (Int × Int)) (v_Host v_Port : Int) (K : Bool → Prop) : Prop :=
  sIxA_wp s v_Host v_Port (fun (r : Int) => K (decide (r ≥ 0)))
theorem sConA_ok {p_1 : Option Addr} {n_1 c_1 : Nat} {s : List (Int × Int)} {v_Host v_Port : Int} {FL : List HP} {w : World} {K : Bool → Prop} {R : Value → World → Prop}
  (hF_s : ∀ w, Mem FL w → Rd w 2 p_1 enc25 s) (hl_s : n_1 = s.length) (hc_s : n_1 ≤ c_1)
  (h : Mem (FL) w) (hp : sConA_wp s v_Host v_Port K)
  (hR : ∀ (r : Bool) (w : World), Mem (FL) w → K r → R (Value.bool r) w) :
  CallV Try.prog 70 #[Value.slice p_1 n_1 c_1, (Value.agg #[Value.int .u32 v_Host, Value.int .i64 v_Port])] w R := by
  refine sConA_call ?_
  unfold sConA
  unfold sConA_wp at hp
  subst hl_s
  refine newL (o := [Value.int .u32 v_Host, Value.int .i64 v_Port]) h ?_
  intro b_1 w h
  refine ⟨_, cellL h 0 0 rfl rfl rfl, _, cellL h 0 1 rfl rfl rfl, ?_⟩
  refine sIxA_ok (FL := cel b_1 25 [Value.int .u32 v_Host, Value.int .i64 v_Port] :: FL) (fun w h => (hF_s _ (h.drop 1))) rfl hc_s h hp ?_
  intro r w h hp
  refine ⟨_, rfl, ?_⟩
  replace h := h.sel [] 1
  dsimp only [pickL, pickR, nthH, delH, dropH, List.cons_append, List.nil_append] at h
  exact hR (decide (r ≥ 0)) _ h hp
def nN_lets_wp (box box_1 box_2 box_3 box_4 box_5 box_6 now : Int) (b_2 : Option Nat) (from_Host from_Port : Int) (m_1 : SBX) (K : Bool → Prop) : Prop :=
  joinP1 (fun (t7 : Bool) => cond t7 (K true) (cond (box_4 == 1) (∃ (b_5 : Nat), b_2 = some b_5 ∧ (∃ (x_2 : Int × Int × Int × Int × Int × Int × Bool × (List (Int × Int))), getS m_1 b_5 = some x_2 ∧ (sConFA_wp x_2.2.2.2.2.2.2.2 () (fun x_3 s K_1 => nN_lets_c1_wp x_3.1 x_3.2 from_Host from_Port (fun (r : Bool) => K_1 r s)) (fun (r : Bool) (s_1 : (Unit)) => K r)))) (∃ (b_6 : Nat), b_2 = some b_6 ∧ (∃ (x_4 : Int × Int × Int × Int × Int × Int × Bool × (List (Int × Int))), getS m_1 b_6 = some x_4 ∧ (sConA_wp x_4.2.2.2.2.2.2.2 from_Host from_Port (fun (r_1 : Bool) => K r_1)))))) (fun (Q : Bool → Prop) => ∃ (b_4 : Nat), b_2 = some b_4 ∧ (∃ (x_1 : Int × Int × Int × Int × Int × Int × Bool × (List (Int × Int))), getS m_1 b_4 = some x_1 ∧ (cond (x_1.2.2.2.2.2.2.1) (Q true) (Q (box_4 == 0)))))
theorem nN_lets_ok {b_1 : Nat} {p_1 : Option Addr} {n_1 c_1 : Nat} {box box_1 box_2 box_3 box_4 box_5 box_6 now : Int} {b_2 : Option Nat} {from_Host from_Port : Int} {m_1 : SBX} {FL : List HP} {w : World} {K : Bool → Prop} {R : Value → World → Prop}
  (hS85 : ∀ (b : Nat) (x : Int × Int × Int × Int × Int × Int × Bool × (List (Int × Int))), getS m_1 b = some x → roE85 FL b x)
  (h : Mem (cel b_1 71 [Value.int .u32 box, Value.int .i64 box_1, Value.int .i64 box_2, Value.int .i64 box_3, Value.int .i64 box_4, Value.int .i64 box_5, Value.int .i64 box_6, Value.slice p_1 n_1 c_1, Value.int .i64 now] :: FL) w) (hp : nN_lets_wp box box_1 box_2 box_3 box_4 box_5 box_6 now b_2 from_Host from_Port m_1 K)
  (hR : ∀ (r : Bool) (w : World), Mem (cel b_1 71 [Value.int .u32 box, Value.int .i64 box_1, Value.int .i64 box_2, Value.int .i64 box_3, Value.int .i64 box_4, Value.int .i64 box_5, Value.int .i64 box_6, Value.slice p_1 n_1 c_1, Value.int .i64 now] :: FL) w → K r → R (Value.bool r) w) :
  CallV Try.prog 51 #[Value.pointer (some (Addr.mk b_1 0 none)), Value.pointer (pn b_2), (Value.agg #[Value.int .u32 from_Host, Value.int .i64 from_Port])] w R := by
  refine nN_lets_call ?_
  unfold nN_lets
  unfold nN_lets_wp at hp
  refine newL (o := [Value.int .u32 from_Host, Value.int .i64 from_Port]) h ?_
  intro b_3 w h
  obtain ⟨Q, hq, hp⟩ := hp
  refine ⟨fun n0 b1 from5 t7 w => (some (Addr.mk b_1 0 none)) = n0 ∧ (pn b_2) = b1 ∧ (Addr.mk b_3 0 none) = from5 ∧ Q t7 ∧ Mem (cel b_3 25 [Value.int .u32 from_Host, Value.int .i64 from_Port] :: cel b_1 71 [Value.int .u32 box, Value.int .i64 box_1, Value.int .i64 box_2, Value.int .i64 box_3, Value.int .i64 box_4, Value.int .i64 box_5, Value.int .i64 box_6, Value.slice p_1 n_1 c_1, Value.int .i64 now] :: FL) w, ?_, ?_⟩
  · rintro n0 b1 from5 t7 w ⟨rfl, rfl, rfl, hp, h⟩
    replace hp := hq t7 hp
    unfold nN_lets_j1
    refine cond_both hp (fun hp => ?_) (fun hp => ?_)
    · replace h := h.sel [1] 1
      dsimp only [pickL, pickR, nthH, delH, dropH, List.cons_append, List.nil_append] at h
      exact hR true _ h hp
    refine ⟨_, rfl, ?_⟩
    refine ⟨_, cellL h 1 4 rfl rfl rfl, ?_⟩
    refine cond_both' hp (fun hp => ?_) (fun hp => ?_)
    · replace h := h.drew
      obtain ⟨b_6, hb_6, hp⟩ := hp
      refine ⟨_, pnSome hb_6, ?_⟩
      obtain ⟨x_4, hx_4, hp⟩ := hp
      obtain ⟨q_2p7, q_2c7, hc_q_2p7, q_2e0, q_2e1, q_2e2, q_2e3, q_2e4, q_2e5, q_2e6, q_2e7, hF_q_2p7, -⟩ := hS85 b_6 x_4 hx_4
      refine ⟨_, _, _, q_2e7 _ (h.drop 2), ?_⟩
      refine ⟨_, cellL h 0 0 rfl rfl rfl, _, cellL h 0 1 rfl rfl rfl, ?_⟩
      refine sConA_ok (FL := cel b_3 25 [Value.int .u32 from_Host, Value.int .i64 from_Port] :: cel b_1 71 [Value.int .u32 box, Value.int .i64 box_1, Value.int .i64 box_2, Value.int .i64 box_3, Value.int .i64 box_4, Value.int .i64 box_5, Value.int .i64 box_6, Value.slice p_1 n_1 c_1, Value.int .i64 now] :: FL) (fun w h => (hF_q_2p7 _ (h.drop 2))) rfl hc_q_2p7 h hp ?_
      intro r_1 w h hp
      refine ⟨_, rfl, ?_⟩
      replace h := h.sel [1] 1
      dsimp only [pickL, pickR, nthH, delH, dropH, List.cons_append, List.nil_append] at h
      exact hR r_1 _ h hp
    obtain ⟨b_5, hb_5, hp⟩ := hp
    refine ⟨_, pnSome hb_5, ?_⟩
    obtain ⟨x_2, hx_2, hp⟩ := hp
    obtain ⟨q_1p7, q_1c7, hc_q_1p7, q_1e0, q_1e1, q_1e2, q_1e3, q_1e4, q_1e5, q_1e6, q_1e7, hF_q_1p7, -⟩ := hS85 b_5 x_2 hx_2
    refine ⟨_, _, _, q_1e7 _ (h.drop 2), ?_⟩
    replace h : Mem ((fun (_ : Unit) => HL [cel b_3 25 [Value.int .u32 from_Host, Value.int .i64 from_Port]]) () :: cel b_1 71 [Value.int .u32 box, Value.int .i64 box_1, Value.int .i64 box_2, Value.int .i64 box_3, Value.int .i64 box_4, Value.int .i64 box_5, Value.int .i64 box_6, Value.slice p_1 n_1 c_1, Value.int .i64 now] :: FL) _ := h.pack 1 [cel b_3 25 [Value.int .u32 from_Host, Value.int .i64 from_Port]] rfl
    refine sConFA_ok (FL := cel b_1 71 [Value.int .u32 box, Value.int .i64 box_1, Value.int .i64 box_2, Value.int .i64 box_3, Value.int .i64 box_4, Value.int .i64 box_5, Value.int .i64 box_6, Value.slice p_1 n_1 c_1, Value.int .i64 now] :: FL) (A1 := (fun (_ : Unit) => HL [cel b_3 25 [Value.int .u32 from_Host, Value.int .i64 from_Port]])) (Y1 := (fun x_3 s K_1 => nN_lets_c1_wp x_3.1 x_3.2 from_Host from_Port (fun (r : Bool) => K_1 r s))) (σ1 := Unit) (s_1 := ()) ?_ (fun w h => (hF_q_1p7 _ (h.drop 1))) rfl hc_q_1p7 h hp ?_
    · intro x_3 s K FL2 w R hx h hp hR
      replace h := h.unpack
      dsimp only [pickL, pickR, nthH, delH, dropH, List.cons_append, List.nil_append] at h
      refine calleeFn (by kernel_rfl) ?_
      refine nN_lets_c1_ok h hp ?_
      intro r w h hp
      exact hR r s _ (h.pack 1 [cel b_3 25 [Value.int .u32 from_Host, Value.int .i64 from_Port]] rfl) hp
    intro r s_1 w h hp
    replace h := h.unpack
    dsimp only [pickL, pickR, nthH, delH, dropH, List.cons_append, List.nil_append] at h
    refine ⟨_, rfl, ?_⟩
    replace h := h.sel [1] 1
    dsimp only [pickL, pickR, nthH, delH, dropH, List.cons_append, List.nil_append] at h
    exact hR r _ h hp
  clear hq
  obtain ⟨b_4, hb_4, hp⟩ := hp
  refine ⟨_, pnSome hb_4, ?_⟩
  obtain ⟨x_1, hx_1, hp⟩ := hp
  obtain ⟨qp7, qc7, hc_qp7, qe0, qe1, qe2, qe3, qe4, qe5, qe6, qe7, hF_qp7, -⟩ := hS85 b_4 x_1 hx_1
  refine ⟨_, qe6 _ (h.drop 2), ?_⟩
  refine cond_both hp (fun hp => ?_) (fun hp => ?_)
  · exact ⟨rfl, rfl, rfl, hp, h⟩
  refine ⟨_, rfl, ?_⟩
  refine ⟨_, cellL h 1 4 rfl rfl rfl, ?_⟩
  exact ⟨rfl, rfl, rfl, hp, h⟩
def nN_In_wp (box box_1 box_2 box_3 box_4 box_5 box_6 : Int) (list : List (Option Nat)) (now now_1 port from_Host from_Port : Int) (m_1 : SBX) (K : Int → Int → Int → List (Option Nat) → Int → SBX → Prop) : Prop :=
  joinP3 (fun (list_2 : List (Option Nat)) (now_3 : Int) (t19 : Bool) => cond t19 (K 0 0 1 list_2 now_3 m_1) (nN_at_wp box box_1 box_2 box_3 box_4 box_5 box_6 list_2 now_3 port m_1 (fun (r_2 : Option Nat) => joinP1 (fun (t32 : Bool) => cond t32 (K 0 0 8 list_2 now_3 m_1) (∃ (b_4 : Nat), r_2 = some b_4 ∧ (∃ (x_1 : Int × Int × Int × Int × Int × Int × Bool × (List (Int × Int))), getS m_1 b_4 = some x_1 ∧ (K x_1.1 x_1.2.1 0 list_2 now_3 (putS m_1 b_4 x_1))))) (fun (Q_1 : Bool → Prop) => cond (Option.isNone r_2) (Q_1 true) (nN_lets_wp box box_1 box_2 box_3 box_4 box_5 box_6 now_3 r_2 from_Host from_Port m_1 (fun (r_3 : Bool) => Q_1 (!r_3))))))) (fun (Q : List (Option Nat) → Int → Bool → Prop) => addr_May_wp from_Host from_Port (fun (r : Bool) => cond (!r) (Q list now true) (nN_on_wp box box_1 box_2 box_3 box_4 box_5 box_6 list now now_1 m_1 (fun (r_1 : Bool) (list_3 : List (Option Nat)) (now_4 : Int) => Q list_3 now_4 (!r_1)))))
theorem nN_In_ok {b_1 : Nat} {p_1 : Option Addr} {c_1 : Nat} {hd : Nat → Option Addr × Nat} {box box_1 box_2 box_3 box_4 box_5 box_6 : Int} {list : List (Option Nat)} {now now_1 port from_Host from_Port : Int} {m_1 : SBX} {FL : List HP} {w : World} {K : Int → Int → Int → List (Option Nat) → Int → SBX → Prop} {R : Value → World → Prop}
  (h : Mem (cel b_1 71 [Value.int .u32 box, Value.int .i64 box_1, Value.int .i64 box_2, Value.int .i64 box_3, Value.int .i64 box_4, Value.int .i64 box_5, Value.int .i64 box_6, Value.slice p_1 list.length c_1, Value.int .i64 now] :: row enc82 82 1 p_1 c_1 list :: stoP stoE85 hd m_1 :: FL) w) (hp : nN_In_wp box box_1 box_2 box_3 box_4 box_5 box_6 list now now_1 port from_Host from_Port m_1 K)
  (hR : ∀ (r r_1 r_2 : Int) (list_1 : List (Option Nat)) (now_2 : Int) (m_2 : SBX) (p_2 : Option Addr) (n_1 c_2 : Nat) (hd_1 : Nat → Option Addr × Nat) (w : World), n_1 = list_1.length → Mem (cel b_1 71 [Value.int .u32 box, Value.int .i64 box_1, Value.int .i64 box_2, Value.int .i64 box_3, Value.int .i64 box_4, Value.int .i64 box_5, Value.int .i64 box_6, Value.slice p_2 n_1 c_2, Value.int .i64 now_2] :: row enc82 82 1 p_2 c_2 list_1 :: stoP stoE85 hd_1 m_2 :: FL) w → K r r_1 r_2 list_1 now_2 m_2 → R (Value.tuple #[(Value.agg #[Value.int .u32 r, Value.int .i64 r_1]), Value.int .i64 r_2]) w) :
  CallV Try.prog 20 #[Value.pointer (some (Addr.mk b_1 0 none)), Value.int .i64 now_1, Value.int .i64 port, (Value.agg #[Value.int .u32 from_Host, Value.int .i64 from_Port])] w R := by
  refine nN_In_call ?_
  unfold nN_In
  unfold nN_In_wp at hp
  have cpp_1 := rowCap h 1 rfl
  refine newL (o := [Value.int .u32 from_Host, Value.int .i64 from_Port]) h ?_
  intro b_2 w h
  refine newL (o := [Value.int .u32 0, Value.int .i64 0]) h ?_
  intro b_3 w h
  obtain ⟨Q, hq, hp⟩ := hp
  refine ⟨fun n0 port2 from7 t8 t19 w => ∃ (list_2 : List (Option Nat)), ∃ (p_3 : Option Addr), ∃ (n_2 : Nat), ∃ (c_3 : Nat), ∃ (now_3 : Int), (some (Addr.mk b_1 0 none)) = n0 ∧ port = port2 ∧ (Addr.mk b_2 0 none) = from7 ∧ (Addr.mk b_3 0 none) = t8 ∧ n_2 = list_2.length ∧ Q list_2 now_3 t19 ∧ Mem (cel b_3 25 [Value.int .u32 0, Value.int .i64 0] :: cel b_2 25 [Value.int .u32 from_Host, Value.int .i64 from_Port] :: cel b_1 71 [Value.int .u32 box, Value.int .i64 box_1, Value.int .i64 box_2, Value.int .i64 box_3, Value.int .i64 box_4, Value.int .i64 box_5, Value.int .i64 box_6, Value.slice p_3 n_2 c_3, Value.int .i64 now_3] :: row enc82 82 1 p_3 c_3 list_2 :: stoP stoE85 hd m_1 :: FL) w, ?_, ?_⟩
  · rintro n0 port2 from7 t8 t19 w ⟨list_2, p_3, n_2, c_3, now_3, rfl, rfl, rfl, rfl, rfl, hp, h⟩
    replace hp := hq list_2 now_3 t19 hp
    unfold nN_In_j1
    have cpp_3 := rowCap h 3 rfl
    refine cond_both hp (fun hp => ?_) (fun hp => ?_)
    · refine storeL (ys := [Value.int .u32 0, Value.int .i64 0]) h 0 0 rfl rfl rfl sz25 rfl rfl ?_
      intro w h
      dsimp only [setH, setVs, setV] at h
      refine ⟨_, cellL h 0 0 rfl rfl rfl, _, cellL h 0 1 rfl rfl rfl, ?_⟩
      replace h := h.sel [2, 2, 2] 2
      dsimp only [pickL, pickR, nthH, delH, dropH, List.cons_append, List.nil_append] at h
      exact hR 0 0 1 list_2 now_3 m_1 p_3 list_2.length c_3 hd _ rfl h hp
    replace h := h.pick [2, 2]
    dsimp only [pickL, pickR, nthH, delH, dropH, List.cons_append, List.nil_append] at h
    have hSr85 := stoRo85 (h.drop 2) 2 rfl
    refine nN_at_ok (FL := cel b_3 25 [Value.int .u32 0, Value.int .i64 0] :: cel b_2 25 [Value.int .u32 from_Host, Value.int .i64 from_Port] :: stoP stoE85 hd m_1 :: FL) hSr85 h hp ?_
    intro r_2 w h hp
    have cpp_3 := rowCap h 1 rfl
    refine ⟨_, rfl, ?_⟩
    obtain ⟨Q_1, hq, hp⟩ := hp
    refine ⟨fun t8_1 b10 t32 w => (Addr.mk b_3 0 none) = t8_1 ∧ (pn r_2) = b10 ∧ Q_1 t32 ∧ Mem (cel b_1 71 [Value.int .u32 box, Value.int .i64 box_1, Value.int .i64 box_2, Value.int .i64 box_3, Value.int .i64 box_4, Value.int .i64 box_5, Value.int .i64 box_6, Value.slice p_3 list_2.length c_3, Value.int .i64 now_3] :: row enc82 82 1 p_3 c_3 list_2 :: cel b_3 25 [Value.int .u32 0, Value.int .i64 0] :: cel b_2 25 [Value.int .u32 from_Host, Value.int .i64 from_Port] :: stoP stoE85 hd m_1 :: FL) w, ?_, ?_⟩
    · rintro t8_1 b10 t32 w ⟨rfl, rfl, hp, h⟩
      replace hp := hq t32 hp
      unfold nN_In_j2
      refine cond_both hp (fun hp => ?_) (fun hp => ?_)
      · refine storeL (ys := [Value.int .u32 0, Value.int .i64 0]) h 2 0 rfl rfl rfl sz25 rfl rfl ?_
        intro w h
        dsimp only [setH, setVs, setV] at h
        refine ⟨_, cellL h 2 0 rfl rfl rfl, _, cellL h 2 1 rfl rfl rfl, ?_⟩
        replace h := h.sel [0, 0, 2] 2
        dsimp only [pickL, pickR, nthH, delH, dropH, List.cons_append, List.nil_append] at h
        exact hR 0 0 8 list_2 now_3 m_1 p_3 list_2.length c_3 hd _ rfl h hp
      obtain ⟨b_4, hb_4, hp⟩ := hp
      refine ⟨_, pnSome hb_4, ?_⟩
      obtain ⟨x_1, hx_1, hp⟩ := hp
      replace h := stoOpen stoX85 h 4 rfl hx_1
      dsimp only [setH] at h
      obtain ⟨p_5, c_5, hux_1⟩ : ∃ p_5 c_5, hd b_4 = (p_5, c_5) := ⟨_, _, rfl⟩
      rw [hux_1] at h
      replace h : Mem (cel b_4 85 [Value.int .u32 x_1.1, Value.int .i64 x_1.2.1, Value.int .u32 x_1.2.2.1, Value.int .i64 x_1.2.2.2.1, Value.int .i64 x_1.2.2.2.2.1, Value.int .i64 x_1.2.2.2.2.2.1, Value.bool x_1.2.2.2.2.2.2.1, Value.slice p_5 x_1.2.2.2.2.2.2.2.length c_5] :: row enc25 25 2 p_5 c_5 x_1.2.2.2.2.2.2.2 :: cel b_1 71 [Value.int .u32 box, Value.int .i64 box_1, Value.int .i64 box_2, Value.int .i64 box_3, Value.int .i64 box_4, Value.int .i64 box_5, Value.int .i64 box_6, Value.slice p_3 list_2.length c_3, Value.int .i64 now_3] :: row enc82 82 1 p_3 c_3 list_2 :: cel b_3 25 [Value.int .u32 0, Value.int .i64 0] :: cel b_2 25 [Value.int .u32 from_Host, Value.int .i64 from_Port] :: stoP stoE85 hd (delS m_1 b_4) :: FL) _ := h.unpack
      have cpp_5 := rowCap h 1 rfl
      refine ⟨_, cellL h 0 0 rfl rfl rfl, _, cellL h 0 1 rfl rfl rfl, ?_⟩
      refine storeL (ys := [Value.int .u32 x_1.1, Value.int .i64 x_1.2.1]) h 4 0 rfl rfl rfl sz25 rfl rfl ?_
      intro w h
      dsimp only [setH, setVs, setV] at h
      refine ⟨_, cellL h 4 0 rfl rfl rfl, _, cellL h 4 1 rfl rfl rfl, ?_⟩
      replace h : Mem (stoE85 (p_5, c_5) b_4 x_1 :: cel b_1 71 [Value.int .u32 box, Value.int .i64 box_1, Value.int .i64 box_2, Value.int .i64 box_3, Value.int .i64 box_4, Value.int .i64 box_5, Value.int .i64 box_6, Value.slice p_3 list_2.length c_3, Value.int .i64 now_3] :: row enc82 82 1 p_3 c_3 list_2 :: cel b_3 25 [Value.int .u32 x_1.1, Value.int .i64 x_1.2.1] :: cel b_2 25 [Value.int .u32 from_Host, Value.int .i64 from_Port] :: stoP stoE85 hd (delS m_1 b_4) :: FL) _ := h.pack 2 [cel b_4 85 [Value.int .u32 x_1.1, Value.int .i64 x_1.2.1, Value.int .u32 x_1.2.2.1, Value.int .i64 x_1.2.2.2.1, Value.int .i64 x_1.2.2.2.2.1, Value.int .i64 x_1.2.2.2.2.2.1, Value.bool x_1.2.2.2.2.2.2.1, Value.slice p_5 x_1.2.2.2.2.2.2.2.length c_5], row enc25 25 2 p_5 c_5 x_1.2.2.2.2.2.2.2] rfl
      replace h := stoClose h 4 (by simp only [List.length_cons]; omega) rfl
      dsimp only [setH] at h
      replace h := h.sel [0, 0, 2] 2
      dsimp only [pickL, pickR, nthH, delH, dropH, List.cons_append, List.nil_append] at h
      exact hR x_1.1 x_1.2.1 0 list_2 now_3 (putS m_1 b_4 x_1) p_3 list_2.length c_3 (updF hd b_4 (p_5, c_5)) _ rfl h hp
    clear hq
    refine eqlPn undP82 ?_
    refine ⟨_, rfl, ?_⟩
    refine cond_both hp (fun hp => ?_) (fun hp => ?_)
    · exact ⟨rfl, rfl, hp, h⟩
    refine ⟨_, cellL h 3 0 rfl rfl rfl, _, cellL h 3 1 rfl rfl rfl, ?_⟩
    have hSr85 := stoRo85 (h.drop 1) 3 rfl
    refine nN_lets_ok (FL := row enc82 82 1 p_3 c_3 list_2 :: cel b_3 25 [Value.int .u32 0, Value.int .i64 0] :: cel b_2 25 [Value.int .u32 from_Host, Value.int .i64 from_Port] :: stoP stoE85 hd m_1 :: FL) hSr85 h hp ?_
    intro r_3 w h hp
    refine ⟨_, rfl, ?_⟩
    exact ⟨rfl, rfl, hp, h⟩
  clear hq
  refine ⟨_, cellL h 1 0 rfl rfl rfl, _, cellL h 1 1 rfl rfl rfl, ?_⟩
  refine addr_May_ok h hp ?_
  intro r w h hp
  refine ⟨_, rfl, ?_⟩
  refine cond_both hp (fun hp => ?_) (fun hp => ?_)
  · exact ⟨list, p_1, list.length, c_1, now, rfl, rfl, rfl, rfl, rfl, hp, h⟩
  replace h := h.pick [2, 2, 2]
  dsimp only [pickL, pickR, nthH, delH, dropH, List.cons_append, List.nil_append] at h
  refine nN_on_ok h hp ?_
  rintro r_1 list_3 now_4 p_4 n_3 c_4 w rfl h hp
  have cpp_4 := rowCap h 1 rfl
  refine ⟨_, rfl, ?_⟩
  replace h := h.sel [3, 3, 0, 0, 0] 0
  dsimp only [pickL, pickR, nthH, delH, dropH, List.cons_append, List.nil_append] at h
  exact ⟨list_3, p_4, list_3.length, c_4, now_4, rfl, rfl, rfl, rfl, rfl, hp, h⟩
end Go.Proofs.Ytnmdnkmemjfoeaa
