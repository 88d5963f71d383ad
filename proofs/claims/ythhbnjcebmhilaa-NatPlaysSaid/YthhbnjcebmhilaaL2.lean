/- Each function over plain data (printed by a program of this claim's author). -/
import Derived.Test.YthhbnjcebmhilaaL1
namespace Go.Proofs.Ythhbnjcebmhilaa
open Go Go.Eng Go.Proofs
set_option maxRecDepth 100000
set_option maxHeartbeats 2000000

/-! (*embrasure/nat.Nat).lets (32) -/
def nat_Nat_lets_wp (box : Int) (box_1 : Int) (box_2 : Int) (box_3 : Int) (box_4 : Int) (box_5 : Int) (box_6 : Int) (now : Int) (b_2 : Option Nat) (from_Host : Int) (from_Port : Int) (m_1 : List (Nat × (Int × Int × Int × Int × Int × Int × Bool × (List (Int × Int))))) (K : Bool → Prop) : Prop :=
  joinP1 (fun (t7 : Bool) => cond t7 (K true) (cond ((box_4 : Int) == 1) (∃ (b_5 : Nat), b_2 = some b_5 ∧ (∃ (x_2 : Int × Int × Int × Int × Int × Int × Bool × (List (Int × Int))), getS m_1 b_5 = some x_2 ∧ (slices_ContainsFunc_sl_api_Addr_api_Addr_wp x_2.2.2.2.2.2.2.2 () (fun x_3 s K_1 => nat_Nat_lets_c1_wp x_3.1 x_3.2 from_Host from_Port (fun (r : Bool) => K_1 r s)) (fun (r : Bool) (s_1 : (Unit)) => K r)))) (∃ (b_6 : Nat), b_2 = some b_6 ∧ (∃ (x_4 : Int × Int × Int × Int × Int × Int × Bool × (List (Int × Int))), getS m_1 b_6 = some x_4 ∧ (slices_Contains_sl_api_Addr_api_Addr_wp x_4.2.2.2.2.2.2.2 from_Host from_Port (fun (r_1 : Bool) => K r_1)))))) (fun (Q : Bool → Prop) => ∃ (b_4 : Nat), b_2 = some b_4 ∧ (∃ (x_1 : Int × Int × Int × Int × Int × Int × Bool × (List (Int × Int))), getS m_1 b_4 = some x_1 ∧ (cond (x_1.2.2.2.2.2.2.1) (Q true) (Q ((box_4 : Int) == 0)))))
theorem nat_Nat_lets_ok {b_1 : Nat} {p_1 : Option Addr} {n_1 : Nat} {c_1 : Nat} {box : Int} {box_1 : Int} {box_2 : Int} {box_3 : Int} {box_4 : Int} {box_5 : Int} {box_6 : Int} {now : Int} {b_2 : Option Nat} {from_Host : Int} {from_Port : Int} {m_1 : List (Nat × (Int × Int × Int × Int × Int × Int × Bool × (List (Int × Int))))} {FL : List HP} {w : World} {K : Bool → Prop} {R : Value → World → Prop}
  (hS71 : ∀ (b : Nat) (x : Int × Int × Int × Int × Int × Int × Bool × (List (Int × Int))), getS m_1 b = some x → roE71 FL b x)
  (h : Mem (cel b_1 64 [(Value.int .u32 box), (Value.int .i64 box_1), (Value.int .i64 box_2), (Value.int .i64 box_3), (Value.int .i64 box_4), (Value.int .i64 box_5), (Value.int .i64 box_6), (Value.slice p_1 n_1 c_1), (Value.int .i64 now)] :: FL) w) (hp : nat_Nat_lets_wp box box_1 box_2 box_3 box_4 box_5 box_6 now b_2 from_Host from_Port m_1 K)
  (hR : ∀ (r : Bool) (w : World), Mem (cel b_1 64 [(Value.int .u32 box), (Value.int .i64 box_1), (Value.int .i64 box_2), (Value.int .i64 box_3), (Value.int .i64 box_4), (Value.int .i64 box_5), (Value.int .i64 box_6), (Value.slice p_1 n_1 c_1), (Value.int .i64 now)] :: FL) w → K r → R (Value.bool r) w) :
  CallV Try.prog 32 #[(Value.pointer (some (Addr.mk b_1 0 none))), (Value.pointer (pn b_2)), (Value.agg #[(Value.int .u32 from_Host), (Value.int .i64 from_Port)])] w R := by
  refine nat_Nat_lets_call ?_
  unfold nat_Nat_lets
  unfold nat_Nat_lets_wp at hp
  refine newL (o := [(Value.int .u32 from_Host), (Value.int .i64 from_Port)]) h ?_
  intro b_3 w h
  obtain ⟨Q, hq, hp⟩ := hp
  refine ⟨fun n0 b1 from5 t7 w => (some (Addr.mk b_1 0 none)) = n0 ∧ (pn b_2) = b1 ∧ (Addr.mk b_3 0 none) = from5 ∧ Q t7 ∧ Mem (cel b_3 24 [(Value.int .u32 from_Host), (Value.int .i64 from_Port)] :: cel b_1 64 [(Value.int .u32 box), (Value.int .i64 box_1), (Value.int .i64 box_2), (Value.int .i64 box_3), (Value.int .i64 box_4), (Value.int .i64 box_5), (Value.int .i64 box_6), (Value.slice p_1 n_1 c_1), (Value.int .i64 now)] :: FL) w, ?_, ?_⟩
  · rintro n0 b1 from5 t7 w ⟨rfl, rfl, rfl, hp, h⟩
    replace hp := hq t7 hp
    unfold nat_Nat_lets_j1
    refine cond_both hp (fun hp => ?_) (fun hp => ?_)
    · replace h := h.sel [1] 1
      dsimp only [pickL, pickR, nthH, delH, dropH, List.cons_append, List.nil_append] at h
      exact hR true _ h hp
    refine ⟨_, rfl, ?_⟩
    refine ⟨_, cellL h 1 4 rfl rfl rfl, ?_⟩
    refine cond_both' hp (fun hp => ?_) (fun hp => ?_)
    · replace h := h.drew
      obtain ⟨b_6, hb_6, hp⟩ := hp
      refine ⟨_, pnSome hb_6, ?_⟩
      obtain ⟨x_4, hx_4, hp⟩ := hp
      obtain ⟨q_2p7, q_2c7, hc_q_2p7, q_2e0, q_2e1, q_2e2, q_2e3, q_2e4, q_2e5, q_2e6, q_2e7, hF_q_2p7, -⟩ := hS71 b_6 x_4 hx_4
      refine ⟨_, _, _, q_2e7 _ (h.drop 2), ?_⟩
      refine ⟨_, cellL h 0 0 rfl rfl rfl, _, cellL h 0 1 rfl rfl rfl, ?_⟩
      refine slices_Contains_sl_api_Addr_api_Addr_ok (FL := cel b_3 24 [(Value.int .u32 from_Host), (Value.int .i64 from_Port)] :: cel b_1 64 [(Value.int .u32 box), (Value.int .i64 box_1), (Value.int .i64 box_2), (Value.int .i64 box_3), (Value.int .i64 box_4), (Value.int .i64 box_5), (Value.int .i64 box_6), (Value.slice p_1 n_1 c_1), (Value.int .i64 now)] :: FL) (fun w h => (hF_q_2p7 _ (h.drop 2))) rfl hc_q_2p7 h hp ?_
      intro r_1 w h hp
      refine ⟨_, rfl, ?_⟩
      replace h := h.sel [1] 1
      dsimp only [pickL, pickR, nthH, delH, dropH, List.cons_append, List.nil_append] at h
      exact hR r_1 _ h hp
    obtain ⟨b_5, hb_5, hp⟩ := hp
    refine ⟨_, pnSome hb_5, ?_⟩
    obtain ⟨x_2, hx_2, hp⟩ := hp
    obtain ⟨q_1p7, q_1c7, hc_q_1p7, q_1e0, q_1e1, q_1e2, q_1e3, q_1e4, q_1e5, q_1e6, q_1e7, hF_q_1p7, -⟩ := hS71 b_5 x_2 hx_2
    refine ⟨_, _, _, q_1e7 _ (h.drop 2), ?_⟩
    replace h : Mem ((fun (_ : Unit) => HL [cel b_3 24 [(Value.int .u32 from_Host), (Value.int .i64 from_Port)]]) () :: cel b_1 64 [(Value.int .u32 box), (Value.int .i64 box_1), (Value.int .i64 box_2), (Value.int .i64 box_3), (Value.int .i64 box_4), (Value.int .i64 box_5), (Value.int .i64 box_6), (Value.slice p_1 n_1 c_1), (Value.int .i64 now)] :: FL) _ := h.pack 1 [cel b_3 24 [(Value.int .u32 from_Host), (Value.int .i64 from_Port)]] rfl
    refine slices_ContainsFunc_sl_api_Addr_api_Addr_ok (FL := cel b_1 64 [(Value.int .u32 box), (Value.int .i64 box_1), (Value.int .i64 box_2), (Value.int .i64 box_3), (Value.int .i64 box_4), (Value.int .i64 box_5), (Value.int .i64 box_6), (Value.slice p_1 n_1 c_1), (Value.int .i64 now)] :: FL) (A1 := (fun (_ : Unit) => HL [cel b_3 24 [(Value.int .u32 from_Host), (Value.int .i64 from_Port)]])) (Y1 := (fun x_3 s K_1 => nat_Nat_lets_c1_wp x_3.1 x_3.2 from_Host from_Port (fun (r : Bool) => K_1 r s))) (σ1 := Unit) (s_1 := ()) ?_ (fun w h => (hF_q_1p7 _ (h.drop 1))) rfl hc_q_1p7 h hp ?_
    · intro x_3 s K FL2 w R hx h hp hR
      replace h := h.unpack
      dsimp only [pickL, pickR, nthH, delH, dropH, List.cons_append, List.nil_append] at h
      refine calleeFn (by kernel_rfl) ?_
      refine nat_Nat_lets_c1_ok h hp ?_
      intro r w h hp
      exact hR r s _ (h.pack 1 [cel b_3 24 [(Value.int .u32 from_Host), (Value.int .i64 from_Port)]] rfl) hp
    intro r s_1 w h hp
    replace h := h.unpack
    dsimp only [pickL, pickR, nthH, delH, dropH, List.cons_append, List.nil_append] at h
    refine ⟨_, rfl, ?_⟩
    replace h := h.sel [1] 1
    dsimp only [pickL, pickR, nthH, delH, dropH, List.cons_append, List.nil_append] at h
    exact hR r _ h hp
  clear hq
  obtain ⟨b_4, hb_4, hp⟩ := hp
  refine ⟨_, pnSome hb_4, ?_⟩
  obtain ⟨x_1, hx_1, hp⟩ := hp
  obtain ⟨qp7, qc7, hc_qp7, qe0, qe1, qe2, qe3, qe4, qe5, qe6, qe7, hF_qp7, -⟩ := hS71 b_4 x_1 hx_1
  refine ⟨_, qe6 _ (h.drop 2), ?_⟩
  refine cond_both hp (fun hp => ?_) (fun hp => ?_)
  · exact ⟨rfl, rfl, rfl, hp, h⟩
  refine ⟨_, rfl, ?_⟩
  refine ⟨_, cellL h 1 4 rfl rfl rfl, ?_⟩
  exact ⟨rfl, rfl, rfl, hp, h⟩

/-! (*embrasure/nat.Nat).In (13) -/
def nat_Nat_In_wp (box : Int) (box_1 : Int) (box_2 : Int) (box_3 : Int) (box_4 : Int) (box_5 : Int) (box_6 : Int) (list : List (Option Nat)) (now : Int) (now_1 : Int) (port : Int) (from_Host : Int) (from_Port : Int) (m_1 : List (Nat × (Int × Int × Int × Int × Int × Int × Bool × (List (Int × Int))))) (K : Int → Int → Int → List (Option Nat) → Int → List (Nat × (Int × Int × Int × Int × Int × Int × Bool × (List (Int × Int)))) → Prop) : Prop :=
  joinP3 (fun (list_2 : List (Option Nat)) (now_3 : Int) (t19 : Bool) => cond t19 (K 0 0 1 list_2 now_3 m_1) (nat_Nat_at_wp box box_1 box_2 box_3 box_4 box_5 box_6 list_2 now_3 port m_1 (fun (r_2 : Option Nat) => joinP1 (fun (t32 : Bool) => cond t32 (K 0 0 8 list_2 now_3 m_1) (∃ (b_4 : Nat), r_2 = some b_4 ∧ (∃ (x_1 : Int × Int × Int × Int × Int × Int × Bool × (List (Int × Int))), getS m_1 b_4 = some x_1 ∧ (K x_1.1 x_1.2.1 0 list_2 now_3 (putS m_1 b_4 x_1))))) (fun (Q_1 : Bool → Prop) => cond (Option.isNone r_2) (Q_1 true) (nat_Nat_lets_wp box box_1 box_2 box_3 box_4 box_5 box_6 now_3 r_2 from_Host from_Port m_1 (fun (r_3 : Bool) => Q_1 (!r_3))))))) (fun (Q : List (Option Nat) → Int → Bool → Prop) => addr_May_wp from_Host from_Port (fun (r : Bool) => cond (!r) (Q list now true) (nat_Nat_on_wp box box_1 box_2 box_3 box_4 box_5 box_6 list now now_1 m_1 (fun (r_1 : Bool) (list_3 : List (Option Nat)) (now_4 : Int) => Q list_3 now_4 (!r_1)))))
theorem nat_Nat_In_ok {b_1 : Nat} {p_1 : Option Addr} {c_1 : Nat} {hd : Nat → Option Addr × Nat} {box : Int} {box_1 : Int} {box_2 : Int} {box_3 : Int} {box_4 : Int} {box_5 : Int} {box_6 : Int} {list : List (Option Nat)} {now : Int} {now_1 : Int} {port : Int} {from_Host : Int} {from_Port : Int} {m_1 : List (Nat × (Int × Int × Int × Int × Int × Int × Bool × (List (Int × Int))))} {FL : List HP} {w : World} {K : Int → Int → Int → List (Option Nat) → Int → List (Nat × (Int × Int × Int × Int × Int × Int × Bool × (List (Int × Int)))) → Prop} {R : Value → World → Prop}
  (h : Mem (cel b_1 64 [(Value.int .u32 box), (Value.int .i64 box_1), (Value.int .i64 box_2), (Value.int .i64 box_3), (Value.int .i64 box_4), (Value.int .i64 box_5), (Value.int .i64 box_6), (Value.slice p_1 list.length c_1), (Value.int .i64 now)] :: row enc67 67 1 p_1 c_1 list :: stoP stoE71 hd m_1 :: FL) w) (hp : nat_Nat_In_wp box box_1 box_2 box_3 box_4 box_5 box_6 list now now_1 port from_Host from_Port m_1 K)
  (hR : ∀ (r : Int) (r_1 : Int) (r_2 : Int) (list_1 : List (Option Nat)) (now_2 : Int) (m_2 : List (Nat × (Int × Int × Int × Int × Int × Int × Bool × (List (Int × Int))))) (p_2 : Option Addr) (n_1 : Nat) (c_2 : Nat) (hd_1 : Nat → Option Addr × Nat) (w : World), n_1 = list_1.length → Mem (cel b_1 64 [(Value.int .u32 box), (Value.int .i64 box_1), (Value.int .i64 box_2), (Value.int .i64 box_3), (Value.int .i64 box_4), (Value.int .i64 box_5), (Value.int .i64 box_6), (Value.slice p_2 n_1 c_2), (Value.int .i64 now_2)] :: row enc67 67 1 p_2 c_2 list_1 :: stoP stoE71 hd_1 m_2 :: FL) w → K r r_1 r_2 list_1 now_2 m_2 → R (Value.tuple #[(Value.agg #[(Value.int .u32 r), (Value.int .i64 r_1)]), (Value.int .i64 r_2)]) w) :
  CallV Try.prog 13 #[(Value.pointer (some (Addr.mk b_1 0 none))), (Value.int .i64 now_1), (Value.int .i64 port), (Value.agg #[(Value.int .u32 from_Host), (Value.int .i64 from_Port)])] w R := by
  refine nat_Nat_In_call ?_
  unfold nat_Nat_In
  unfold nat_Nat_In_wp at hp
  have cpp_1 := rowCap h 1 rfl
  refine newL (o := [(Value.int .u32 from_Host), (Value.int .i64 from_Port)]) h ?_
  intro b_2 w h
  refine newL (o := [(Value.int .u32 0), (Value.int .i64 0)]) h ?_
  intro b_3 w h
  obtain ⟨Q, hq, hp⟩ := hp
  refine ⟨fun n0 port2 from7 t8 t19 w => ∃ (list_2 : List (Option Nat)), ∃ (p_3 : Option Addr), ∃ (n_2 : Nat), ∃ (c_3 : Nat), ∃ (now_3 : Int), (some (Addr.mk b_1 0 none)) = n0 ∧ port = port2 ∧ (Addr.mk b_2 0 none) = from7 ∧ (Addr.mk b_3 0 none) = t8 ∧ n_2 = list_2.length ∧ Q list_2 now_3 t19 ∧ Mem (cel b_3 24 [(Value.int .u32 0), (Value.int .i64 0)] :: cel b_2 24 [(Value.int .u32 from_Host), (Value.int .i64 from_Port)] :: cel b_1 64 [(Value.int .u32 box), (Value.int .i64 box_1), (Value.int .i64 box_2), (Value.int .i64 box_3), (Value.int .i64 box_4), (Value.int .i64 box_5), (Value.int .i64 box_6), (Value.slice p_3 n_2 c_3), (Value.int .i64 now_3)] :: row enc67 67 1 p_3 c_3 list_2 :: stoP stoE71 hd m_1 :: FL) w, ?_, ?_⟩
  · rintro n0 port2 from7 t8 t19 w ⟨list_2, p_3, n_2, c_3, now_3, rfl, rfl, rfl, rfl, rfl, hp, h⟩
    replace hp := hq list_2 now_3 t19 hp
    unfold nat_Nat_In_j1
    have cpp_3 := rowCap h 3 rfl
    refine cond_both hp (fun hp => ?_) (fun hp => ?_)
    · refine storeL (ys := [(Value.int .u32 0), (Value.int .i64 0)]) h 0 0 rfl rfl rfl sz24 rfl rfl ?_
      intro w h
      dsimp only [setH, setVs, setV] at h
      refine ⟨_, cellL h 0 0 rfl rfl rfl, _, cellL h 0 1 rfl rfl rfl, ?_⟩
      replace h := h.sel [2, 2, 2] 2
      dsimp only [pickL, pickR, nthH, delH, dropH, List.cons_append, List.nil_append] at h
      exact hR 0 0 1 list_2 now_3 m_1 p_3 list_2.length c_3 hd _ rfl h hp
    replace h := h.pick [2, 2]
    dsimp only [pickL, pickR, nthH, delH, dropH, List.cons_append, List.nil_append] at h
    have hSr71 := stoRo71 (h.drop 2) 2 rfl
    refine nat_Nat_at_ok (FL := cel b_3 24 [(Value.int .u32 0), (Value.int .i64 0)] :: cel b_2 24 [(Value.int .u32 from_Host), (Value.int .i64 from_Port)] :: stoP stoE71 hd m_1 :: FL) hSr71 h hp ?_
    intro r_2 w h hp
    have cpp_3 := rowCap h 1 rfl
    refine ⟨_, rfl, ?_⟩
    obtain ⟨Q_1, hq, hp⟩ := hp
    refine ⟨fun t8_1 b10 t32 w => (Addr.mk b_3 0 none) = t8_1 ∧ (pn r_2) = b10 ∧ Q_1 t32 ∧ Mem (cel b_1 64 [(Value.int .u32 box), (Value.int .i64 box_1), (Value.int .i64 box_2), (Value.int .i64 box_3), (Value.int .i64 box_4), (Value.int .i64 box_5), (Value.int .i64 box_6), (Value.slice p_3 list_2.length c_3), (Value.int .i64 now_3)] :: row enc67 67 1 p_3 c_3 list_2 :: cel b_3 24 [(Value.int .u32 0), (Value.int .i64 0)] :: cel b_2 24 [(Value.int .u32 from_Host), (Value.int .i64 from_Port)] :: stoP stoE71 hd m_1 :: FL) w, ?_, ?_⟩
    · rintro t8_1 b10 t32 w ⟨rfl, rfl, hp, h⟩
      replace hp := hq t32 hp
      unfold nat_Nat_In_j2
      refine cond_both hp (fun hp => ?_) (fun hp => ?_)
      · refine storeL (ys := [(Value.int .u32 0), (Value.int .i64 0)]) h 2 0 rfl rfl rfl sz24 rfl rfl ?_
        intro w h
        dsimp only [setH, setVs, setV] at h
        refine ⟨_, cellL h 2 0 rfl rfl rfl, _, cellL h 2 1 rfl rfl rfl, ?_⟩
        replace h := h.sel [0, 0, 2] 2
        dsimp only [pickL, pickR, nthH, delH, dropH, List.cons_append, List.nil_append] at h
        exact hR 0 0 8 list_2 now_3 m_1 p_3 list_2.length c_3 hd _ rfl h hp
      obtain ⟨b_4, hb_4, hp⟩ := hp
      refine ⟨_, pnSome hb_4, ?_⟩
      obtain ⟨x_1, hx_1, hp⟩ := hp
      replace h := stoOpen stoX71 h 4 rfl hx_1
      dsimp only [setH] at h
      obtain ⟨p_5, c_5, hux_1⟩ : ∃ p_5 c_5, hd b_4 = (p_5, c_5) := ⟨_, _, rfl⟩
      rw [hux_1] at h
      replace h : Mem (cel b_4 71 [(Value.int .u32 x_1.1), (Value.int .i64 x_1.2.1), (Value.int .u32 x_1.2.2.1), (Value.int .i64 x_1.2.2.2.1), (Value.int .i64 x_1.2.2.2.2.1), (Value.int .i64 x_1.2.2.2.2.2.1), (Value.bool x_1.2.2.2.2.2.2.1), (Value.slice p_5 x_1.2.2.2.2.2.2.2.length c_5)] :: row enc24 24 2 p_5 c_5 x_1.2.2.2.2.2.2.2 :: cel b_1 64 [(Value.int .u32 box), (Value.int .i64 box_1), (Value.int .i64 box_2), (Value.int .i64 box_3), (Value.int .i64 box_4), (Value.int .i64 box_5), (Value.int .i64 box_6), (Value.slice p_3 list_2.length c_3), (Value.int .i64 now_3)] :: row enc67 67 1 p_3 c_3 list_2 :: cel b_3 24 [(Value.int .u32 0), (Value.int .i64 0)] :: cel b_2 24 [(Value.int .u32 from_Host), (Value.int .i64 from_Port)] :: stoP stoE71 hd (delS m_1 b_4) :: FL) _ := h.unpack
      have cpp_5 := rowCap h 1 rfl
      refine ⟨_, cellL h 0 0 rfl rfl rfl, _, cellL h 0 1 rfl rfl rfl, ?_⟩
      refine storeL (ys := [(Value.int .u32 x_1.1), (Value.int .i64 x_1.2.1)]) h 4 0 rfl rfl rfl sz24 rfl rfl ?_
      intro w h
      dsimp only [setH, setVs, setV] at h
      refine ⟨_, cellL h 4 0 rfl rfl rfl, _, cellL h 4 1 rfl rfl rfl, ?_⟩
      replace h : Mem (stoE71 (p_5, c_5) b_4 x_1 :: cel b_1 64 [(Value.int .u32 box), (Value.int .i64 box_1), (Value.int .i64 box_2), (Value.int .i64 box_3), (Value.int .i64 box_4), (Value.int .i64 box_5), (Value.int .i64 box_6), (Value.slice p_3 list_2.length c_3), (Value.int .i64 now_3)] :: row enc67 67 1 p_3 c_3 list_2 :: cel b_3 24 [(Value.int .u32 x_1.1), (Value.int .i64 x_1.2.1)] :: cel b_2 24 [(Value.int .u32 from_Host), (Value.int .i64 from_Port)] :: stoP stoE71 hd (delS m_1 b_4) :: FL) _ := h.pack 2 [cel b_4 71 [(Value.int .u32 x_1.1), (Value.int .i64 x_1.2.1), (Value.int .u32 x_1.2.2.1), (Value.int .i64 x_1.2.2.2.1), (Value.int .i64 x_1.2.2.2.2.1), (Value.int .i64 x_1.2.2.2.2.2.1), (Value.bool x_1.2.2.2.2.2.2.1), (Value.slice p_5 x_1.2.2.2.2.2.2.2.length c_5)], row enc24 24 2 p_5 c_5 x_1.2.2.2.2.2.2.2] rfl
      replace h := stoClose h 4 (by simp only [List.length_cons]; omega) rfl
      dsimp only [setH] at h
      replace h := h.sel [0, 0, 2] 2
      dsimp only [pickL, pickR, nthH, delH, dropH, List.cons_append, List.nil_append] at h
      exact hR x_1.1 x_1.2.1 0 list_2 now_3 (putS m_1 b_4 x_1) p_3 list_2.length c_3 (updF hd b_4 (p_5, c_5)) _ rfl h hp
    clear hq
    refine eqlPn undP67 ?_
    refine ⟨_, rfl, ?_⟩
    refine cond_both hp (fun hp => ?_) (fun hp => ?_)
    · exact ⟨rfl, rfl, hp, h⟩
    refine ⟨_, cellL h 3 0 rfl rfl rfl, _, cellL h 3 1 rfl rfl rfl, ?_⟩
    have hSr71 := stoRo71 (h.drop 1) 3 rfl
    refine nat_Nat_lets_ok (FL := row enc67 67 1 p_3 c_3 list_2 :: cel b_3 24 [(Value.int .u32 0), (Value.int .i64 0)] :: cel b_2 24 [(Value.int .u32 from_Host), (Value.int .i64 from_Port)] :: stoP stoE71 hd m_1 :: FL) hSr71 h hp ?_
    intro r_3 w h hp
    refine ⟨_, rfl, ?_⟩
    exact ⟨rfl, rfl, hp, h⟩
  clear hq
  refine ⟨_, cellL h 1 0 rfl rfl rfl, _, cellL h 1 1 rfl rfl rfl, ?_⟩
  refine addr_May_ok h hp ?_
  intro r w h hp
  refine ⟨_, rfl, ?_⟩
  refine cond_both hp (fun hp => ?_) (fun hp => ?_)
  · exact ⟨list, p_1, list.length, c_1, now, rfl, rfl, rfl, rfl, rfl, hp, h⟩
  replace h := h.pick [2, 2, 2]
  dsimp only [pickL, pickR, nthH, delH, dropH, List.cons_append, List.nil_append] at h
  refine nat_Nat_on_ok h hp ?_
  rintro r_1 list_3 now_4 p_4 n_3 c_4 w rfl h hp
  have cpp_4 := rowCap h 1 rfl
  refine ⟨_, rfl, ?_⟩
  replace h := h.sel [3, 3, 0, 0, 0] 0
  dsimp only [pickL, pickR, nthH, delH, dropH, List.cons_append, List.nil_append] at h
  exact ⟨list_3, p_4, list_3.length, c_4, now_4, rfl, rfl, rfl, rfl, rfl, hp, h⟩

/-! (*embrasure/nat.Nat).Box (18) -/
def nat_Nat_Box_wp (box : Int) (box_1 : Int) (box_2 : Int) (box_3 : Int) (box_4 : Int) (box_5 : Int) (box_6 : Int) (now : Int) (K : Int → Int → Int → Int → Int → Int → Int → Prop) : Prop :=
  K box box_1 box_2 box_3 box_4 box_5 box_6
theorem nat_Nat_Box_ok {b_1 : Nat} {p_1 : Option Addr} {n_1 : Nat} {c_1 : Nat} {box : Int} {box_1 : Int} {box_2 : Int} {box_3 : Int} {box_4 : Int} {box_5 : Int} {box_6 : Int} {now : Int} {FL : List HP} {w : World} {K : Int → Int → Int → Int → Int → Int → Int → Prop} {R : Value → World → Prop}
  (h : Mem (cel b_1 64 [(Value.int .u32 box), (Value.int .i64 box_1), (Value.int .i64 box_2), (Value.int .i64 box_3), (Value.int .i64 box_4), (Value.int .i64 box_5), (Value.int .i64 box_6), (Value.slice p_1 n_1 c_1), (Value.int .i64 now)] :: FL) w) (hp : nat_Nat_Box_wp box box_1 box_2 box_3 box_4 box_5 box_6 now K)
  (hR : ∀ (r : Int) (r_1 : Int) (r_2 : Int) (r_3 : Int) (r_4 : Int) (r_5 : Int) (r_6 : Int) (w : World), Mem (cel b_1 64 [(Value.int .u32 box), (Value.int .i64 box_1), (Value.int .i64 box_2), (Value.int .i64 box_3), (Value.int .i64 box_4), (Value.int .i64 box_5), (Value.int .i64 box_6), (Value.slice p_1 n_1 c_1), (Value.int .i64 now)] :: FL) w → K r r_1 r_2 r_3 r_4 r_5 r_6 → R (Value.agg #[(Value.int .u32 r), (Value.int .i64 r_1), (Value.int .i64 r_2), (Value.int .i64 r_3), (Value.int .i64 r_4), (Value.int .i64 r_5), (Value.int .i64 r_6)]) w) :
  CallV Try.prog 18 #[(Value.pointer (some (Addr.mk b_1 0 none)))] w R := by
  refine nat_Nat_Box_call ?_
  unfold nat_Nat_Box
  unfold nat_Nat_Box_wp at hp
  refine newL (o := [(Value.int .u32 0), (Value.int .i64 0), (Value.int .i64 0), (Value.int .i64 0), (Value.int .i64 0), (Value.int .i64 0), (Value.int .i64 0)]) h ?_
  intro b_2 w h
  refine ⟨_, rfl, ?_⟩
  refine ⟨_, cellL h 1 0 rfl rfl rfl, _, cellL h 1 1 rfl rfl rfl, _, cellL h 1 2 rfl rfl rfl, _, cellL h 1 3 rfl rfl rfl, _, cellL h 1 4 rfl rfl rfl, _, cellL h 1 5 rfl rfl rfl, _, cellL h 1 6 rfl rfl rfl, ?_⟩
  refine storeL (ys := [(Value.int .u32 box), (Value.int .i64 box_1), (Value.int .i64 box_2), (Value.int .i64 box_3), (Value.int .i64 box_4), (Value.int .i64 box_5), (Value.int .i64 box_6)]) h 0 0 rfl rfl rfl sz28 rfl rfl ?_
  intro w h
  dsimp only [setH, setVs, setV] at h
  refine ⟨_, cellL h 0 0 rfl rfl rfl, _, cellL h 0 1 rfl rfl rfl, _, cellL h 0 2 rfl rfl rfl, _, cellL h 0 3 rfl rfl rfl, _, cellL h 0 4 rfl rfl rfl, _, cellL h 0 5 rfl rfl rfl, _, cellL h 0 6 rfl rfl rfl, ?_⟩
  replace h := h.sel [1] 1
  dsimp only [pickL, pickR, nthH, delH, dropH, List.cons_append, List.nil_append] at h
  exact hR box box_1 box_2 box_3 box_4 box_5 box_6 _ h hp

/-! embrasure/embrasurelaw08.awake (9) -/
def embrasurelaw08_awake_wp  (K : Bool → Prop) : Prop :=
  embrasurelaw08_Box_wp 4 (fun (r : Int) (r_1 : Int) (r_2 : Int) (r_3 : Int) (r_4 : Int) (r_5 : Int) (r_6 : Int) => nat_New_wp r r_1 r_2 r_3 r_4 r_5 r_6 (fun (r_7 : Int) => joinP1 (fun (t23 : Bool) => cond t23 (K false) (False)) (fun (Q : Bool → Prop) => Q true)) (fun (r_8 : Int) (box : Int) (box_1 : Int) (box_2 : Int) (box_3 : Int) (box_4 : Int) (box_5 : Int) (box_6 : Int) (list : List (Option Nat)) (now : Int) => joinP1 (fun (t23_1 : Bool) => cond t23_1 (K false) (nat_Nat_Out_wp box box_1 box_2 box_3 box_4 box_5 box_6 list now 1 167772161 5 134744072 53 ([] : List (Nat × (Int × Int × Int × Int × Int × Int × Bool × (List (Int × Int))))) (fun (r_9 : Int) (r_10 : Int) (r_11 : Int) (list_1 : List (Option Nat)) (now_1 : Int) (m_1 : List (Nat × (Int × Int × Int × Int × Int × Int × Bool × (List (Int × Int))))) => nat_Nat_In_wp box box_1 box_2 box_3 box_4 box_5 box_6 list_1 now_1 2 r_10 134744072 53 m_1 (fun (r_12 : Int) (r_13 : Int) (r_14 : Int) (list_2 : List (Option Nat)) (now_2 : Int) (m_2 : List (Nat × (Int × Int × Int × Int × Int × Int × Bool × (List (Int × Int))))) => nat_Nat_In_wp box box_1 box_2 box_3 box_4 box_5 box_6 list_2 now_2 2 r_10 9 53 m_2 (fun (r_15 : Int) (r_16 : Int) (r_17 : Int) (list_3 : List (Option Nat)) (now_3 : Int) (m_3 : List (Nat × (Int × Int × Int × Int × Int × Int × Bool × (List (Int × Int))))) => nat_Nat_In_wp box box_1 box_2 box_3 box_4 box_5 box_6 list_3 now_3 31 r_10 134744072 53 m_3 (fun (r_18 : Int) (r_19 : Int) (r_20 : Int) (list_4 : List (Option Nat)) (now_4 : Int) (m_4 : List (Nat × (Int × Int × Int × Int × Int × Int × Bool × (List (Int × Int))))) => cond ((r_11 : Int) == 0) (cond ((r_10 : Int) == 40000) (cond ((r_9 : Int) == 3405803777) (cond ((r_14 : Int) == 0) (cond (((r_12 : Int) == 167772161) && (((r_13 : Int) == 5) && true)) (cond ((r_17 : Int) == 8) (cond ((r_20 : Int) == 8) (nat_Nat_Box_wp box box_1 box_2 box_3 box_4 box_5 box_6 now_4 (fun (r_21 : Int) (r_22 : Int) (r_23 : Int) (r_24 : Int) (r_25 : Int) (r_26 : Int) (r_27 : Int) => embrasurelaw08_Box_wp 4 (fun (r_28 : Int) (r_29 : Int) (r_30 : Int) (r_31 : Int) (r_32 : Int) (r_33 : Int) (r_34 : Int) => K (((r_21 : Int) == r_28) && (((r_22 : Int) == r_29) && (((r_23 : Int) == r_30) && (((r_24 : Int) == r_31) && (((r_25 : Int) == r_32) && (((r_26 : Int) == r_33) && (((r_27 : Int) == r_34) && true)))))))))) (K false)) (K false)) (K false)) (K false)) (K false)) (K false)) (K false))))))) (fun (Q_1 : Bool → Prop) => Q_1 ((r_8 : Int) != 0))))
theorem embrasurelaw08_awake_ok  {FL : List HP} {w : World} {K : Bool → Prop} {R : Value → World → Prop}
  (h : Mem (FL) w) (hp : embrasurelaw08_awake_wp  K)
  (hR : ∀ (r : Bool) (w : World), Mem (FL) w → K r → R (Value.bool r) w) :
  CallV Try.prog 9 #[] w R := by
  refine embrasurelaw08_awake_call ?_
  unfold embrasurelaw08_awake
  unfold embrasurelaw08_awake_wp at hp
  replace h := stoNil stoE71 (fun _ => default) h
  refine embrasurelaw08_Box_ok h hp ?_
  intro r r_1 r_2 r_3 r_4 r_5 r_6 w h hp
  refine ⟨_, _, _, _, _, _, _, rfl, ?_⟩
  refine nat_New_ok h hp ?_ ?_
  · intro r_7 w h hp
    refine ⟨_, _, rfl, ?_⟩
    refine ⟨_, rfl, ?_⟩
    refine ⟨_, rfl, ?_⟩
    obtain ⟨Q, hq, hp⟩ := hp
    refine ⟨fun n1 t23 w => none = n1 ∧ Q t23 ∧ Mem (stoP stoE71 (fun _ => default) ([] : List (Nat × (Int × Int × Int × Int × Int × Int × Bool × (List (Int × Int))))) :: FL) w, ?_, ?_⟩
    · rintro n1 t23 w ⟨rfl, hp, h⟩
      replace hp := hq t23 hp
      unfold embrasurelaw08_awake_j1
      refine cond_both hp (fun hp => ?_) (fun hp => ?_)
      · replace h := h.sel [] 1
        dsimp only [pickL, pickR, nthH, delH, dropH, List.cons_append, List.nil_append] at h
        exact hR false _ h hp
      refine newL (o := [(Value.int .u32 0), (Value.int .i64 0)]) h ?_
      intro b_1 w h
      refine storeL (ys := [(Value.int .u32 167772161), (Value.int .i64 5)]) h 0 0 rfl rfl rfl sz24 rfl rfl ?_
      intro w h
      dsimp only [setH, setVs, setV] at h
      refine newL (o := [(Value.int .u32 0), (Value.int .i64 0)]) h ?_
      intro b_2 w h
      refine storeL (ys := [(Value.int .u32 134744072), (Value.int .i64 53)]) h 0 0 rfl rfl rfl sz24 rfl rfl ?_
      intro w h
      dsimp only [setH, setVs, setV] at h
      refine ⟨_, cellL h 1 0 rfl rfl rfl, _, cellL h 1 1 rfl rfl rfl, ?_⟩
      refine ⟨_, cellL h 0 0 rfl rfl rfl, _, cellL h 0 1 rfl rfl rfl, ?_⟩
      exact hp.elim
    clear hq
    refine eqlPtrNN undP30 ?_
    refine ⟨_, rfl, ?_⟩
    refine cond_tt ?_
    exact ⟨rfl, hp, h⟩
  rintro r_8 box box_1 box_2 box_3 box_4 box_5 box_6 list now b_3 p_1 n_1 c_1 w rfl h hp
  have cpp_1 := rowCap h 1 rfl
  refine ⟨_, _, rfl, ?_⟩
  refine ⟨_, rfl, ?_⟩
  refine ⟨_, rfl, ?_⟩
  obtain ⟨Q_1, hq, hp⟩ := hp
  refine ⟨fun n1_1 t23_1 w => (some (Addr.mk b_3 0 none)) = n1_1 ∧ Q_1 t23_1 ∧ Mem (cel b_3 64 [(Value.int .u32 box), (Value.int .i64 box_1), (Value.int .i64 box_2), (Value.int .i64 box_3), (Value.int .i64 box_4), (Value.int .i64 box_5), (Value.int .i64 box_6), (Value.slice p_1 list.length c_1), (Value.int .i64 now)] :: row enc67 67 1 p_1 c_1 list :: stoP stoE71 (fun _ => default) ([] : List (Nat × (Int × Int × Int × Int × Int × Int × Bool × (List (Int × Int))))) :: FL) w, ?_, ?_⟩
  · rintro n1_1 t23_1 w ⟨rfl, hp, h⟩
    replace hp := hq t23_1 hp
    unfold embrasurelaw08_awake_j1
    refine cond_both hp (fun hp => ?_) (fun hp => ?_)
    · replace h := h.sel [] 3
      dsimp only [pickL, pickR, nthH, delH, dropH, List.cons_append, List.nil_append] at h
      exact hR false _ h hp
    refine newL (o := [(Value.int .u32 0), (Value.int .i64 0)]) h ?_
    intro b_4 w h
    refine storeL (ys := [(Value.int .u32 167772161), (Value.int .i64 5)]) h 0 0 rfl rfl rfl sz24 rfl rfl ?_
    intro w h
    dsimp only [setH, setVs, setV] at h
    refine newL (o := [(Value.int .u32 0), (Value.int .i64 0)]) h ?_
    intro b_5 w h
    refine storeL (ys := [(Value.int .u32 134744072), (Value.int .i64 53)]) h 0 0 rfl rfl rfl sz24 rfl rfl ?_
    intro w h
    dsimp only [setH, setVs, setV] at h
    refine ⟨_, cellL h 1 0 rfl rfl rfl, _, cellL h 1 1 rfl rfl rfl, ?_⟩
    refine ⟨_, cellL h 0 0 rfl rfl rfl, _, cellL h 0 1 rfl rfl rfl, ?_⟩
    replace h := h.pick [2, 2, 2]
    dsimp only [pickL, pickR, nthH, delH, dropH, List.cons_append, List.nil_append] at h
    refine nat_Nat_Out_ok h hp ?_
    rintro r_9 r_10 r_11 list_1 now_1 m_1 p_2 n_2 c_2 hd w rfl h hp
    have cpp_2 := rowCap h 1 rfl
    refine ⟨_, _, _, rfl, ?_⟩
    refine ⟨_, _, rfl, ?_⟩
    refine ⟨_, rfl, ?_⟩
    refine newL (o := [(Value.int .u32 0), (Value.int .i64 0)]) h ?_
    intro b_6 w h
    refine storeL (ys := [(Value.int .u32 r_9), (Value.int .i64 r_10)]) h 0 0 rfl rfl rfl sz24 rfl rfl ?_
    intro w h
    dsimp only [setH, setVs, setV] at h
    refine ⟨_, cellL h 0 1 rfl rfl rfl, ?_⟩
    refine ⟨_, cellL h 4 0 rfl rfl rfl, _, cellL h 4 1 rfl rfl rfl, ?_⟩
    replace h := h.pick [1, 1, 1]
    dsimp only [pickL, pickR, nthH, delH, dropH, List.cons_append, List.nil_append] at h
    refine nat_Nat_In_ok h hp ?_
    rintro r_12 r_13 r_14 list_2 now_2 m_2 p_3 n_3 c_3 hd_1 w rfl h hp
    have cpp_3 := rowCap h 1 rfl
    refine ⟨_, _, _, rfl, ?_⟩
    refine ⟨_, _, rfl, ?_⟩
    refine ⟨_, rfl, ?_⟩
    refine newL (o := [(Value.int .u32 0), (Value.int .i64 0)]) h ?_
    intro b_7 w h
    refine storeL (ys := [(Value.int .u32 r_12), (Value.int .i64 r_13)]) h 0 0 rfl rfl rfl sz24 rfl rfl ?_
    intro w h
    dsimp only [setH, setVs, setV] at h
    refine ⟨_, cellL h 4 1 rfl rfl rfl, ?_⟩
    replace h := h.pick [1, 1, 1]
    dsimp only [pickL, pickR, nthH, delH, dropH, List.cons_append, List.nil_append] at h
    refine nat_Nat_In_ok h hp ?_
    rintro r_15 r_16 r_17 list_3 now_3 m_3 p_4 n_4 c_4 hd_2 w rfl h hp
    have cpp_4 := rowCap h 1 rfl
    refine ⟨_, _, _, rfl, ?_⟩
    refine ⟨_, _, rfl, ?_⟩
    refine ⟨_, rfl, ?_⟩
    refine newL (o := [(Value.int .u32 0), (Value.int .i64 0)]) h ?_
    intro b_8 w h
    refine storeL (ys := [(Value.int .u32 r_15), (Value.int .i64 r_16)]) h 0 0 rfl rfl rfl sz24 rfl rfl ?_
    intro w h
    dsimp only [setH, setVs, setV] at h
    refine ⟨_, cellL h 5 1 rfl rfl rfl, ?_⟩
    refine ⟨_, cellL h 6 0 rfl rfl rfl, _, cellL h 6 1 rfl rfl rfl, ?_⟩
    replace h := h.pick [1, 1, 1]
    dsimp only [pickL, pickR, nthH, delH, dropH, List.cons_append, List.nil_append] at h
    refine nat_Nat_In_ok h hp ?_
    rintro r_18 r_19 r_20 list_4 now_4 m_4 p_5 n_5 c_5 hd_3 w rfl h hp
    have cpp_5 := rowCap h 1 rfl
    refine ⟨_, _, _, rfl, ?_⟩
    refine ⟨_, _, rfl, ?_⟩
    refine ⟨_, rfl, ?_⟩
    refine newL (o := [(Value.int .u32 0), (Value.int .i64 0)]) h ?_
    intro b_9 w h
    refine storeL (ys := [(Value.int .u32 r_18), (Value.int .i64 r_19)]) h 0 0 rfl rfl rfl sz24 rfl rfl ?_
    intro w h
    dsimp only [setH, setVs, setV] at h
    refine cond_both' hp (fun hp => ?_) (fun hp => ?_)
    · replace h := h.sel [] 9
      dsimp only [pickL, pickR, nthH, delH, dropH, List.cons_append, List.nil_append] at h
      exact hR false _ h hp
    refine ⟨_, cellL h 6 1 rfl rfl rfl, ?_⟩
    refine cond_both' hp (fun hp => ?_) (fun hp => ?_)
    · replace h := h.sel [] 9
      dsimp only [pickL, pickR, nthH, delH, dropH, List.cons_append, List.nil_append] at h
      exact hR false _ h hp
    refine ⟨_, cellL h 6 0 rfl rfl rfl, ?_⟩
    refine cond_both' hp (fun hp => ?_) (fun hp => ?_)
    · replace h := h.sel [] 9
      dsimp only [pickL, pickR, nthH, delH, dropH, List.cons_append, List.nil_append] at h
      exact hR false _ h hp
    refine cond_both' hp (fun hp => ?_) (fun hp => ?_)
    · replace h := h.sel [] 9
      dsimp only [pickL, pickR, nthH, delH, dropH, List.cons_append, List.nil_append] at h
      exact hR false _ h hp
    refine ⟨_, cellL h 5 0 rfl rfl rfl, _, cellL h 5 1 rfl rfl rfl, ?_⟩
    refine ⟨_, cellL h 8 0 rfl rfl rfl, _, cellL h 8 1 rfl rfl rfl, ?_⟩
    refine eqlAgg (xs := [(Value.int .u32 r_12), (Value.int .i64 r_13)]) (ys := [(Value.int .u32 167772161), (Value.int .i64 5)]) eqG24 eqA24 (eqT24 r_12 r_13 167772161 5) ?_
    refine ⟨_, rfl, ?_⟩
    refine cond_both' hp (fun hp => ?_) (fun hp => ?_)
    · replace h := h.sel [] 9
      dsimp only [pickL, pickR, nthH, delH, dropH, List.cons_append, List.nil_append] at h
      exact hR false _ h hp
    refine cond_both' hp (fun hp => ?_) (fun hp => ?_)
    · replace h := h.sel [] 9
      dsimp only [pickL, pickR, nthH, delH, dropH, List.cons_append, List.nil_append] at h
      exact hR false _ h hp
    refine cond_both' hp (fun hp => ?_) (fun hp => ?_)
    · replace h := h.sel [] 9
      dsimp only [pickL, pickR, nthH, delH, dropH, List.cons_append, List.nil_append] at h
      exact hR false _ h hp
    replace h := h.pick [1]
    dsimp only [pickL, pickR, nthH, delH, dropH, List.cons_append, List.nil_append] at h
    refine nat_Nat_Box_ok h hp ?_
    intro r_21 r_22 r_23 r_24 r_25 r_26 r_27 w h hp
    refine ⟨_, _, _, _, _, _, _, rfl, ?_⟩
    refine embrasurelaw08_Box_ok h hp ?_
    intro r_28 r_29 r_30 r_31 r_32 r_33 r_34 w h hp
    refine ⟨_, _, _, _, _, _, _, rfl, ?_⟩
    refine eqlAgg (xs := [(Value.int .u32 r_21), (Value.int .i64 r_22), (Value.int .i64 r_23), (Value.int .i64 r_24), (Value.int .i64 r_25), (Value.int .i64 r_26), (Value.int .i64 r_27)]) (ys := [(Value.int .u32 r_28), (Value.int .i64 r_29), (Value.int .i64 r_30), (Value.int .i64 r_31), (Value.int .i64 r_32), (Value.int .i64 r_33), (Value.int .i64 r_34)]) eqG28 eqA28 (eqT28 r_21 r_22 r_23 r_24 r_25 r_26 r_27 r_28 r_29 r_30 r_31 r_32 r_33 r_34) ?_
    refine ⟨_, rfl, ?_⟩
    replace h := h.sel [] 9
    dsimp only [pickL, pickR, nthH, delH, dropH, List.cons_append, List.nil_append] at h
    exact hR (((r_21 : Int) == r_28) && (((r_22 : Int) == r_29) && (((r_23 : Int) == r_30) && (((r_24 : Int) == r_31) && (((r_25 : Int) == r_32) && (((r_26 : Int) == r_33) && (((r_27 : Int) == r_34) && true))))))) _ h hp
  clear hq
  refine eqlPtrNil undP30 ?_
  refine ⟨_, rfl, ?_⟩
  refine cond_ff ?_
  exact ⟨rfl, hp, h⟩

/-! embrasure/embrasureref08.May (17) -/
def embrasureref08_May_wp (b_Host : Int) (b_Lo : Int) (b_Hi : Int) (b_Map : Int) (b_Filter : Int) (b_Life : Int) (b_Most : Int) (K : Bool → Prop) : Prop :=
  joinP1 (fun (t42 : Bool) => cond t42 (K false) (cond (decide ((b_Life : Int) ≥ 1)) (cond (decide ((b_Life : Int) ≤ 1099511627776)) (cond (decide ((b_Most : Int) ≥ 1)) (K (decide ((b_Most : Int) ≤ 100))) (K false)) (K false)) (K false))) (fun (Q : Bool → Prop) => cond ((b_Host : Int) == 0) (Q true) (cond (decide ((b_Lo : Int) < 1)) (Q true) (cond (decide ((b_Hi : Int) < b_Lo)) (Q true) (cond (decide ((b_Hi : Int) > 65535)) (Q true) (cond (decide ((b_Map : Int) < 0)) (Q true) (cond (decide ((b_Map : Int) > 2)) (Q true) (cond (decide ((b_Filter : Int) < 0)) (Q true) (Q (decide ((b_Filter : Int) > 2))))))))))
theorem embrasureref08_May_ok {b_Host : Int} {b_Lo : Int} {b_Hi : Int} {b_Map : Int} {b_Filter : Int} {b_Life : Int} {b_Most : Int} {FL : List HP} {w : World} {K : Bool → Prop} {R : Value → World → Prop}
  (h : Mem (FL) w) (hp : embrasureref08_May_wp b_Host b_Lo b_Hi b_Map b_Filter b_Life b_Most K)
  (hR : ∀ (r : Bool) (w : World), Mem (FL) w → K r → R (Value.bool r) w) :
  CallV Try.prog 17 #[(Value.agg #[(Value.int .u32 b_Host), (Value.int .i64 b_Lo), (Value.int .i64 b_Hi), (Value.int .i64 b_Map), (Value.int .i64 b_Filter), (Value.int .i64 b_Life), (Value.int .i64 b_Most)])] w R := by
  refine embrasureref08_May_call ?_
  unfold embrasureref08_May
  unfold embrasureref08_May_wp at hp
  refine newL (o := [(Value.int .u32 b_Host), (Value.int .i64 b_Lo), (Value.int .i64 b_Hi), (Value.int .i64 b_Map), (Value.int .i64 b_Filter), (Value.int .i64 b_Life), (Value.int .i64 b_Most)]) h ?_
  intro b_1 w h
  obtain ⟨Q, hq, hp⟩ := hp
  refine ⟨fun b1 t42 w => (Addr.mk b_1 0 none) = b1 ∧ Q t42 ∧ Mem (cel b_1 28 [(Value.int .u32 b_Host), (Value.int .i64 b_Lo), (Value.int .i64 b_Hi), (Value.int .i64 b_Map), (Value.int .i64 b_Filter), (Value.int .i64 b_Life), (Value.int .i64 b_Most)] :: FL) w, ?_, ?_⟩
  · rintro b1 t42 w ⟨rfl, hp, h⟩
    replace hp := hq t42 hp
    unfold embrasureref08_May_j1
    refine cond_both hp (fun hp => ?_) (fun hp => ?_)
    · replace h := h.sel [] 1
      dsimp only [pickL, pickR, nthH, delH, dropH, List.cons_append, List.nil_append] at h
      exact hR false _ h hp
    refine ⟨_, cellL h 0 5 rfl rfl rfl, ?_⟩
    refine cond_both' hp (fun hp => ?_) (fun hp => ?_)
    · replace h := h.sel [] 1
      dsimp only [pickL, pickR, nthH, delH, dropH, List.cons_append, List.nil_append] at h
      exact hR false _ h hp
    refine ⟨_, cellL h 0 5 rfl rfl rfl, ?_⟩
    refine cond_both' hp (fun hp => ?_) (fun hp => ?_)
    · replace h := h.sel [] 1
      dsimp only [pickL, pickR, nthH, delH, dropH, List.cons_append, List.nil_append] at h
      exact hR false _ h hp
    refine ⟨_, cellL h 0 6 rfl rfl rfl, ?_⟩
    refine cond_both' hp (fun hp => ?_) (fun hp => ?_)
    · replace h := h.sel [] 1
      dsimp only [pickL, pickR, nthH, delH, dropH, List.cons_append, List.nil_append] at h
      exact hR false _ h hp
    refine ⟨_, cellL h 0 6 rfl rfl rfl, ?_⟩
    replace h := h.sel [] 1
    dsimp only [pickL, pickR, nthH, delH, dropH, List.cons_append, List.nil_append] at h
    exact hR (decide ((b_Most : Int) ≤ 100)) _ h hp
  clear hq
  refine ⟨_, cellL h 0 0 rfl rfl rfl, ?_⟩
  refine cond_both hp (fun hp => ?_) (fun hp => ?_)
  · exact ⟨rfl, hp, h⟩
  refine ⟨_, cellL h 0 1 rfl rfl rfl, ?_⟩
  refine cond_both hp (fun hp => ?_) (fun hp => ?_)
  · exact ⟨rfl, hp, h⟩
  refine ⟨_, cellL h 0 2 rfl rfl rfl, ?_⟩
  refine ⟨_, cellL h 0 1 rfl rfl rfl, ?_⟩
  refine cond_both hp (fun hp => ?_) (fun hp => ?_)
  · exact ⟨rfl, hp, h⟩
  refine ⟨_, cellL h 0 2 rfl rfl rfl, ?_⟩
  refine cond_both hp (fun hp => ?_) (fun hp => ?_)
  · exact ⟨rfl, hp, h⟩
  refine ⟨_, cellL h 0 3 rfl rfl rfl, ?_⟩
  refine cond_both hp (fun hp => ?_) (fun hp => ?_)
  · exact ⟨rfl, hp, h⟩
  refine ⟨_, cellL h 0 3 rfl rfl rfl, ?_⟩
  refine cond_both hp (fun hp => ?_) (fun hp => ?_)
  · exact ⟨rfl, hp, h⟩
  refine ⟨_, cellL h 0 4 rfl rfl rfl, ?_⟩
  refine cond_both hp (fun hp => ?_) (fun hp => ?_)
  · exact ⟨rfl, hp, h⟩
  refine ⟨_, cellL h 0 4 rfl rfl rfl, ?_⟩
  exact ⟨rfl, hp, h⟩

/-! embrasure/embrasureref03.May (38) -/
def embrasureref03_May_wp (a_Host : Int) (a_Port : Int) (K : Bool → Prop) : Prop :=
  cond (decide ((a_Host : Int) > 0)) (cond (decide ((a_Port : Int) > 0)) (K (decide ((a_Port : Int) < 65536))) (K false)) (K false)
theorem embrasureref03_May_ok {a_Host : Int} {a_Port : Int} {FL : List HP} {w : World} {K : Bool → Prop} {R : Value → World → Prop}
  (h : Mem (FL) w) (hp : embrasureref03_May_wp a_Host a_Port K)
  (hR : ∀ (r : Bool) (w : World), Mem (FL) w → K r → R (Value.bool r) w) :
  CallV Try.prog 38 #[(Value.agg #[(Value.int .u32 a_Host), (Value.int .i64 a_Port)])] w R := by
  refine embrasureref03_May_call ?_
  unfold embrasureref03_May
  unfold embrasureref03_May_wp at hp
  refine newL (o := [(Value.int .u32 a_Host), (Value.int .i64 a_Port)]) h ?_
  intro b_1 w h
  refine ⟨_, cellL h 0 0 rfl rfl rfl, ?_⟩
  refine cond_both' hp (fun hp => ?_) (fun hp => ?_)
  · replace h := h.sel [] 1
    dsimp only [pickL, pickR, nthH, delH, dropH, List.cons_append, List.nil_append] at h
    exact hR false _ h hp
  refine ⟨_, cellL h 0 1 rfl rfl rfl, ?_⟩
  refine cond_both' hp (fun hp => ?_) (fun hp => ?_)
  · replace h := h.sel [] 1
    dsimp only [pickL, pickR, nthH, delH, dropH, List.cons_append, List.nil_append] at h
    exact hR false _ h hp
  refine ⟨_, cellL h 0 1 rfl rfl rfl, ?_⟩
  replace h := h.sel [] 1
  dsimp only [pickL, pickR, nthH, delH, dropH, List.cons_append, List.nil_append] at h
  exact hR (decide ((a_Port : Int) < 65536)) _ h hp

/-! (*embrasure/embrasureref08.Nat).on (39) -/
def embrasureref08_Nat_on_wp (Box : Int) (Box_1 : Int) (Box_2 : Int) (Box_3 : Int) (Box_4 : Int) (Box_5 : Int) (Box_6 : Int) (L : List (Int × Int × Int × Int × Int × Int × Bool × (Option Addr × Nat × Nat))) (Now : Int) (now : Int) (K : Bool → List (Int × Int × Int × Int × Int × Int × Bool × (Option Addr × Nat × Nat)) → Int → Prop) : Prop :=
  joinP1 (fun (t16 : Bool) => cond t16 (K false L Now) (joinP1 (fun (l_1 : List (Int × Int × Int × Int × Int × Int × Bool × (Option Addr × Nat × Nat))) => K true l_1 now) (fun (Q_1 : List (Int × Int × Int × Int × Int × Int × Bool × (Option Addr × Nat × Nat)) → Prop) => ∃ (I : Nat → List (Int × Int × Int × Int × Int × Int × Bool × (Option Addr × Nat × Nat)) → Int → Prop), (∃ (n_5 : Nat), I n_5 ([] : List (Int × Int × Int × Int × Int × Int × Bool × (Option Addr × Nat × Nat))) 0) ∧ ∀ (n_2 : Nat) (l_2 : List (Int × Int × Int × Int × Int × Int × Bool × (Option Addr × Nat × Nat))) (i6 : Int), I n_2 l_2 i6 → (cond (decide ((i6 : Int) < ((L.length : Nat) : Int))) (0 ≤ (i6 : Int) ∧ (i6 : Int) < ((L.length : Nat) : Int) ∧ (∀ (x_1 : Int × Int × Int × Int × Int × Int × Bool × (Option Addr × Nat × Nat)), L[Int.toNat i6]? = some x_1 → (cond (decide ((x_1.2.2.2.2.2.1 : Int) > now)) (0 ≤ (i6 : Int) ∧ (i6 : Int) < ((L.length : Nat) : Int) ∧ (∀ (x_2 : Int × Int × Int × Int × Int × Int × Bool × (Option Addr × Nat × Nat)), L[Int.toNat i6]? = some x_2 → ((l_2.length + [x_2].length) * 80 ≤ 140737488355328 ∧ (∃ (n_3 : Nat), n_3 < n_2 ∧ I n_3 (l_2 ++ [x_2]) (IntKind.wrap .i64 (i6 + 1)))))) (∃ (n_4 : Nat), n_4 < n_2 ∧ I n_4 l_2 (IntKind.wrap .i64 (i6 + 1)))))) (Q_1 l_2))))) (fun (Q : Bool → Prop) => cond (decide ((now : Int) < Now)) (Q true) (Q (decide ((now : Int) > 1099511627776))))
theorem embrasureref08_Nat_on_ok {b_1 : Nat} {p_1 : Option Addr} {c_1 : Nat} {Box : Int} {Box_1 : Int} {Box_2 : Int} {Box_3 : Int} {Box_4 : Int} {Box_5 : Int} {Box_6 : Int} {L : List (Int × Int × Int × Int × Int × Int × Bool × (Option Addr × Nat × Nat))} {Now : Int} {now : Int} {FL : List HP} {w : World} {K : Bool → List (Int × Int × Int × Int × Int × Int × Bool × (Option Addr × Nat × Nat)) → Int → Prop} {R : Value → World → Prop}
  (h : Mem (cel b_1 58 [(Value.int .u32 Box), (Value.int .i64 Box_1), (Value.int .i64 Box_2), (Value.int .i64 Box_3), (Value.int .i64 Box_4), (Value.int .i64 Box_5), (Value.int .i64 Box_6), (Value.slice p_1 L.length c_1), (Value.int .i64 Now)] :: row enc84 84 8 p_1 c_1 L :: FL) w) (hp : embrasureref08_Nat_on_wp Box Box_1 Box_2 Box_3 Box_4 Box_5 Box_6 L Now now K)
  (hR : ∀ (r : Bool) (L_1 : List (Int × Int × Int × Int × Int × Int × Bool × (Option Addr × Nat × Nat))) (Now_1 : Int) (p_2 : Option Addr) (n_1 : Nat) (c_2 : Nat) (w : World), n_1 = L_1.length → Mem (cel b_1 58 [(Value.int .u32 Box), (Value.int .i64 Box_1), (Value.int .i64 Box_2), (Value.int .i64 Box_3), (Value.int .i64 Box_4), (Value.int .i64 Box_5), (Value.int .i64 Box_6), (Value.slice p_2 n_1 c_2), (Value.int .i64 Now_1)] :: row enc84 84 8 p_2 c_2 L_1 :: FL) w → K r L_1 Now_1 → R (Value.bool r) w) :
  CallV Try.prog 39 #[(Value.pointer (some (Addr.mk b_1 0 none))), (Value.int .i64 now)] w R := by
  refine embrasureref08_Nat_on_call ?_
  unfold embrasureref08_Nat_on
  unfold embrasureref08_Nat_on_wp at hp
  have cpp_1 := rowCap h 1 rfl
  obtain ⟨Q, hq, hp⟩ := hp
  refine ⟨fun n0 now1 t16 w => (some (Addr.mk b_1 0 none)) = n0 ∧ now = now1 ∧ Q t16 ∧ Mem (cel b_1 58 [(Value.int .u32 Box), (Value.int .i64 Box_1), (Value.int .i64 Box_2), (Value.int .i64 Box_3), (Value.int .i64 Box_4), (Value.int .i64 Box_5), (Value.int .i64 Box_6), (Value.slice p_1 L.length c_1), (Value.int .i64 Now)] :: row enc84 84 8 p_1 c_1 L :: FL) w, ?_, ?_⟩
  · rintro n0 now1 t16 w ⟨rfl, rfl, hp, h⟩
    replace hp := hq t16 hp
    unfold embrasureref08_Nat_on_j1
    refine cond_both hp (fun hp => ?_) (fun hp => ?_)
    · exact hR false L Now p_1 L.length c_1 _ rfl h hp
    refine ⟨_, rfl, ?_⟩
    refine storeL (ys := [(Value.int .i64 now)]) h 0 8 rfl rfl rfl sz3 rfl rfl ?_
    intro w h
    dsimp only [setH, setVs, setV] at h
    obtain ⟨Q_1, hq, hp⟩ := hp
    refine ⟨fun n0_1 l5p l5l l5c w => ∃ (l_1 : List (Int × Int × Int × Int × Int × Int × Bool × (Option Addr × Nat × Nat))), (some (Addr.mk b_1 0 none)) = n0_1 ∧ l5l = l_1.length ∧ Q_1 l_1 ∧ Mem (cel b_1 58 [(Value.int .u32 Box), (Value.int .i64 Box_1), (Value.int .i64 Box_2), (Value.int .i64 Box_3), (Value.int .i64 Box_4), (Value.int .i64 Box_5), (Value.int .i64 Box_6), (Value.slice p_1 L.length c_1), (Value.int .i64 now)] :: row enc84 84 8 p_1 c_1 L :: row enc84 84 8 l5p l5c l_1 :: FL) w, ?_, ?_⟩
    · rintro n0_1 l5p l5l l5c w ⟨l_1, rfl, rfl, hp, h⟩
      replace hp := hq l_1 hp
      unfold embrasureref08_Nat_on_j2
      have cpl5p := rowCap h 2 rfl
      refine ⟨_, rfl, ?_⟩
      refine storeL (ys := [(Value.slice l5p l_1.length l5c)]) h 0 7 rfl rfl rfl sz56 rfl rfl ?_
      intro w h
      dsimp only [setH, setVs, setV] at h
      replace h := h.sel [0, 1] 1
      dsimp only [pickL, pickR, nthH, delH, dropH, List.cons_append, List.nil_append] at h
      exact hR true l_1 now l5p l_1.length l5c _ rfl h hp
    clear hq
    obtain ⟨I, ⟨n_5, h0⟩, hq⟩ := hp
    replace h := rowNil enc84 84 8 h
    replace h := h.sel [1, 1, 0] 0
    dsimp only [pickL, pickR, nthH, delH, dropH, List.cons_append, List.nil_append] at h
    refine ⟨fun n_2 n0_2 now1_1 l5_1p l5_1l l5_1c i6 w => ∃ (l_2 : List (Int × Int × Int × Int × Int × Int × Bool × (Option Addr × Nat × Nat))), (some (Addr.mk b_1 0 none)) = n0_2 ∧ now = now1_1 ∧ l5_1l = l_2.length ∧ I n_2 l_2 i6 ∧ Mem (cel b_1 58 [(Value.int .u32 Box), (Value.int .i64 Box_1), (Value.int .i64 Box_2), (Value.int .i64 Box_3), (Value.int .i64 Box_4), (Value.int .i64 Box_5), (Value.int .i64 Box_6), (Value.slice p_1 L.length c_1), (Value.int .i64 now)] :: row enc84 84 8 p_1 c_1 L :: row enc84 84 8 l5_1p l5_1c l_2 :: FL) w, ⟨n_5, ([] : List (Int × Int × Int × Int × Int × Int × Bool × (Option Addr × Nat × Nat))), rfl, rfl, rfl, h0, h⟩, ?_⟩
    clear h0 h
    rintro n_2 n0_2 now1_1 l5_1p l5_1l l5_1c i6 w ⟨l_2, rfl, rfl, rfl, hp, h⟩
    replace hp := hq n_2 l_2 i6 hp
    clear hq
    unfold embrasureref08_Nat_on_l3
    have cpl5_1p := rowCap h 2 rfl
    refine ⟨_, rfl, ?_⟩
    refine ⟨_, _, _, cellL h 0 7 rfl rfl rfl, ?_⟩
    refine cond_both' hp (fun hp => ?_) (fun hp => ?_)
    · exact ⟨l_2, rfl, rfl, hp, h⟩
    refine ⟨_, rfl, ?_⟩
    refine ⟨_, _, _, cellL h 0 7 rfl rfl rfl, ?_⟩
    obtain ⟨ia_1, ja_1, hp⟩ := hp
    obtain ⟨a_1, ha_1⟩ := rdAddr (rowRd h 1 encL84 rfl) rfl ia_1 ja_1
    refine ⟨a_1, ha_1, ia_1, ja_1, ?_⟩
    obtain ⟨x_1, hx_1, hc⟩ := rdCell2 (rowRd h 1 encL84 rfl) ha_1 rfl ia_1 ja_1
    replace hp := hp x_1 hx_1
    refine ⟨_, hc 0 5 _ rfl, ?_⟩
    refine cond_both' hp (fun hp => ?_) (fun hp => ?_)
    · obtain ⟨n_4, hn, hp⟩ := hp
      exact ⟨n_4, hn, l_2, rfl, rfl, rfl, hp, h⟩
    refine ⟨_, rfl, ?_⟩
    refine ⟨_, _, _, cellL h 0 7 rfl rfl rfl, ?_⟩
    obtain ⟨ia_2, ja_2, hp⟩ := hp
    obtain ⟨a_2, ha_2⟩ := rdAddr (rowRd h 1 encL84 rfl) rfl ia_2 ja_2
    refine ⟨a_2, ha_2, ia_2, ja_2, ?_⟩
    obtain ⟨x_2, hx_2, hc⟩ := rdCell (rowRd h 1 encL84 rfl) ha_2 rfl ia_2 ja_2
    replace hp := hp x_2 hx_2
    refine ⟨_, hc 0 _ rfl, _, hc 1 _ rfl, _, hc 2 _ rfl, _, hc 3 _ rfl, _, hc 4 _ rfl, _, hc 5 _ rfl, _, hc 6 _ rfl, _, _, _, hc 7 _ rfl, ?_⟩
    refine newL (o := [(Value.int .u32 x_2.1), (Value.int .i64 x_2.2.1), (Value.int .u32 x_2.2.2.1), (Value.int .i64 x_2.2.2.2.1), (Value.int .i64 x_2.2.2.2.2.1), (Value.int .i64 x_2.2.2.2.2.2.1), (Value.bool x_2.2.2.2.2.2.2.1), (Value.slice x_2.2.2.2.2.2.2.2.1 x_2.2.2.2.2.2.2.2.2.1 x_2.2.2.2.2.2.2.2.2.2)]) h ?_
    intro b_2 w h
    have sr := (celRd h 0 encL84 rfl [x_2] rfl)
    obtain ⟨hb, hp⟩ := hp
    refine appendL slt56 und56 encL84 encO84 h 3 rfl rfl sr rfl hb ?_
    intro p_3 c_3 w h
    dsimp only [setH, setVs, setV] at h
    have cpp_3 := rowCap h 3 rfl
    refine ⟨_, _, _, rfl, ?_⟩
    replace h := h.sel [1, 1, 1] 1
    dsimp only [pickL, pickR, nthH, delH, dropH, List.cons_append, List.nil_append] at h
    obtain ⟨n_3, hn, hp⟩ := hp
    exact ⟨n_3, hn, (l_2 ++ [x_2]), rfl, rfl, rfl, hp, h⟩
  clear hq
  refine ⟨_, rfl, ?_⟩
  refine ⟨_, cellL h 0 8 rfl rfl rfl, ?_⟩
  refine cond_both hp (fun hp => ?_) (fun hp => ?_)
  · exact ⟨rfl, rfl, hp, h⟩
  exact ⟨rfl, rfl, hp, h⟩

/-! (*embrasure/embrasureref08.Nat).find (40) -/
def embrasureref08_Nat_find_wp (Box : Int) (Box_1 : Int) (Box_2 : Int) (Box_3 : Int) (Box_4 : Int) (Box_5 : Int) (Box_6 : Int) (L : List (Int × Int × Int × Int × Int × Int × Bool × (Option Addr × Nat × Nat))) (Now : Int) (in_Host : Int) (in_Port : Int) (asked : Bool) (to_Host : Int) (to_Port : Int) (K : Int → Prop) : Prop :=
  ∃ (I : Nat → Int → Prop), (∃ (n_3 : Nat), I n_3 0) ∧ ∀ (n_1 : Nat) (i9 : Int), I n_1 i9 → (cond (decide ((i9 : Int) < ((L.length : Nat) : Int))) (joinP1 (fun (t58 : Bool) => cond t58 (K i9) (∃ (n_2 : Nat), n_2 < n_1 ∧ I n_2 (IntKind.wrap .i64 (i9 + 1)))) (fun (Q : Bool → Prop) => 0 ≤ (i9 : Int) ∧ (i9 : Int) < ((L.length : Nat) : Int) ∧ (∀ (x_1 : Int × Int × Int × Int × Int × Int × Bool × (Option Addr × Nat × Nat)), L[Int.toNat i9]? = some x_1 → (cond (((x_1.1 : Int) == in_Host) && (((x_1.2.1 : Int) == in_Port) && true)) (0 ≤ (i9 : Int) ∧ (i9 : Int) < ((L.length : Nat) : Int) ∧ (∀ (x_2 : Int × Int × Int × Int × Int × Int × Bool × (Option Addr × Nat × Nat)), L[Int.toNat i9]? = some x_2 → (cond (x_2.2.2.2.2.2.2.1 == asked) (cond asked (Q true) (0 ≤ (i9 : Int) ∧ (i9 : Int) < ((L.length : Nat) : Int) ∧ (∀ (x_3 : Int × Int × Int × Int × Int × Int × Bool × (Option Addr × Nat × Nat)), L[Int.toNat i9]? = some x_3 → (Q (((x_3.2.2.1 : Int) == to_Host) && (((x_3.2.2.2.1 : Int) == to_Port) && true)))))) (Q false)))) (Q false))))) (K (-1)))
theorem embrasureref08_Nat_find_ok {b_1 : Nat} {p_1 : Option Addr} {c_1 : Nat} {Box : Int} {Box_1 : Int} {Box_2 : Int} {Box_3 : Int} {Box_4 : Int} {Box_5 : Int} {Box_6 : Int} {L : List (Int × Int × Int × Int × Int × Int × Bool × (Option Addr × Nat × Nat))} {Now : Int} {in_Host : Int} {in_Port : Int} {asked : Bool} {to_Host : Int} {to_Port : Int} {FL : List HP} {w : World} {K : Int → Prop} {R : Value → World → Prop}
  (h : Mem (cel b_1 58 [(Value.int .u32 Box), (Value.int .i64 Box_1), (Value.int .i64 Box_2), (Value.int .i64 Box_3), (Value.int .i64 Box_4), (Value.int .i64 Box_5), (Value.int .i64 Box_6), (Value.slice p_1 L.length c_1), (Value.int .i64 Now)] :: row enc84 84 8 p_1 c_1 L :: FL) w) (hp : embrasureref08_Nat_find_wp Box Box_1 Box_2 Box_3 Box_4 Box_5 Box_6 L Now in_Host in_Port asked to_Host to_Port K)
  (hR : ∀ (r : Int) (w : World), Mem (cel b_1 58 [(Value.int .u32 Box), (Value.int .i64 Box_1), (Value.int .i64 Box_2), (Value.int .i64 Box_3), (Value.int .i64 Box_4), (Value.int .i64 Box_5), (Value.int .i64 Box_6), (Value.slice p_1 L.length c_1), (Value.int .i64 Now)] :: row enc84 84 8 p_1 c_1 L :: FL) w → K r → R (Value.int .i64 r) w) :
  CallV Try.prog 40 #[(Value.pointer (some (Addr.mk b_1 0 none))), (Value.agg #[(Value.int .u32 in_Host), (Value.int .i64 in_Port)]), (Value.bool asked), (Value.agg #[(Value.int .u32 to_Host), (Value.int .i64 to_Port)])] w R := by
  refine embrasureref08_Nat_find_call ?_
  unfold embrasureref08_Nat_find
  unfold embrasureref08_Nat_find_wp at hp
  have cpp_1 := rowCap h 1 rfl
  refine newL (o := [(Value.int .u32 in_Host), (Value.int .i64 in_Port)]) h ?_
  intro b_2 w h
  refine newL (o := [(Value.int .u32 to_Host), (Value.int .i64 to_Port)]) h ?_
  intro b_3 w h
  obtain ⟨I, ⟨n_3, h0⟩, hq⟩ := hp
  refine ⟨fun n_1 n0 asked2 in5 to7 i9 w => (some (Addr.mk b_1 0 none)) = n0 ∧ asked = asked2 ∧ (Addr.mk b_2 0 none) = in5 ∧ (Addr.mk b_3 0 none) = to7 ∧ I n_1 i9 ∧ Mem (cel b_3 24 [(Value.int .u32 to_Host), (Value.int .i64 to_Port)] :: cel b_2 24 [(Value.int .u32 in_Host), (Value.int .i64 in_Port)] :: cel b_1 58 [(Value.int .u32 Box), (Value.int .i64 Box_1), (Value.int .i64 Box_2), (Value.int .i64 Box_3), (Value.int .i64 Box_4), (Value.int .i64 Box_5), (Value.int .i64 Box_6), (Value.slice p_1 L.length c_1), (Value.int .i64 Now)] :: row enc84 84 8 p_1 c_1 L :: FL) w, ⟨n_3, rfl, rfl, rfl, rfl, h0, h⟩, ?_⟩
  clear h0 h
  rintro n_1 n0 asked2 in5 to7 i9 w ⟨rfl, rfl, rfl, rfl, hp, h⟩
  replace hp := hq n_1 i9 hp
  clear hq
  unfold embrasureref08_Nat_find_l1
  refine ⟨_, rfl, ?_⟩
  refine ⟨_, _, _, cellL h 2 7 rfl rfl rfl, ?_⟩
  refine cond_both' hp (fun hp => ?_) (fun hp => ?_)
  · replace h := h.sel [2, 2] 2
    dsimp only [pickL, pickR, nthH, delH, dropH, List.cons_append, List.nil_append] at h
    exact hR (-1) _ h hp
  obtain ⟨Q, hq, hp⟩ := hp
  refine ⟨fun n0_1 asked2_1 in5_1 to7_1 i9_1 t58 w => (some (Addr.mk b_1 0 none)) = n0_1 ∧ asked = asked2_1 ∧ (Addr.mk b_2 0 none) = in5_1 ∧ (Addr.mk b_3 0 none) = to7_1 ∧ i9 = i9_1 ∧ Q t58 ∧ Mem (cel b_3 24 [(Value.int .u32 to_Host), (Value.int .i64 to_Port)] :: cel b_2 24 [(Value.int .u32 in_Host), (Value.int .i64 in_Port)] :: cel b_1 58 [(Value.int .u32 Box), (Value.int .i64 Box_1), (Value.int .i64 Box_2), (Value.int .i64 Box_3), (Value.int .i64 Box_4), (Value.int .i64 Box_5), (Value.int .i64 Box_6), (Value.slice p_1 L.length c_1), (Value.int .i64 Now)] :: row enc84 84 8 p_1 c_1 L :: FL) w, ?_, ?_⟩
  · rintro n0_1 asked2_1 in5_1 to7_1 i9_1 t58 w ⟨rfl, rfl, rfl, rfl, rfl, hp, h⟩
    replace hp := hq t58 hp
    unfold embrasureref08_Nat_find_j2
    refine cond_both' hp (fun hp => ?_) (fun hp => ?_)
    · obtain ⟨n_2, hn, hp⟩ := hp
      exact ⟨n_2, hn, rfl, rfl, rfl, rfl, hp, h⟩
    replace h := h.sel [2, 2] 2
    dsimp only [pickL, pickR, nthH, delH, dropH, List.cons_append, List.nil_append] at h
    exact hR i9 _ h hp
  clear hq
  replace h := h.drew
  refine ⟨_, rfl, ?_⟩
  refine ⟨_, _, _, cellL h 2 7 rfl rfl rfl, ?_⟩
  obtain ⟨ia_1, ja_1, hp⟩ := hp
  obtain ⟨a_1, ha_1⟩ := rdAddr (rowRd h 3 encL84 rfl) rfl ia_1 ja_1
  refine ⟨a_1, ha_1, ia_1, ja_1, ?_⟩
  obtain ⟨x_1, hx_1, hc⟩ := rdCell3 (rowRd h 3 encL84 rfl) ha_1 rfl ia_1 ja_1
  replace hp := hp x_1 hx_1
  refine ⟨_, hc 0 0 0 _ rfl, _, hc 0 0 1 _ rfl, ?_⟩
  refine ⟨_, cellL h 1 0 rfl rfl rfl, _, cellL h 1 1 rfl rfl rfl, ?_⟩
  refine eqlAgg (xs := [(Value.int .u32 x_1.1), (Value.int .i64 x_1.2.1)]) (ys := [(Value.int .u32 in_Host), (Value.int .i64 in_Port)]) eqG24 eqA24 (eqT24 x_1.1 x_1.2.1 in_Host in_Port) ?_
  refine ⟨_, rfl, ?_⟩
  refine ⟨rfl, ?_⟩
  refine cond_both' hp (fun hp => ?_) (fun hp => ?_)
  · exact ⟨rfl, rfl, rfl, rfl, rfl, hp, h⟩
  refine ⟨_, rfl, ?_⟩
  refine ⟨_, _, _, cellL h 2 7 rfl rfl rfl, ?_⟩
  obtain ⟨ia_2, ja_2, hp⟩ := hp
  obtain ⟨a_2, ha_2⟩ := rdAddr (rowRd h 3 encL84 rfl) rfl ia_2 ja_2
  refine ⟨a_2, ha_2, ia_2, ja_2, ?_⟩
  obtain ⟨x_2, hx_2, hc⟩ := rdCell2 (rowRd h 3 encL84 rfl) ha_2 rfl ia_2 ja_2
  replace hp := hp x_2 hx_2
  refine ⟨_, hc 0 6 _ rfl, ?_⟩
  refine eqlBool undB4 ?_
  refine ⟨_, rfl, ?_⟩
  refine ⟨rfl, ?_⟩
  refine cond_both' hp (fun hp => ?_) (fun hp => ?_)
  · exact ⟨rfl, rfl, rfl, rfl, rfl, hp, h⟩
  refine cond_both hp (fun hp => ?_) (fun hp => ?_)
  · exact ⟨rfl, rfl, rfl, rfl, rfl, hp, h⟩
  refine ⟨_, rfl, ?_⟩
  refine ⟨_, _, _, cellL h 2 7 rfl rfl rfl, ?_⟩
  obtain ⟨ia_3, ja_3, hp⟩ := hp
  obtain ⟨a_3, ha_3⟩ := rdAddr (rowRd h 3 encL84 rfl) rfl ia_3 ja_3
  refine ⟨a_3, ha_3, ia_3, ja_3, ?_⟩
  obtain ⟨x_3, hx_3, hc⟩ := rdCell3 (rowRd h 3 encL84 rfl) ha_3 rfl ia_3 ja_3
  replace hp := hp x_3 hx_3
  refine ⟨_, hc 0 2 0 _ rfl, _, hc 0 2 1 _ rfl, ?_⟩
  refine ⟨_, cellL h 0 0 rfl rfl rfl, _, cellL h 0 1 rfl rfl rfl, ?_⟩
  refine eqlAgg (xs := [(Value.int .u32 x_3.2.2.1), (Value.int .i64 x_3.2.2.2.1)]) (ys := [(Value.int .u32 to_Host), (Value.int .i64 to_Port)]) eqG24 eqA24 (eqT24 x_3.2.2.1 x_3.2.2.2.1 to_Host to_Port) ?_
  refine ⟨_, rfl, ?_⟩
  refine ⟨rfl, ?_⟩
  exact ⟨rfl, rfl, rfl, rfl, rfl, hp, h⟩

/-! (*embrasure/embrasureref08.Nat).key (41) -/
def embrasureref08_Nat_key_wp (Box : Int) (Box_1 : Int) (Box_2 : Int) (Box_3 : Int) (Box_4 : Int) (Box_5 : Int) (Box_6 : Int) (Now : Int) (to_Host : Int) (to_Port : Int) (K : Int → Int → Prop) : Prop :=
  cond ((Box_3 : Int) == 0) (K 0 0) (cond ((Box_3 : Int) == 1) (K to_Host 0) (K to_Host to_Port))
theorem embrasureref08_Nat_key_ok {b_1 : Nat} {p_1 : Option Addr} {n_1 : Nat} {c_1 : Nat} {Box : Int} {Box_1 : Int} {Box_2 : Int} {Box_3 : Int} {Box_4 : Int} {Box_5 : Int} {Box_6 : Int} {Now : Int} {to_Host : Int} {to_Port : Int} {FL : List HP} {w : World} {K : Int → Int → Prop} {R : Value → World → Prop}
  (h : Mem (cel b_1 58 [(Value.int .u32 Box), (Value.int .i64 Box_1), (Value.int .i64 Box_2), (Value.int .i64 Box_3), (Value.int .i64 Box_4), (Value.int .i64 Box_5), (Value.int .i64 Box_6), (Value.slice p_1 n_1 c_1), (Value.int .i64 Now)] :: FL) w) (hp : embrasureref08_Nat_key_wp Box Box_1 Box_2 Box_3 Box_4 Box_5 Box_6 Now to_Host to_Port K)
  (hR : ∀ (r : Int) (r_1 : Int) (w : World), Mem (cel b_1 58 [(Value.int .u32 Box), (Value.int .i64 Box_1), (Value.int .i64 Box_2), (Value.int .i64 Box_3), (Value.int .i64 Box_4), (Value.int .i64 Box_5), (Value.int .i64 Box_6), (Value.slice p_1 n_1 c_1), (Value.int .i64 Now)] :: FL) w → K r r_1 → R (Value.agg #[(Value.int .u32 r), (Value.int .i64 r_1)]) w) :
  CallV Try.prog 41 #[(Value.pointer (some (Addr.mk b_1 0 none))), (Value.agg #[(Value.int .u32 to_Host), (Value.int .i64 to_Port)])] w R := by
  refine embrasureref08_Nat_key_call ?_
  unfold embrasureref08_Nat_key
  unfold embrasureref08_Nat_key_wp at hp
  refine newL (o := [(Value.int .u32 to_Host), (Value.int .i64 to_Port)]) h ?_
  intro b_2 w h
  refine newL (o := [(Value.int .u32 0), (Value.int .i64 0)]) h ?_
  intro b_3 w h
  refine ⟨_, rfl, ?_⟩
  refine ⟨_, cellL h 2 3 rfl rfl rfl, ?_⟩
  refine cond_both hp (fun hp => ?_) (fun hp => ?_)
  · refine storeL (ys := [(Value.int .u32 0), (Value.int .i64 0)]) h 0 0 rfl rfl rfl sz24 rfl rfl ?_
    intro w h
    dsimp only [setH, setVs, setV] at h
    refine ⟨_, cellL h 0 0 rfl rfl rfl, _, cellL h 0 1 rfl rfl rfl, ?_⟩
    replace h := h.sel [2] 2
    dsimp only [pickL, pickR, nthH, delH, dropH, List.cons_append, List.nil_append] at h
    exact hR 0 0 _ h hp
  refine ⟨_, rfl, ?_⟩
  refine ⟨_, cellL h 2 3 rfl rfl rfl, ?_⟩
  refine cond_both hp (fun hp => ?_) (fun hp => ?_)
  · refine ⟨_, cellL h 1 0 rfl rfl rfl, ?_⟩
    refine storeL (ys := [(Value.int .u32 to_Host), (Value.int .i64 0)]) h 0 0 rfl rfl rfl sz24 rfl rfl ?_
    intro w h
    dsimp only [setH, setVs, setV] at h
    refine ⟨_, cellL h 0 0 rfl rfl rfl, _, cellL h 0 1 rfl rfl rfl, ?_⟩
    replace h := h.sel [2] 2
    dsimp only [pickL, pickR, nthH, delH, dropH, List.cons_append, List.nil_append] at h
    exact hR to_Host 0 _ h hp
  refine ⟨_, cellL h 1 0 rfl rfl rfl, _, cellL h 1 1 rfl rfl rfl, ?_⟩
  refine storeL (ys := [(Value.int .u32 to_Host), (Value.int .i64 to_Port)]) h 0 0 rfl rfl rfl sz24 rfl rfl ?_
  intro w h
  dsimp only [setH, setVs, setV] at h
  refine ⟨_, cellL h 0 0 rfl rfl rfl, _, cellL h 0 1 rfl rfl rfl, ?_⟩
  replace h := h.sel [2] 2
  dsimp only [pickL, pickR, nthH, delH, dropH, List.cons_append, List.nil_append] at h
  exact hR to_Host to_Port _ h hp

/-! (*embrasure/embrasureref08.Nat).free (59) -/
def embrasureref08_Nat_free_wp (Box : Int) (Box_1 : Int) (Box_2 : Int) (Box_3 : Int) (Box_4 : Int) (Box_5 : Int) (Box_6 : Int) (L : List (Int × Int × Int × Int × Int × Int × Bool × (Option Addr × Nat × Nat))) (Now : Int) (port : Int) (K : Bool → Prop) : Prop :=
  joinP0 (cond (decide ((port : Int) ≥ Box_1)) (K (decide ((port : Int) ≤ Box_2))) (K false)) (fun (Q : Prop) => ∃ (I : Nat → Int → Prop), (∃ (n_3 : Nat), I n_3 0) ∧ ∀ (n_1 : Nat) (i5 : Int), I n_1 i5 → (cond (decide ((i5 : Int) < ((L.length : Nat) : Int))) (0 ≤ (i5 : Int) ∧ (i5 : Int) < ((L.length : Nat) : Int) ∧ (∀ (x_1 : Int × Int × Int × Int × Int × Int × Bool × (Option Addr × Nat × Nat)), L[Int.toNat i5]? = some x_1 → (cond ((x_1.2.2.2.2.1 : Int) == port) (K false) (∃ (n_2 : Nat), n_2 < n_1 ∧ I n_2 (IntKind.wrap .i64 (i5 + 1)))))) (Q )))
theorem embrasureref08_Nat_free_ok {b_1 : Nat} {p_1 : Option Addr} {c_1 : Nat} {Box : Int} {Box_1 : Int} {Box_2 : Int} {Box_3 : Int} {Box_4 : Int} {Box_5 : Int} {Box_6 : Int} {L : List (Int × Int × Int × Int × Int × Int × Bool × (Option Addr × Nat × Nat))} {Now : Int} {port : Int} {FL : List HP} {w : World} {K : Bool → Prop} {R : Value → World → Prop}
  (h : Mem (cel b_1 58 [(Value.int .u32 Box), (Value.int .i64 Box_1), (Value.int .i64 Box_2), (Value.int .i64 Box_3), (Value.int .i64 Box_4), (Value.int .i64 Box_5), (Value.int .i64 Box_6), (Value.slice p_1 L.length c_1), (Value.int .i64 Now)] :: row enc84 84 8 p_1 c_1 L :: FL) w) (hp : embrasureref08_Nat_free_wp Box Box_1 Box_2 Box_3 Box_4 Box_5 Box_6 L Now port K)
  (hR : ∀ (r : Bool) (w : World), Mem (cel b_1 58 [(Value.int .u32 Box), (Value.int .i64 Box_1), (Value.int .i64 Box_2), (Value.int .i64 Box_3), (Value.int .i64 Box_4), (Value.int .i64 Box_5), (Value.int .i64 Box_6), (Value.slice p_1 L.length c_1), (Value.int .i64 Now)] :: row enc84 84 8 p_1 c_1 L :: FL) w → K r → R (Value.bool r) w) :
  CallV Try.prog 59 #[(Value.pointer (some (Addr.mk b_1 0 none))), (Value.int .i64 port)] w R := by
  refine embrasureref08_Nat_free_call ?_
  unfold embrasureref08_Nat_free
  unfold embrasureref08_Nat_free_wp at hp
  have cpp_1 := rowCap h 1 rfl
  obtain ⟨Q, hq, hp⟩ := hp
  refine ⟨fun n0 port1 w => (some (Addr.mk b_1 0 none)) = n0 ∧ port = port1 ∧ Q ∧ Mem (cel b_1 58 [(Value.int .u32 Box), (Value.int .i64 Box_1), (Value.int .i64 Box_2), (Value.int .i64 Box_3), (Value.int .i64 Box_4), (Value.int .i64 Box_5), (Value.int .i64 Box_6), (Value.slice p_1 L.length c_1), (Value.int .i64 Now)] :: row enc84 84 8 p_1 c_1 L :: FL) w, ?_, ?_⟩
  · rintro n0 port1 w ⟨rfl, rfl, hp, h⟩
    replace hp := hq  hp
    unfold embrasureref08_Nat_free_j1
    refine ⟨_, rfl, ?_⟩
    refine ⟨_, cellL h 0 1 rfl rfl rfl, ?_⟩
    refine cond_both' hp (fun hp => ?_) (fun hp => ?_)
    · exact hR false _ h hp
    refine ⟨_, rfl, ?_⟩
    refine ⟨_, cellL h 0 2 rfl rfl rfl, ?_⟩
    exact hR (decide ((port : Int) ≤ Box_2)) _ h hp
  clear hq
  obtain ⟨I, ⟨n_3, h0⟩, hq⟩ := hp
  refine ⟨fun n_1 n0_1 port1_1 i5 w => (some (Addr.mk b_1 0 none)) = n0_1 ∧ port = port1_1 ∧ I n_1 i5 ∧ Mem (cel b_1 58 [(Value.int .u32 Box), (Value.int .i64 Box_1), (Value.int .i64 Box_2), (Value.int .i64 Box_3), (Value.int .i64 Box_4), (Value.int .i64 Box_5), (Value.int .i64 Box_6), (Value.slice p_1 L.length c_1), (Value.int .i64 Now)] :: row enc84 84 8 p_1 c_1 L :: FL) w, ⟨n_3, rfl, rfl, h0, h⟩, ?_⟩
  clear h0 h
  rintro n_1 n0_1 port1_1 i5 w ⟨rfl, rfl, hp, h⟩
  replace hp := hq n_1 i5 hp
  clear hq
  unfold embrasureref08_Nat_free_l2
  refine ⟨_, rfl, ?_⟩
  refine ⟨_, _, _, cellL h 0 7 rfl rfl rfl, ?_⟩
  refine cond_both' hp (fun hp => ?_) (fun hp => ?_)
  · exact ⟨rfl, rfl, hp, h⟩
  refine ⟨_, rfl, ?_⟩
  refine ⟨_, _, _, cellL h 0 7 rfl rfl rfl, ?_⟩
  obtain ⟨ia_1, ja_1, hp⟩ := hp
  obtain ⟨a_1, ha_1⟩ := rdAddr (rowRd h 1 encL84 rfl) rfl ia_1 ja_1
  refine ⟨a_1, ha_1, ia_1, ja_1, ?_⟩
  obtain ⟨x_1, hx_1, hc⟩ := rdCell2 (rowRd h 1 encL84 rfl) ha_1 rfl ia_1 ja_1
  replace hp := hp x_1 hx_1
  refine ⟨_, hc 0 4 _ rfl, ?_⟩
  refine cond_both hp (fun hp => ?_) (fun hp => ?_)
  · exact hR false _ h hp
  obtain ⟨n_2, hn, hp⟩ := hp
  exact ⟨n_2, hn, rfl, rfl, hp, h⟩

/-! (*embrasure/embrasureref08.Nat).put (42) -/
def embrasureref08_Nat_put_wp (Box : Int) (Box_1 : Int) (Box_2 : Int) (Box_3 : Int) (Box_4 : Int) (Box_5 : Int) (Box_6 : Int) (L : List (Int × Int × Int × Int × Int × Int × Bool × (Option Addr × Nat × Nat))) (Now : Int) (b_In : Int) (b_In_1 : Int) (b_To : Int) (b_To_1 : Int) (b_Port : Int) (b_Until : Int) (b_Asked : Bool) (wish : Int) (K : Int → List (Int × Int × Int × Int × Int × Int × Bool × (Option Addr × Nat × Nat)) → Prop) : Prop :=
  cond (decide ((((L.length : Nat) : Int) : Int) ≥ Box_6)) (K (-1) L) (joinP1 (fun (port7 : Int) => joinP1 (fun (i8 : Int) => 0 ≤ (i8 : Int) ∧ (i8 : Int) ≤ ((L.length : Nat) : Int) ∧ (0 ≤ (i8 : Int) ∧ (i8 : Int) ≤ ((L.length : Nat) : Int) ∧ ((((([] : List (Int × Int × Int × Int × Int × Int × Bool × (Option Addr × Nat × Nat))).length + ((L.take (Int.toNat i8)).drop 0).length) * 80 ≤ 140737488355328 ∧ (((([] : List (Int × Int × Int × Int × Int × Int × Bool × (Option Addr × Nat × Nat))) ++ ((L.take (Int.toNat i8)).drop 0)).length + [(b_In, b_In_1, b_To, b_To_1, port7, b_Until, b_Asked, ((none, 0, 0) : Option Addr × Nat × Nat))].length) * 80 ≤ 140737488355328 ∧ ((((([] : List (Int × Int × Int × Int × Int × Int × Bool × (Option Addr × Nat × Nat))) ++ ((L.take (Int.toNat i8)).drop 0)) ++ [(b_In, b_In_1, b_To, b_To_1, port7, b_Until, b_Asked, ((none, 0, 0) : Option Addr × Nat × Nat))]).length + ((L.take L.length).drop (Int.toNat i8)).length) * 80 ≤ 140737488355328 ∧ (K i8 (((([] : List (Int × Int × Int × Int × Int × Int × Bool × (Option Addr × Nat × Nat))) ++ ((L.take (Int.toNat i8)).drop 0)) ++ [(b_In, b_In_1, b_To, b_To_1, port7, b_Until, b_Asked, ((none, 0, 0) : Option Addr × Nat × Nat))]) ++ ((L.take L.length).drop (Int.toNat i8))))))) ∧ ((([] : List (Int × Int × Int × Int × Int × Int × Bool × (Option Addr × Nat × Nat))).length + ((L.take (Int.toNat i8)).drop 0).length) * 80 ≤ 140737488355328 ∧ (((([] : List (Int × Int × Int × Int × Int × Int × Bool × (Option Addr × Nat × Nat))) ++ ((L.take (Int.toNat i8)).drop 0)).length + [(b_In, b_In_1, b_To, b_To_1, port7, b_Until, b_Asked, ((none, 0, 0) : Option Addr × Nat × Nat))].length) * 80 ≤ 140737488355328 ∧ ((((([] : List (Int × Int × Int × Int × Int × Int × Bool × (Option Addr × Nat × Nat))) ++ ((L.take (Int.toNat i8)).drop 0)) ++ [(b_In, b_In_1, b_To, b_To_1, port7, b_Until, b_Asked, ((none, 0, 0) : Option Addr × Nat × Nat))]).length + ((L.take L.length).drop (Int.toNat i8)).length) * 80 ≤ 140737488355328 ∧ (K i8 (((([] : List (Int × Int × Int × Int × Int × Int × Bool × (Option Addr × Nat × Nat))) ++ ((L.take (Int.toNat i8)).drop 0)) ++ [(b_In, b_In_1, b_To, b_To_1, port7, b_Until, b_Asked, ((none, 0, 0) : Option Addr × Nat × Nat))]) ++ ((L.take L.length).drop (Int.toNat i8)))))))) ∧ ((([] : List (Int × Int × Int × Int × Int × Int × Bool × (Option Addr × Nat × Nat))).length + ((L.take (Int.toNat i8)).drop 0).length) * 80 ≤ 140737488355328 ∧ (((([] : List (Int × Int × Int × Int × Int × Int × Bool × (Option Addr × Nat × Nat))) ++ ((L.take (Int.toNat i8)).drop 0)).length + [(b_In, b_In_1, b_To, b_To_1, port7, b_Until, b_Asked, ((none, 0, 0) : Option Addr × Nat × Nat))].length) * 80 ≤ 140737488355328 ∧ ((((([] : List (Int × Int × Int × Int × Int × Int × Bool × (Option Addr × Nat × Nat))) ++ ((L.take (Int.toNat i8)).drop 0)) ++ [(b_In, b_In_1, b_To, b_To_1, port7, b_Until, b_Asked, ((none, 0, 0) : Option Addr × Nat × Nat))]).length + ((L.take L.length).drop (Int.toNat i8)).length) * 80 ≤ 140737488355328 ∧ (K i8 (((([] : List (Int × Int × Int × Int × Int × Int × Bool × (Option Addr × Nat × Nat))) ++ ((L.take (Int.toNat i8)).drop 0)) ++ [(b_In, b_In_1, b_To, b_To_1, port7, b_Until, b_Asked, ((none, 0, 0) : Option Addr × Nat × Nat))]) ++ ((L.take L.length).drop (Int.toNat i8)))))))))) (fun (Q_3 : Int → Prop) => ∃ (I_1 : Nat → Int → Prop), (∃ (n_7 : Nat), I_1 n_7 0) ∧ ∀ (n_5 : Nat) (i8_1 : Int), I_1 n_5 i8_1 → (joinP1 (fun (t73 : Bool) => cond t73 (∃ (n_6 : Nat), n_6 < n_5 ∧ I_1 n_6 (IntKind.wrap .i64 (i8_1 + 1))) (Q_3 i8_1)) (fun (Q_4 : Bool → Prop) => cond (decide ((i8_1 : Int) < ((L.length : Nat) : Int))) (0 ≤ (i8_1 : Int) ∧ (i8_1 : Int) < ((L.length : Nat) : Int) ∧ (∀ (x_1 : Int × Int × Int × Int × Int × Int × Bool × (Option Addr × Nat × Nat)), L[Int.toNat i8_1]? = some x_1 → (Q_4 (decide ((x_1.2.2.2.2.1 : Int) < port7))))) (Q_4 false))))) (fun (Q : Int → Prop) => embrasureref08_Nat_free_wp Box Box_1 Box_2 Box_3 Box_4 Box_5 Box_6 L Now wish (fun (r : Bool) => cond (!r) (joinP1 (fun (port7_1 : Int) => cond (decide ((port7_1 : Int) > Box_2)) (K (-1) L) (Q port7_1)) (fun (Q_1 : Int → Prop) => ∃ (I : Nat → Int → Prop), (∃ (n_4 : Nat), I n_4 Box_1) ∧ ∀ (n_2 : Nat) (port7_2 : Int), I n_2 port7_2 → (joinP1 (fun (t42 : Bool) => cond t42 (∃ (n_3 : Nat), n_3 < n_2 ∧ I n_3 (IntKind.wrap .i64 (port7_2 + 1))) (Q_1 port7_2)) (fun (Q_2 : Bool → Prop) => cond (decide ((port7_2 : Int) ≤ Box_2)) (embrasureref08_Nat_free_wp Box Box_1 Box_2 Box_3 Box_4 Box_5 Box_6 L Now port7_2 (fun (r_1 : Bool) => Q_2 (!r_1))) (Q_2 false))))) (Q wish))))
theorem embrasureref08_Nat_put_ok {b_1 : Nat} {p_1 : Option Addr} {c_1 : Nat} {Box : Int} {Box_1 : Int} {Box_2 : Int} {Box_3 : Int} {Box_4 : Int} {Box_5 : Int} {Box_6 : Int} {L : List (Int × Int × Int × Int × Int × Int × Bool × (Option Addr × Nat × Nat))} {Now : Int} {b_In : Int} {b_In_1 : Int} {b_To : Int} {b_To_1 : Int} {b_Port : Int} {b_Until : Int} {b_Asked : Bool} {wish : Int} {FL : List HP} {w : World} {K : Int → List (Int × Int × Int × Int × Int × Int × Bool × (Option Addr × Nat × Nat)) → Prop} {R : Value → World → Prop}
  (h : Mem (cel b_1 58 [(Value.int .u32 Box), (Value.int .i64 Box_1), (Value.int .i64 Box_2), (Value.int .i64 Box_3), (Value.int .i64 Box_4), (Value.int .i64 Box_5), (Value.int .i64 Box_6), (Value.slice p_1 L.length c_1), (Value.int .i64 Now)] :: row enc84 84 8 p_1 c_1 L :: FL) w) (hp : embrasureref08_Nat_put_wp Box Box_1 Box_2 Box_3 Box_4 Box_5 Box_6 L Now b_In b_In_1 b_To b_To_1 b_Port b_Until b_Asked wish K)
  (hR : ∀ (r : Int) (L_1 : List (Int × Int × Int × Int × Int × Int × Bool × (Option Addr × Nat × Nat))) (p_2 : Option Addr) (n_1 : Nat) (c_2 : Nat) (w : World), n_1 = L_1.length → Mem (cel b_1 58 [(Value.int .u32 Box), (Value.int .i64 Box_1), (Value.int .i64 Box_2), (Value.int .i64 Box_3), (Value.int .i64 Box_4), (Value.int .i64 Box_5), (Value.int .i64 Box_6), (Value.slice p_2 n_1 c_2), (Value.int .i64 Now)] :: row enc84 84 8 p_2 c_2 L_1 :: FL) w → K r L_1 → R (Value.int .i64 r) w) :
  CallV Try.prog 42 #[(Value.pointer (some (Addr.mk b_1 0 none))), (Value.agg #[(Value.int .u32 b_In), (Value.int .i64 b_In_1), (Value.int .u32 b_To), (Value.int .i64 b_To_1), (Value.int .i64 b_Port), (Value.int .i64 b_Until), (Value.bool b_Asked)]), (Value.int .i64 wish)] w R := by
  refine embrasureref08_Nat_put_call ?_
  unfold embrasureref08_Nat_put
  unfold embrasureref08_Nat_put_wp at hp
  have cpp_1 := rowCap h 1 rfl
  refine newL (o := [(Value.int .u32 b_In), (Value.int .i64 b_In_1), (Value.int .u32 b_To), (Value.int .i64 b_To_1), (Value.int .i64 b_Port), (Value.int .i64 b_Until), (Value.bool b_Asked)]) h ?_
  intro b_2 w h
  replace h := h.drew
  refine ⟨_, rfl, ?_⟩
  refine ⟨_, _, _, cellL h 1 7 rfl rfl rfl, ?_⟩
  refine ⟨rfl, ?_⟩
  refine ⟨_, rfl, ?_⟩
  refine ⟨_, cellL h 1 6 rfl rfl rfl, ?_⟩
  refine cond_both hp (fun hp => ?_) (fun hp => ?_)
  · replace h := h.sel [1, 1] 1
    dsimp only [pickL, pickR, nthH, delH, dropH, List.cons_append, List.nil_append] at h
    exact hR (-1) L p_1 L.length c_1 _ rfl h hp
  obtain ⟨Q, hq, hp⟩ := hp
  refine ⟨fun n0 b4 port7 w => (some (Addr.mk b_1 0 none)) = n0 ∧ (Addr.mk b_2 0 none) = b4 ∧ Q port7 ∧ Mem (cel b_2 51 [(Value.int .u32 b_In), (Value.int .i64 b_In_1), (Value.int .u32 b_To), (Value.int .i64 b_To_1), (Value.int .i64 b_Port), (Value.int .i64 b_Until), (Value.bool b_Asked)] :: cel b_1 58 [(Value.int .u32 Box), (Value.int .i64 Box_1), (Value.int .i64 Box_2), (Value.int .i64 Box_3), (Value.int .i64 Box_4), (Value.int .i64 Box_5), (Value.int .i64 Box_6), (Value.slice p_1 L.length c_1), (Value.int .i64 Now)] :: row enc84 84 8 p_1 c_1 L :: FL) w, ?_, ?_⟩
  · rintro n0 b4 port7 w ⟨rfl, rfl, hp, h⟩
    replace hp := hq port7 hp
    unfold embrasureref08_Nat_put_j1
    refine storeL (ys := [(Value.int .i64 port7)]) h 0 4 rfl rfl rfl sz3 rfl rfl ?_
    intro w h
    dsimp only [setH, setVs, setV] at h
    obtain ⟨Q_3, hq, hp⟩ := hp
    refine ⟨fun n0_4 b4_4 i8 w => (some (Addr.mk b_1 0 none)) = n0_4 ∧ (Addr.mk b_2 0 none) = b4_4 ∧ Q_3 i8 ∧ Mem (cel b_2 51 [(Value.int .u32 b_In), (Value.int .i64 b_In_1), (Value.int .u32 b_To), (Value.int .i64 b_To_1), (Value.int .i64 port7), (Value.int .i64 b_Until), (Value.bool b_Asked)] :: cel b_1 58 [(Value.int .u32 Box), (Value.int .i64 Box_1), (Value.int .i64 Box_2), (Value.int .i64 Box_3), (Value.int .i64 Box_4), (Value.int .i64 Box_5), (Value.int .i64 Box_6), (Value.slice p_1 L.length c_1), (Value.int .i64 Now)] :: row enc84 84 8 p_1 c_1 L :: FL) w, ?_, ?_⟩
    · rintro n0_4 b4_4 i8 w ⟨rfl, rfl, hp, h⟩
      replace hp := hq i8 hp
      unfold embrasureref08_Nat_put_j2
      replace h := h.drew
      refine ⟨fun w => Mem (cel b_1 58 [(Value.int .u32 Box), (Value.int .i64 Box_1), (Value.int .i64 Box_2), (Value.int .i64 Box_3), (Value.int .i64 Box_4), (Value.int .i64 Box_5), (Value.int .i64 Box_6), (Value.slice p_1 L.length c_1), (Value.int .i64 Now)] :: cel b_2 51 [(Value.int .u32 b_In), (Value.int .i64 b_In_1), (Value.int .u32 b_To), (Value.int .i64 b_To_1), (Value.int .i64 port7), (Value.int .i64 b_Until), (Value.bool b_Asked)] :: FL) w, (h.sel [1, 0] 1), ?_⟩
      refine ⟨_, rfl, ?_⟩
      refine ⟨_, _, _, cellL h 1 7 rfl rfl rfl, ?_⟩
      refine ⟨?_, ?_⟩
      · intro w h
        change Mem _ _ at h
        refine ⟨_, _, _, cellL h 0 7 rfl rfl rfl, ?_⟩
        exact ⟨rfl, rfl⟩
      obtain ⟨g_1ha, g_1hb, hp⟩ := hp
      have vg_1_lh : 0 ≤ (Int.toNat i8) := (Nat.zero_le _)
      have vg_1_hm : (Int.toNat i8) ≤ c_1 := (Nat.le_trans (natLe g_1ha g_1hb) cpp_1)
      have vg_1_mc : c_1 ≤ c_1 := (Nat.le_refl _)
      have vg_1_hl : (Int.toNat i8) ≤ L.length := (leLen g_1ha g_1hb rfl)
      refine ⟨g_1ha, (leCap g_1hb cpp_1), ?_⟩
      refine ⟨_, cellL h 0 0 rfl rfl rfl, _, cellL h 0 1 rfl rfl rfl, _, cellL h 0 2 rfl rfl rfl, _, cellL h 0 3 rfl rfl rfl, _, cellL h 0 4 rfl rfl rfl, _, cellL h 0 5 rfl rfl rfl, _, cellL h 0 6 rfl rfl rfl, ?_⟩
      refine ⟨?_, ?_⟩
      · intro w h
        change Mem _ _ at h
        refine ⟨_, cellL h 1 0 rfl rfl rfl, _, cellL h 1 1 rfl rfl rfl, _, cellL h 1 2 rfl rfl rfl, _, cellL h 1 3 rfl rfl rfl, _, cellL h 1 4 rfl rfl rfl, _, cellL h 1 5 rfl rfl rfl, _, cellL h 1 6 rfl rfl rfl, ?_⟩
        exact ⟨rfl, rfl⟩
      refine ⟨_, rfl, ?_⟩
      refine ⟨_, _, _, cellL h 1 7 rfl rfl rfl, ?_⟩
      refine ⟨?_, ?_⟩
      · intro w h
        change Mem _ _ at h
        refine ⟨_, _, _, cellL h 0 7 rfl rfl rfl, ?_⟩
        exact ⟨rfl, rfl⟩
      obtain ⟨g_2la, g_2lb, hp⟩ := hp
      have vg_2_lh : (Int.toNat i8) ≤ L.length := (natLe g_2la g_2lb)
      have vg_2_hm : L.length ≤ c_1 := cpp_1
      have vg_2_mc : c_1 ≤ c_1 := (Nat.le_refl _)
      have vg_2_hl : L.length ≤ L.length := (Nat.le_of_eq rfl)
      refine ⟨g_2la, g_2lb, ?_⟩
      refine ⟨?_, ?_⟩
      · replace hp := hp.1
        refine newL (o := []) h ?_
        intro b_3 w h
        refine ⟨(h.sel [2, 1] 2), ?_⟩
        refine ⟨?_, ?_⟩
        · replace hp := hp.1
          have sr := (Rd.view (rowRd h 3 encL84 rfl) (l := 0) (h := (Int.toNat i8)) (m := c_1) vg_1_hm)
          replace h := rowOfCel h 0 encL84 rfl ([] : List (Int × Int × Int × Int × Int × Int × Bool × (Option Addr × Nat × Nat))) rfl
          dsimp only [setH, setVs, setV] at h
          obtain ⟨hb, hp⟩ := hp
          refine appendL slt56 und56 encL84 encO84 h 0 rfl rfl sr (viewLen vg_1_hl) hb ?_
          intro p_3 c_3 w h
          dsimp only [setH, setVs, setV] at h
          have cpp_3 := rowCap h 0 rfl
          refine ⟨_, _, _, rfl, ?_⟩
          refine ⟨(h.sel [2, 1] 2), ?_⟩
          refine newL (o := [(Value.int .u32 b_In), (Value.int .i64 b_In_1), (Value.int .u32 b_To), (Value.int .i64 b_To_1), (Value.int .i64 port7), (Value.int .i64 b_Until), (Value.bool b_Asked), (Value.slice none 0 0)]) h ?_
          intro b_4 w h
          refine ⟨(h.sel [3, 2] 3), ?_⟩
          have sr_1 := (celRd h 0 encL84 rfl [(b_In, b_In_1, b_To, b_To_1, port7, b_Until, b_Asked, ((none, 0, 0) : Option Addr × Nat × Nat))] rfl)
          obtain ⟨hb, hp⟩ := hp
          refine appendL slt56 und56 encL84 encO84 h 1 rfl rfl sr_1 rfl hb ?_
          intro p_4 c_4 w h
          dsimp only [setH, setVs, setV] at h
          have cpp_4 := rowCap h 1 rfl
          refine ⟨_, _, _, rfl, ?_⟩
          refine ⟨(h.sel [3, 2] 3), ?_⟩
          have sr_2 := (Rd.view (rowRd h 4 encL84 rfl) (l := (Int.toNat i8)) (h := L.length) (m := c_1) vg_2_hm)
          obtain ⟨hb, hp⟩ := hp
          refine appendL slt56 und56 encL84 encO84 h 1 rfl rfl sr_2 (viewLen vg_2_hl) hb ?_
          intro p_5 c_5 w h
          dsimp only [setH, setVs, setV] at h
          have cpp_5 := rowCap h 1 rfl
          refine ⟨_, _, _, rfl, ?_⟩
          refine ⟨_, rfl, ?_⟩
          refine storeL (ys := [(Value.slice p_5 (((([] : List (Int × Int × Int × Int × Int × Int × Bool × (Option Addr × Nat × Nat))) ++ ((L.take (Int.toNat i8)).drop 0)) ++ [(b_In, b_In_1, b_To, b_To_1, port7, b_Until, b_Asked, ((none, 0, 0) : Option Addr × Nat × Nat))]) ++ ((L.take L.length).drop (Int.toNat i8))).length c_5)]) h 3 7 rfl rfl rfl sz56 rfl rfl ?_
          intro w h
          dsimp only [setH, setVs, setV] at h
          replace h := h.sel [3, 1] 3
          dsimp only [pickL, pickR, nthH, delH, dropH, List.cons_append, List.nil_append] at h
          exact hR i8 (((([] : List (Int × Int × Int × Int × Int × Int × Bool × (Option Addr × Nat × Nat))) ++ ((L.take (Int.toNat i8)).drop 0)) ++ [(b_In, b_In_1, b_To, b_To_1, port7, b_Until, b_Asked, ((none, 0, 0) : Option Addr × Nat × Nat))]) ++ ((L.take L.length).drop (Int.toNat i8))) p_5 ((((([] : List (Int × Int × Int × Int × Int × Int × Bool × (Option Addr × Nat × Nat))) ++ ((L.take (Int.toNat i8)).drop 0)) ++ [(b_In, b_In_1, b_To, b_To_1, port7, b_Until, b_Asked, ((none, 0, 0) : Option Addr × Nat × Nat))]) ++ ((L.take L.length).drop (Int.toNat i8))).length) c_5 _ rfl h hp
        replace hp := hp.2
        refine newL (o := [(Value.int .u32 b_In), (Value.int .i64 b_In_1), (Value.int .u32 b_To), (Value.int .i64 b_To_1), (Value.int .i64 port7), (Value.int .i64 b_Until), (Value.bool b_Asked), (Value.slice none 0 0)]) h ?_
        intro b_5 w h
        refine ⟨(h.sel [3, 2] 3), ?_⟩
        have sr_3 := (Rd.view (rowRd h 4 encL84 rfl) (l := 0) (h := (Int.toNat i8)) (m := c_1) vg_1_hm)
        replace h := rowOfCel h 1 encL84 rfl ([] : List (Int × Int × Int × Int × Int × Int × Bool × (Option Addr × Nat × Nat))) rfl
        dsimp only [setH, setVs, setV] at h
        obtain ⟨hb, hp⟩ := hp
        refine appendL slt56 und56 encL84 encO84 h 1 rfl rfl sr_3 (viewLen vg_1_hl) hb ?_
        intro p_6 c_6 w h
        dsimp only [setH, setVs, setV] at h
        have cpp_6 := rowCap h 1 rfl
        refine ⟨_, _, _, rfl, ?_⟩
        refine ⟨(h.sel [3, 2] 3), ?_⟩
        have sr_4 := (celRd h 0 encL84 rfl [(b_In, b_In_1, b_To, b_To_1, port7, b_Until, b_Asked, ((none, 0, 0) : Option Addr × Nat × Nat))] rfl)
        obtain ⟨hb, hp⟩ := hp
        refine appendL slt56 und56 encL84 encO84 h 1 rfl rfl sr_4 rfl hb ?_
        intro p_7 c_7 w h
        dsimp only [setH, setVs, setV] at h
        have cpp_7 := rowCap h 1 rfl
        refine ⟨_, _, _, rfl, ?_⟩
        refine ⟨(h.sel [3, 2] 3), ?_⟩
        have sr_5 := (Rd.view (rowRd h 4 encL84 rfl) (l := (Int.toNat i8)) (h := L.length) (m := c_1) vg_2_hm)
        obtain ⟨hb, hp⟩ := hp
        refine appendL slt56 und56 encL84 encO84 h 1 rfl rfl sr_5 (viewLen vg_2_hl) hb ?_
        intro p_8 c_8 w h
        dsimp only [setH, setVs, setV] at h
        have cpp_8 := rowCap h 1 rfl
        refine ⟨_, _, _, rfl, ?_⟩
        refine ⟨_, rfl, ?_⟩
        refine storeL (ys := [(Value.slice p_8 (((([] : List (Int × Int × Int × Int × Int × Int × Bool × (Option Addr × Nat × Nat))) ++ ((L.take (Int.toNat i8)).drop 0)) ++ [(b_In, b_In_1, b_To, b_To_1, port7, b_Until, b_Asked, ((none, 0, 0) : Option Addr × Nat × Nat))]) ++ ((L.take L.length).drop (Int.toNat i8))).length c_8)]) h 3 7 rfl rfl rfl sz56 rfl rfl ?_
        intro w h
        dsimp only [setH, setVs, setV] at h
        replace h := h.sel [3, 1] 3
        dsimp only [pickL, pickR, nthH, delH, dropH, List.cons_append, List.nil_append] at h
        exact hR i8 (((([] : List (Int × Int × Int × Int × Int × Int × Bool × (Option Addr × Nat × Nat))) ++ ((L.take (Int.toNat i8)).drop 0)) ++ [(b_In, b_In_1, b_To, b_To_1, port7, b_Until, b_Asked, ((none, 0, 0) : Option Addr × Nat × Nat))]) ++ ((L.take L.length).drop (Int.toNat i8))) p_8 ((((([] : List (Int × Int × Int × Int × Int × Int × Bool × (Option Addr × Nat × Nat))) ++ ((L.take (Int.toNat i8)).drop 0)) ++ [(b_In, b_In_1, b_To, b_To_1, port7, b_Until, b_Asked, ((none, 0, 0) : Option Addr × Nat × Nat))]) ++ ((L.take L.length).drop (Int.toNat i8))).length) c_8 _ rfl h hp
      replace hp := hp.2
      refine newL (o := [(Value.int .u32 b_In), (Value.int .i64 b_In_1), (Value.int .u32 b_To), (Value.int .i64 b_To_1), (Value.int .i64 port7), (Value.int .i64 b_Until), (Value.bool b_Asked), (Value.slice none 0 0)]) h ?_
      intro b_6 w h
      refine ⟨(h.sel [2, 1] 2), ?_⟩
      refine newL (o := []) h ?_
      intro b_7 w h
      refine ⟨(h.sel [3, 2] 3), ?_⟩
      have sr_6 := (Rd.view (rowRd h 4 encL84 rfl) (l := 0) (h := (Int.toNat i8)) (m := c_1) vg_1_hm)
      replace h := rowOfCel h 0 encL84 rfl ([] : List (Int × Int × Int × Int × Int × Int × Bool × (Option Addr × Nat × Nat))) rfl
      dsimp only [setH, setVs, setV] at h
      obtain ⟨hb, hp⟩ := hp
      refine appendL slt56 und56 encL84 encO84 h 0 rfl rfl sr_6 (viewLen vg_1_hl) hb ?_
      intro p_9 c_9 w h
      dsimp only [setH, setVs, setV] at h
      have cpp_9 := rowCap h 0 rfl
      refine ⟨_, _, _, rfl, ?_⟩
      refine ⟨(h.sel [3, 2] 3), ?_⟩
      have sr_7 := (celRd h 1 encL84 rfl [(b_In, b_In_1, b_To, b_To_1, port7, b_Until, b_Asked, ((none, 0, 0) : Option Addr × Nat × Nat))] rfl)
      obtain ⟨hb, hp⟩ := hp
      refine appendL slt56 und56 encL84 encO84 h 0 rfl rfl sr_7 rfl hb ?_
      intro p_10 c_10 w h
      dsimp only [setH, setVs, setV] at h
      have cpp_10 := rowCap h 0 rfl
      refine ⟨_, _, _, rfl, ?_⟩
      refine ⟨(h.sel [3, 2] 3), ?_⟩
      have sr_8 := (Rd.view (rowRd h 4 encL84 rfl) (l := (Int.toNat i8)) (h := L.length) (m := c_1) vg_2_hm)
      obtain ⟨hb, hp⟩ := hp
      refine appendL slt56 und56 encL84 encO84 h 0 rfl rfl sr_8 (viewLen vg_2_hl) hb ?_
      intro p_11 c_11 w h
      dsimp only [setH, setVs, setV] at h
      have cpp_11 := rowCap h 0 rfl
      refine ⟨_, _, _, rfl, ?_⟩
      refine ⟨_, rfl, ?_⟩
      refine storeL (ys := [(Value.slice p_11 (((([] : List (Int × Int × Int × Int × Int × Int × Bool × (Option Addr × Nat × Nat))) ++ ((L.take (Int.toNat i8)).drop 0)) ++ [(b_In, b_In_1, b_To, b_To_1, port7, b_Until, b_Asked, ((none, 0, 0) : Option Addr × Nat × Nat))]) ++ ((L.take L.length).drop (Int.toNat i8))).length c_11)]) h 3 7 rfl rfl rfl sz56 rfl rfl ?_
      intro w h
      dsimp only [setH, setVs, setV] at h
      replace h := h.sel [3, 0] 3
      dsimp only [pickL, pickR, nthH, delH, dropH, List.cons_append, List.nil_append] at h
      exact hR i8 (((([] : List (Int × Int × Int × Int × Int × Int × Bool × (Option Addr × Nat × Nat))) ++ ((L.take (Int.toNat i8)).drop 0)) ++ [(b_In, b_In_1, b_To, b_To_1, port7, b_Until, b_Asked, ((none, 0, 0) : Option Addr × Nat × Nat))]) ++ ((L.take L.length).drop (Int.toNat i8))) p_11 ((((([] : List (Int × Int × Int × Int × Int × Int × Bool × (Option Addr × Nat × Nat))) ++ ((L.take (Int.toNat i8)).drop 0)) ++ [(b_In, b_In_1, b_To, b_To_1, port7, b_Until, b_Asked, ((none, 0, 0) : Option Addr × Nat × Nat))]) ++ ((L.take L.length).drop (Int.toNat i8))).length) c_11 _ rfl h hp
    clear hq
    obtain ⟨I_1, ⟨n_7, h0⟩, hq⟩ := hp
    refine ⟨fun n_5 n0_5 b4_5 port7_4 i8_1 w => (some (Addr.mk b_1 0 none)) = n0_5 ∧ (Addr.mk b_2 0 none) = b4_5 ∧ port7 = port7_4 ∧ I_1 n_5 i8_1 ∧ Mem (cel b_2 51 [(Value.int .u32 b_In), (Value.int .i64 b_In_1), (Value.int .u32 b_To), (Value.int .i64 b_To_1), (Value.int .i64 port7), (Value.int .i64 b_Until), (Value.bool b_Asked)] :: cel b_1 58 [(Value.int .u32 Box), (Value.int .i64 Box_1), (Value.int .i64 Box_2), (Value.int .i64 Box_3), (Value.int .i64 Box_4), (Value.int .i64 Box_5), (Value.int .i64 Box_6), (Value.slice p_1 L.length c_1), (Value.int .i64 Now)] :: row enc84 84 8 p_1 c_1 L :: FL) w, ⟨n_7, rfl, rfl, rfl, h0, h⟩, ?_⟩
    clear h0 h
    rintro n_5 n0_5 b4_5 port7_4 i8_1 w ⟨rfl, rfl, rfl, hp, h⟩
    replace hp := hq n_5 i8_1 hp
    clear hq
    unfold embrasureref08_Nat_put_l3
    obtain ⟨Q_4, hq, hp⟩ := hp
    refine ⟨fun n0_6 b4_6 port7_5 i8_2 t73 w => (some (Addr.mk b_1 0 none)) = n0_6 ∧ (Addr.mk b_2 0 none) = b4_6 ∧ port7 = port7_5 ∧ i8_1 = i8_2 ∧ Q_4 t73 ∧ Mem (cel b_2 51 [(Value.int .u32 b_In), (Value.int .i64 b_In_1), (Value.int .u32 b_To), (Value.int .i64 b_To_1), (Value.int .i64 port7), (Value.int .i64 b_Until), (Value.bool b_Asked)] :: cel b_1 58 [(Value.int .u32 Box), (Value.int .i64 Box_1), (Value.int .i64 Box_2), (Value.int .i64 Box_3), (Value.int .i64 Box_4), (Value.int .i64 Box_5), (Value.int .i64 Box_6), (Value.slice p_1 L.length c_1), (Value.int .i64 Now)] :: row enc84 84 8 p_1 c_1 L :: FL) w, ?_, ?_⟩
    · rintro n0_6 b4_6 port7_5 i8_2 t73 w ⟨rfl, rfl, rfl, rfl, hp, h⟩
      replace hp := hq t73 hp
      unfold embrasureref08_Nat_put_j4
      refine cond_both' hp (fun hp => ?_) (fun hp => ?_)
      · exact ⟨rfl, rfl, hp, h⟩
      obtain ⟨n_6, hn, hp⟩ := hp
      exact ⟨n_6, hn, rfl, rfl, rfl, hp, h⟩
    clear hq
    refine ⟨_, rfl, ?_⟩
    refine ⟨_, _, _, cellL h 1 7 rfl rfl rfl, ?_⟩
    refine cond_both' hp (fun hp => ?_) (fun hp => ?_)
    · exact ⟨rfl, rfl, rfl, rfl, hp, h⟩
    refine ⟨_, rfl, ?_⟩
    refine ⟨_, _, _, cellL h 1 7 rfl rfl rfl, ?_⟩
    obtain ⟨ia_1, ja_1, hp⟩ := hp
    obtain ⟨a_1, ha_1⟩ := rdAddr (rowRd h 2 encL84 rfl) rfl ia_1 ja_1
    refine ⟨a_1, ha_1, ia_1, ja_1, ?_⟩
    obtain ⟨x_1, hx_1, hc⟩ := rdCell2 (rowRd h 2 encL84 rfl) ha_1 rfl ia_1 ja_1
    replace hp := hp x_1 hx_1
    refine ⟨_, hc 0 4 _ rfl, ?_⟩
    exact ⟨rfl, rfl, rfl, rfl, hp, h⟩
  clear hq
  replace h := h.pick [1, 1]
  dsimp only [pickL, pickR, nthH, delH, dropH, List.cons_append, List.nil_append] at h
  refine embrasureref08_Nat_free_ok h hp ?_
  intro r w h hp
  have cpp_1 := rowCap h 1 rfl
  refine ⟨_, rfl, ?_⟩
  refine cond_both' hp (fun hp => ?_) (fun hp => ?_)
  · replace h := h.sel [2, 0, 0] 0
    dsimp only [pickL, pickR, nthH, delH, dropH, List.cons_append, List.nil_append] at h
    exact ⟨rfl, rfl, hp, h⟩
  refine ⟨_, rfl, ?_⟩
  refine ⟨_, cellL h 0 1 rfl rfl rfl, ?_⟩
  obtain ⟨Q_1, hq, hp⟩ := hp
  refine ⟨fun n0_1 b4_1 port7_1 w => (some (Addr.mk b_1 0 none)) = n0_1 ∧ (Addr.mk b_2 0 none) = b4_1 ∧ Q_1 port7_1 ∧ Mem (cel b_1 58 [(Value.int .u32 Box), (Value.int .i64 Box_1), (Value.int .i64 Box_2), (Value.int .i64 Box_3), (Value.int .i64 Box_4), (Value.int .i64 Box_5), (Value.int .i64 Box_6), (Value.slice p_1 L.length c_1), (Value.int .i64 Now)] :: row enc84 84 8 p_1 c_1 L :: cel b_2 51 [(Value.int .u32 b_In), (Value.int .i64 b_In_1), (Value.int .u32 b_To), (Value.int .i64 b_To_1), (Value.int .i64 b_Port), (Value.int .i64 b_Until), (Value.bool b_Asked)] :: FL) w, ?_, ?_⟩
  · rintro n0_1 b4_1 port7_1 w ⟨rfl, rfl, hp, h⟩
    replace hp := hq port7_1 hp
    unfold embrasureref08_Nat_put_j5
    refine ⟨_, rfl, ?_⟩
    refine ⟨_, cellL h 0 2 rfl rfl rfl, ?_⟩
    refine cond_both hp (fun hp => ?_) (fun hp => ?_)
    · replace h := h.sel [0, 0] 1
      dsimp only [pickL, pickR, nthH, delH, dropH, List.cons_append, List.nil_append] at h
      exact hR (-1) L p_1 L.length c_1 _ rfl h hp
    replace h := h.sel [2, 0, 0] 0
    dsimp only [pickL, pickR, nthH, delH, dropH, List.cons_append, List.nil_append] at h
    exact ⟨rfl, rfl, hp, h⟩
  clear hq
  obtain ⟨I, ⟨n_4, h0⟩, hq⟩ := hp
  refine ⟨fun n_2 n0_2 b4_2 port7_2 w => (some (Addr.mk b_1 0 none)) = n0_2 ∧ (Addr.mk b_2 0 none) = b4_2 ∧ I n_2 port7_2 ∧ Mem (cel b_1 58 [(Value.int .u32 Box), (Value.int .i64 Box_1), (Value.int .i64 Box_2), (Value.int .i64 Box_3), (Value.int .i64 Box_4), (Value.int .i64 Box_5), (Value.int .i64 Box_6), (Value.slice p_1 L.length c_1), (Value.int .i64 Now)] :: row enc84 84 8 p_1 c_1 L :: cel b_2 51 [(Value.int .u32 b_In), (Value.int .i64 b_In_1), (Value.int .u32 b_To), (Value.int .i64 b_To_1), (Value.int .i64 b_Port), (Value.int .i64 b_Until), (Value.bool b_Asked)] :: FL) w, ⟨n_4, rfl, rfl, h0, h⟩, ?_⟩
  clear h0 h
  rintro n_2 n0_2 b4_2 port7_2 w ⟨rfl, rfl, hp, h⟩
  replace hp := hq n_2 port7_2 hp
  clear hq
  unfold embrasureref08_Nat_put_l6
  obtain ⟨Q_2, hq, hp⟩ := hp
  refine ⟨fun n0_3 b4_3 port7_3 t42 w => (some (Addr.mk b_1 0 none)) = n0_3 ∧ (Addr.mk b_2 0 none) = b4_3 ∧ port7_2 = port7_3 ∧ Q_2 t42 ∧ Mem (cel b_1 58 [(Value.int .u32 Box), (Value.int .i64 Box_1), (Value.int .i64 Box_2), (Value.int .i64 Box_3), (Value.int .i64 Box_4), (Value.int .i64 Box_5), (Value.int .i64 Box_6), (Value.slice p_1 L.length c_1), (Value.int .i64 Now)] :: row enc84 84 8 p_1 c_1 L :: cel b_2 51 [(Value.int .u32 b_In), (Value.int .i64 b_In_1), (Value.int .u32 b_To), (Value.int .i64 b_To_1), (Value.int .i64 b_Port), (Value.int .i64 b_Until), (Value.bool b_Asked)] :: FL) w, ?_, ?_⟩
  · rintro n0_3 b4_3 port7_3 t42 w ⟨rfl, rfl, rfl, hp, h⟩
    replace hp := hq t42 hp
    unfold embrasureref08_Nat_put_j7
    refine cond_both' hp (fun hp => ?_) (fun hp => ?_)
    · exact ⟨rfl, rfl, hp, h⟩
    obtain ⟨n_3, hn, hp⟩ := hp
    exact ⟨n_3, hn, rfl, rfl, hp, h⟩
  clear hq
  refine ⟨_, rfl, ?_⟩
  refine ⟨_, cellL h 0 2 rfl rfl rfl, ?_⟩
  refine cond_both' hp (fun hp => ?_) (fun hp => ?_)
  · exact ⟨rfl, rfl, rfl, hp, h⟩
  refine embrasureref08_Nat_free_ok h hp ?_
  intro r_1 w h hp
  have cpp_1 := rowCap h 1 rfl
  refine ⟨_, rfl, ?_⟩
  exact ⟨rfl, rfl, rfl, hp, h⟩

/-! (*embrasure/embrasureref08.Nat).Out (19) -/
def embrasureref08_Nat_Out_wp (Box : Int) (Box_1 : Int) (Box_2 : Int) (Box_3 : Int) (Box_4 : Int) (Box_5 : Int) (Box_6 : Int) (L : List (Int × Int × Int × Int × Int × Int × Bool × (Option Addr × Nat × Nat))) (Now : Int) (now : Int) (in_Host : Int) (in_Port : Int) (to_Host : Int) (to_Port : Int) (m_1 : List ((Option Addr × Nat × Nat) × List (Int × Int))) (K : Int → Int → Int → List (Int × Int × Int × Int × Int × Int × Bool × (Option Addr × Nat × Nat)) → Int → List ((Option Addr × Nat × Nat) × List (Int × Int)) → Prop) : Prop :=
  joinP3 (fun (L_2 : List (Int × Int × Int × Int × Int × Int × Bool × (Option Addr × Nat × Nat))) (Now_2 : Int) (t27 : Bool) => cond t27 (K 0 0 1 L_2 Now_2 m_1) (embrasureref08_Nat_find_wp Box Box_1 Box_2 Box_3 Box_4 Box_5 Box_6 L_2 Now_2 in_Host in_Port true to_Host to_Port (fun (r_3 : Int) => joinP1 (fun (i10 : Int) => joinP2 (fun (L_4 : List (Int × Int × Int × Int × Int × Int × Bool × (Option Addr × Nat × Nat))) (i10_1 : Int) => cond (decide ((i10_1 : Int) < 0)) (K 0 0 10 L_4 Now_2 m_1) (0 ≤ (i10_1 : Int) ∧ (i10_1 : Int) < ((L_4.length : Nat) : Int) ∧ (∀ (x_1 : Int × Int × Int × Int × Int × Int × Bool × (Option Addr × Nat × Nat)), L_4[Int.toNat i10_1]? = some x_1 → (joinP1 (fun (B : Int) => joinP1 (fun (seen : List (Int × Int)) => (seen.length + [(to_Host, to_Port)].length) * 16 ≤ 140737488355328 ∧ (joinP1 (fun (seen_2 : List (Int × Int)) => 0 ≤ (i10_1 : Int) ∧ (i10_1 : Int) < ((L_4.length : Nat) : Int) ∧ (∀ (hd : Option Addr × Nat × Nat), hd.2.1 = seen_2.length → (K Box x_1.2.2.2.2.1 0 (List.set L_4 (Int.toNat i10_1) (x_1.1, x_1.2.1, x_1.2.2.1, x_1.2.2.2.1, x_1.2.2.2.2.1, B, x_1.2.2.2.2.2.2.1, hd)) Now_2 (m_1 ++ [(hd, seen_2)])))) (fun (Q_5 : List (Int × Int) → Prop) => cond (decide (((((seen ++ [(to_Host, to_Port)]).length : Nat) : Int) : Int) > 16)) (0 ≤ (1 : Int) ∧ (1 : Int) ≤ (((seen ++ [(to_Host, to_Port)]).length : Nat) : Int) ∧ (Q_5 (((seen ++ [(to_Host, to_Port)]).take (seen ++ [(to_Host, to_Port)]).length).drop (Int.toNat 1)))) (Q_5 (seen ++ [(to_Host, to_Port)]))))) (fun (Q_4 : List (Int × Int) → Prop) => ∃ (I : Nat → List (Int × Int) → Int → Prop), (∃ (n_9 : Nat), I n_9 ([] : List (Int × Int)) 0) ∧ ∀ (n_6 : Nat) (seen_1 : List (Int × Int)) (k13 : Int), I n_6 seen_1 k13 → (cond (decide ((k13 : Int) < ((x_1.2.2.2.2.2.2.2.2.1 : Nat) : Int))) (∃ (xs : List (Int × Int)), PH m_1 x_1.2.2.2.2.2.2.2 xs ∧ (0 ≤ (k13 : Int) ∧ (k13 : Int) < ((x_1.2.2.2.2.2.2.2.2.1 : Nat) : Int) ∧ (∀ (x_2 : Int × Int), xs[Int.toNat k13]? = some x_2 → (cond (!(((x_2.1 : Int) == to_Host) && (((x_2.2 : Int) == to_Port) && true))) (∃ (xs_1 : List (Int × Int)), PH m_1 x_1.2.2.2.2.2.2.2 xs_1 ∧ (0 ≤ (k13 : Int) ∧ (k13 : Int) < ((x_1.2.2.2.2.2.2.2.2.1 : Nat) : Int) ∧ (∀ (x_3 : Int × Int), xs_1[Int.toNat k13]? = some x_3 → ((seen_1.length + [x_3].length) * 16 ≤ 140737488355328 ∧ (∃ (n_7 : Nat), n_7 < n_6 ∧ I n_7 (seen_1 ++ [x_3]) (IntKind.wrap .i64 (k13 + 1))))))) (∃ (n_8 : Nat), n_8 < n_6 ∧ I n_8 seen_1 (IntKind.wrap .i64 (k13 + 1))))))) (Q_4 seen_1)))) (fun (Q_3 : Int → Prop) => cond (!x_1.2.2.2.2.2.2.1) (cond (decide (((IntKind.wrap .i64 (now + Box_5)) : Int) > 1099511627776)) (Q_3 1099511627776) (Q_3 (IntKind.wrap .i64 (now + Box_5)))) (Q_3 x_1.2.2.2.2.2.1)))))) (fun (Q_2 : List (Int × Int × Int × Int × Int × Int × Bool × (Option Addr × Nat × Nat)) → Int → Prop) => cond (decide ((i10 : Int) < 0)) (embrasureref08_Nat_key_wp Box Box_1 Box_2 Box_3 Box_4 Box_5 Box_6 Now_2 to_Host to_Port (fun (r_7 : Int) (r_8 : Int) => embrasureref08_Nat_put_wp Box Box_1 Box_2 Box_3 Box_4 Box_5 Box_6 L_2 Now_2 in_Host in_Port r_7 r_8 0 0 false in_Port (fun (r_9 : Int) (L_5 : List (Int × Int × Int × Int × Int × Int × Bool × (Option Addr × Nat × Nat))) => Q_2 L_5 r_9))) (Q_2 L_2 i10))) (fun (Q_1 : Int → Prop) => cond (decide ((r_3 : Int) < 0)) (embrasureref08_Nat_key_wp Box Box_1 Box_2 Box_3 Box_4 Box_5 Box_6 Now_2 to_Host to_Port (fun (r_4 : Int) (r_5 : Int) => embrasureref08_Nat_find_wp Box Box_1 Box_2 Box_3 Box_4 Box_5 Box_6 L_2 Now_2 in_Host in_Port false r_4 r_5 (fun (r_6 : Int) => Q_1 r_6))) (Q_1 r_3))))) (fun (Q : List (Int × Int × Int × Int × Int × Int × Bool × (Option Addr × Nat × Nat)) → Int → Bool → Prop) => embrasureref03_May_wp in_Host in_Port (fun (r : Bool) => cond (!r) (Q L Now true) (embrasureref03_May_wp to_Host to_Port (fun (r_1 : Bool) => cond (!r_1) (Q L Now true) (embrasureref08_Nat_on_wp Box Box_1 Box_2 Box_3 Box_4 Box_5 Box_6 L Now now (fun (r_2 : Bool) (L_3 : List (Int × Int × Int × Int × Int × Int × Bool × (Option Addr × Nat × Nat))) (Now_3 : Int) => Q L_3 Now_3 (!r_2)))))))
theorem embrasureref08_Nat_Out_ok {b_1 : Nat} {p_1 : Option Addr} {c_1 : Nat} {Box : Int} {Box_1 : Int} {Box_2 : Int} {Box_3 : Int} {Box_4 : Int} {Box_5 : Int} {Box_6 : Int} {L : List (Int × Int × Int × Int × Int × Int × Bool × (Option Addr × Nat × Nat))} {Now : Int} {now : Int} {in_Host : Int} {in_Port : Int} {to_Host : Int} {to_Port : Int} {m_1 : List ((Option Addr × Nat × Nat) × List (Int × Int))} {FL : List HP} {w : World} {K : Int → Int → Int → List (Int × Int × Int × Int × Int × Int × Bool × (Option Addr × Nat × Nat)) → Int → List ((Option Addr × Nat × Nat) × List (Int × Int)) → Prop} {R : Value → World → Prop}
  (h : Mem (cel b_1 58 [(Value.int .u32 Box), (Value.int .i64 Box_1), (Value.int .i64 Box_2), (Value.int .i64 Box_3), (Value.int .i64 Box_4), (Value.int .i64 Box_5), (Value.int .i64 Box_6), (Value.slice p_1 L.length c_1), (Value.int .i64 Now)] :: row enc84 84 8 p_1 c_1 L :: poolP enc24 24 2 m_1 :: FL) w) (hp : embrasureref08_Nat_Out_wp Box Box_1 Box_2 Box_3 Box_4 Box_5 Box_6 L Now now in_Host in_Port to_Host to_Port m_1 K)
  (hR : ∀ (r : Int) (r_1 : Int) (r_2 : Int) (L_1 : List (Int × Int × Int × Int × Int × Int × Bool × (Option Addr × Nat × Nat))) (Now_1 : Int) (m_2 : List ((Option Addr × Nat × Nat) × List (Int × Int))) (p_2 : Option Addr) (n_1 : Nat) (c_2 : Nat) (w : World), n_1 = L_1.length → Mem (cel b_1 58 [(Value.int .u32 Box), (Value.int .i64 Box_1), (Value.int .i64 Box_2), (Value.int .i64 Box_3), (Value.int .i64 Box_4), (Value.int .i64 Box_5), (Value.int .i64 Box_6), (Value.slice p_2 n_1 c_2), (Value.int .i64 Now_1)] :: row enc84 84 8 p_2 c_2 L_1 :: poolP enc24 24 2 m_2 :: FL) w → K r r_1 r_2 L_1 Now_1 m_2 → R (Value.tuple #[(Value.agg #[(Value.int .u32 r), (Value.int .i64 r_1)]), (Value.int .i64 r_2)]) w) :
  CallV Try.prog 19 #[(Value.pointer (some (Addr.mk b_1 0 none))), (Value.int .i64 now), (Value.agg #[(Value.int .u32 in_Host), (Value.int .i64 in_Port)]), (Value.agg #[(Value.int .u32 to_Host), (Value.int .i64 to_Port)])] w R := by
  refine embrasureref08_Nat_Out_call ?_
  unfold embrasureref08_Nat_Out
  unfold embrasureref08_Nat_Out_wp at hp
  have cpp_1 := rowCap h 1 rfl
  refine newL (o := [(Value.int .u32 in_Host), (Value.int .i64 in_Port)]) h ?_
  intro b_2 w h
  refine newL (o := [(Value.int .u32 to_Host), (Value.int .i64 to_Port)]) h ?_
  intro b_3 w h
  refine newL (o := [(Value.int .u32 0), (Value.int .i64 0)]) h ?_
  intro b_4 w h
  obtain ⟨Q, hq, hp⟩ := hp
  refine ⟨fun n0 now1 in6 to7 t8 t27 w => ∃ (L_2 : List (Int × Int × Int × Int × Int × Int × Bool × (Option Addr × Nat × Nat))), ∃ (p_3 : Option Addr), ∃ (n_2 : Nat), ∃ (c_3 : Nat), ∃ (Now_2 : Int), (some (Addr.mk b_1 0 none)) = n0 ∧ now = now1 ∧ (Addr.mk b_2 0 none) = in6 ∧ (Addr.mk b_3 0 none) = to7 ∧ (Addr.mk b_4 0 none) = t8 ∧ n_2 = L_2.length ∧ Q L_2 Now_2 t27 ∧ Mem (cel b_4 24 [(Value.int .u32 0), (Value.int .i64 0)] :: cel b_3 24 [(Value.int .u32 to_Host), (Value.int .i64 to_Port)] :: cel b_2 24 [(Value.int .u32 in_Host), (Value.int .i64 in_Port)] :: cel b_1 58 [(Value.int .u32 Box), (Value.int .i64 Box_1), (Value.int .i64 Box_2), (Value.int .i64 Box_3), (Value.int .i64 Box_4), (Value.int .i64 Box_5), (Value.int .i64 Box_6), (Value.slice p_3 n_2 c_3), (Value.int .i64 Now_2)] :: row enc84 84 8 p_3 c_3 L_2 :: poolP enc24 24 2 m_1 :: FL) w, ?_, ?_⟩
  · rintro n0 now1 in6 to7 t8 t27 w ⟨L_2, p_3, n_2, c_3, Now_2, rfl, rfl, rfl, rfl, rfl, rfl, hp, h⟩
    replace hp := hq L_2 Now_2 t27 hp
    unfold embrasureref08_Nat_Out_j1
    have cpp_3 := rowCap h 4 rfl
    refine cond_both hp (fun hp => ?_) (fun hp => ?_)
    · refine storeL (ys := [(Value.int .u32 0), (Value.int .i64 0)]) h 0 0 rfl rfl rfl sz24 rfl rfl ?_
      intro w h
      dsimp only [setH, setVs, setV] at h
      refine ⟨_, cellL h 0 0 rfl rfl rfl, _, cellL h 0 1 rfl rfl rfl, ?_⟩
      replace h := h.sel [3, 3, 3] 3
      dsimp only [pickL, pickR, nthH, delH, dropH, List.cons_append, List.nil_append] at h
      exact hR 0 0 1 L_2 Now_2 m_1 p_3 L_2.length c_3 _ rfl h hp
    refine ⟨_, cellL h 2 0 rfl rfl rfl, _, cellL h 2 1 rfl rfl rfl, ?_⟩
    refine ⟨_, cellL h 1 0 rfl rfl rfl, _, cellL h 1 1 rfl rfl rfl, ?_⟩
    replace h := h.pick [3, 3]
    dsimp only [pickL, pickR, nthH, delH, dropH, List.cons_append, List.nil_append] at h
    refine embrasureref08_Nat_find_ok h hp ?_
    intro r_3 w h hp
    have cpp_3 := rowCap h 1 rfl
    refine ⟨_, rfl, ?_⟩
    obtain ⟨Q_1, hq, hp⟩ := hp
    refine ⟨fun n0_1 now1_1 in6_1 to7_1 t8_1 i10 w => (some (Addr.mk b_1 0 none)) = n0_1 ∧ now = now1_1 ∧ (Addr.mk b_2 0 none) = in6_1 ∧ (Addr.mk b_3 0 none) = to7_1 ∧ (Addr.mk b_4 0 none) = t8_1 ∧ Q_1 i10 ∧ Mem (cel b_1 58 [(Value.int .u32 Box), (Value.int .i64 Box_1), (Value.int .i64 Box_2), (Value.int .i64 Box_3), (Value.int .i64 Box_4), (Value.int .i64 Box_5), (Value.int .i64 Box_6), (Value.slice p_3 L_2.length c_3), (Value.int .i64 Now_2)] :: row enc84 84 8 p_3 c_3 L_2 :: cel b_4 24 [(Value.int .u32 0), (Value.int .i64 0)] :: cel b_3 24 [(Value.int .u32 to_Host), (Value.int .i64 to_Port)] :: cel b_2 24 [(Value.int .u32 in_Host), (Value.int .i64 in_Port)] :: poolP enc24 24 2 m_1 :: FL) w, ?_, ?_⟩
    · rintro n0_1 now1_1 in6_1 to7_1 t8_1 i10 w ⟨rfl, rfl, rfl, rfl, rfl, hp, h⟩
      replace hp := hq i10 hp
      unfold embrasureref08_Nat_Out_j2
      obtain ⟨Q_2, hq, hp⟩ := hp
      refine ⟨fun n0_2 now1_2 to7_2 t8_2 i10_1 w => ∃ (L_4 : List (Int × Int × Int × Int × Int × Int × Bool × (Option Addr × Nat × Nat))), ∃ (p_5 : Option Addr), ∃ (n_4 : Nat), ∃ (c_5 : Nat), (some (Addr.mk b_1 0 none)) = n0_2 ∧ now = now1_2 ∧ (Addr.mk b_3 0 none) = to7_2 ∧ (Addr.mk b_4 0 none) = t8_2 ∧ n_4 = L_4.length ∧ Q_2 L_4 i10_1 ∧ Mem (cel b_1 58 [(Value.int .u32 Box), (Value.int .i64 Box_1), (Value.int .i64 Box_2), (Value.int .i64 Box_3), (Value.int .i64 Box_4), (Value.int .i64 Box_5), (Value.int .i64 Box_6), (Value.slice p_5 n_4 c_5), (Value.int .i64 Now_2)] :: row enc84 84 8 p_5 c_5 L_4 :: cel b_4 24 [(Value.int .u32 0), (Value.int .i64 0)] :: cel b_3 24 [(Value.int .u32 to_Host), (Value.int .i64 to_Port)] :: cel b_2 24 [(Value.int .u32 in_Host), (Value.int .i64 in_Port)] :: poolP enc24 24 2 m_1 :: FL) w, ?_, ?_⟩
      · rintro n0_2 now1_2 to7_2 t8_2 i10_1 w ⟨L_4, p_5, n_4, c_5, rfl, rfl, rfl, rfl, rfl, hp, h⟩
        replace hp := hq L_4 i10_1 hp
        unfold embrasureref08_Nat_Out_j3
        have cpp_5 := rowCap h 1 rfl
        refine cond_both hp (fun hp => ?_) (fun hp => ?_)
        · refine storeL (ys := [(Value.int .u32 0), (Value.int .i64 0)]) h 2 0 rfl rfl rfl sz24 rfl rfl ?_
          intro w h
          dsimp only [setH, setVs, setV] at h
          refine ⟨_, cellL h 2 0 rfl rfl rfl, _, cellL h 2 1 rfl rfl rfl, ?_⟩
          replace h := h.sel [0, 0, 3] 3
          dsimp only [pickL, pickR, nthH, delH, dropH, List.cons_append, List.nil_append] at h
          exact hR 0 0 10 L_4 Now_2 m_1 p_5 L_4.length c_5 _ rfl h hp
        refine ⟨_, rfl, ?_⟩
        refine ⟨_, _, _, cellL h 0 7 rfl rfl rfl, ?_⟩
        obtain ⟨ia_1, ja_1, hp⟩ := hp
        obtain ⟨a_1, ha_1⟩ := rdAddr (rowRd h 1 encL84 rfl) rfl ia_1 ja_1
        refine ⟨a_1, ha_1, ia_1, ja_1, ?_⟩
        obtain ⟨x_1, hx_1, hc⟩ := rdCell (rowRd h 1 encL84 rfl) ha_1 rfl ia_1 ja_1
        replace hp := hp x_1 hx_1
        refine ⟨_, hc 0 _ rfl, _, hc 1 _ rfl, _, hc 2 _ rfl, _, hc 3 _ rfl, _, hc 4 _ rfl, _, hc 5 _ rfl, _, hc 6 _ rfl, _, _, _, hc 7 _ rfl, ?_⟩
        refine newL (o := [(Value.int .u32 0), (Value.int .i64 0), (Value.int .u32 0), (Value.int .i64 0), (Value.int .i64 0), (Value.int .i64 0), (Value.bool false), (Value.slice none 0 0)]) h ?_
        intro b_5 w h
        refine storeL (ys := [(Value.int .u32 x_1.1), (Value.int .i64 x_1.2.1), (Value.int .u32 x_1.2.2.1), (Value.int .i64 x_1.2.2.2.1), (Value.int .i64 x_1.2.2.2.2.1), (Value.int .i64 x_1.2.2.2.2.2.1), (Value.bool x_1.2.2.2.2.2.2.1), (Value.slice x_1.2.2.2.2.2.2.2.1 x_1.2.2.2.2.2.2.2.2.1 x_1.2.2.2.2.2.2.2.2.2)]) h 0 0 rfl rfl rfl sz84 rfl rfl ?_
        intro w h
        dsimp only [setH, setVs, setV] at h
        obtain ⟨Q_3, hq, hp⟩ := hp
        refine ⟨fun n0_3 to7_3 t8_3 i10_2 x11 w => ∃ (B : Int), (some (Addr.mk b_1 0 none)) = n0_3 ∧ (Addr.mk b_3 0 none) = to7_3 ∧ (Addr.mk b_4 0 none) = t8_3 ∧ i10_1 = i10_2 ∧ (Addr.mk b_5 0 none) = x11 ∧ Q_3 B ∧ Mem (cel b_5 84 [(Value.int .u32 x_1.1), (Value.int .i64 x_1.2.1), (Value.int .u32 x_1.2.2.1), (Value.int .i64 x_1.2.2.2.1), (Value.int .i64 x_1.2.2.2.2.1), (Value.int .i64 B), (Value.bool x_1.2.2.2.2.2.2.1), (Value.slice x_1.2.2.2.2.2.2.2.1 x_1.2.2.2.2.2.2.2.2.1 x_1.2.2.2.2.2.2.2.2.2)] :: cel b_1 58 [(Value.int .u32 Box), (Value.int .i64 Box_1), (Value.int .i64 Box_2), (Value.int .i64 Box_3), (Value.int .i64 Box_4), (Value.int .i64 Box_5), (Value.int .i64 Box_6), (Value.slice p_5 L_4.length c_5), (Value.int .i64 Now_2)] :: row enc84 84 8 p_5 c_5 L_4 :: cel b_4 24 [(Value.int .u32 0), (Value.int .i64 0)] :: cel b_3 24 [(Value.int .u32 to_Host), (Value.int .i64 to_Port)] :: cel b_2 24 [(Value.int .u32 in_Host), (Value.int .i64 in_Port)] :: poolP enc24 24 2 m_1 :: FL) w, ?_, ?_⟩
        · rintro n0_3 to7_3 t8_3 i10_2 x11 w ⟨B, rfl, rfl, rfl, rfl, rfl, hp, h⟩
          replace hp := hq B hp
          unfold embrasureref08_Nat_Out_j4
          obtain ⟨Q_4, hq, hp⟩ := hp
          refine ⟨fun n0_4 to7_4 t8_4 i10_3 x11_1 seen12p seen12l seen12c w => ∃ (seen : List (Int × Int)), (some (Addr.mk b_1 0 none)) = n0_4 ∧ (Addr.mk b_3 0 none) = to7_4 ∧ (Addr.mk b_4 0 none) = t8_4 ∧ i10_1 = i10_3 ∧ (Addr.mk b_5 0 none) = x11_1 ∧ seen12l = seen.length ∧ Q_4 seen ∧ Mem (cel b_5 84 [(Value.int .u32 x_1.1), (Value.int .i64 x_1.2.1), (Value.int .u32 x_1.2.2.1), (Value.int .i64 x_1.2.2.2.1), (Value.int .i64 x_1.2.2.2.2.1), (Value.int .i64 B), (Value.bool x_1.2.2.2.2.2.2.1), (Value.slice x_1.2.2.2.2.2.2.2.1 x_1.2.2.2.2.2.2.2.2.1 x_1.2.2.2.2.2.2.2.2.2)] :: cel b_1 58 [(Value.int .u32 Box), (Value.int .i64 Box_1), (Value.int .i64 Box_2), (Value.int .i64 Box_3), (Value.int .i64 Box_4), (Value.int .i64 Box_5), (Value.int .i64 Box_6), (Value.slice p_5 L_4.length c_5), (Value.int .i64 Now_2)] :: row enc84 84 8 p_5 c_5 L_4 :: cel b_4 24 [(Value.int .u32 0), (Value.int .i64 0)] :: cel b_3 24 [(Value.int .u32 to_Host), (Value.int .i64 to_Port)] :: cel b_2 24 [(Value.int .u32 in_Host), (Value.int .i64 in_Port)] :: poolP enc24 24 2 m_1 :: row enc24 24 2 seen12p seen12c seen :: FL) w, ?_, ?_⟩
          · rintro n0_4 to7_4 t8_4 i10_3 x11_1 seen12p seen12l seen12c w ⟨seen, rfl, rfl, rfl, rfl, rfl, rfl, hp, h⟩
            replace hp := hq seen hp
            unfold embrasureref08_Nat_Out_j5
            have cpseen12p := rowCap h 7 rfl
            refine ⟨_, cellL h 4 0 rfl rfl rfl, _, cellL h 4 1 rfl rfl rfl, ?_⟩
            refine newL (o := [(Value.int .u32 to_Host), (Value.int .i64 to_Port)]) h ?_
            intro b_7 w h
            have sr_1 := (celRd h 0 encL24 rfl [(to_Host, to_Port)] rfl)
            obtain ⟨hb, hp⟩ := hp
            refine appendL slt25 und25 encL24 encO24 h 8 rfl rfl sr_1 rfl hb ?_
            intro p_9 c_8 w h
            dsimp only [setH, setVs, setV] at h
            have cpp_9 := rowCap h 8 rfl
            refine ⟨_, _, _, rfl, ?_⟩
            obtain ⟨Q_5, hq, hp⟩ := hp
            refine ⟨fun n0_6 t8_6 i10_5 x11_3 seen12_2p seen12_2l seen12_2c w => ∃ (seen_2 : List (Int × Int)), (some (Addr.mk b_1 0 none)) = n0_6 ∧ (Addr.mk b_4 0 none) = t8_6 ∧ i10_1 = i10_5 ∧ (Addr.mk b_5 0 none) = x11_3 ∧ seen12_2l = seen_2.length ∧ Q_5 seen_2 ∧ Mem (cel b_7 24 [(Value.int .u32 to_Host), (Value.int .i64 to_Port)] :: cel b_5 84 [(Value.int .u32 x_1.1), (Value.int .i64 x_1.2.1), (Value.int .u32 x_1.2.2.1), (Value.int .i64 x_1.2.2.2.1), (Value.int .i64 x_1.2.2.2.2.1), (Value.int .i64 B), (Value.bool x_1.2.2.2.2.2.2.1), (Value.slice x_1.2.2.2.2.2.2.2.1 x_1.2.2.2.2.2.2.2.2.1 x_1.2.2.2.2.2.2.2.2.2)] :: cel b_1 58 [(Value.int .u32 Box), (Value.int .i64 Box_1), (Value.int .i64 Box_2), (Value.int .i64 Box_3), (Value.int .i64 Box_4), (Value.int .i64 Box_5), (Value.int .i64 Box_6), (Value.slice p_5 L_4.length c_5), (Value.int .i64 Now_2)] :: row enc84 84 8 p_5 c_5 L_4 :: cel b_4 24 [(Value.int .u32 0), (Value.int .i64 0)] :: cel b_3 24 [(Value.int .u32 to_Host), (Value.int .i64 to_Port)] :: cel b_2 24 [(Value.int .u32 in_Host), (Value.int .i64 in_Port)] :: poolP enc24 24 2 m_1 :: row enc24 24 2 seen12_2p seen12_2c seen_2 :: FL) w, ?_, ?_⟩
            · rintro n0_6 t8_6 i10_5 x11_3 seen12_2p seen12_2l seen12_2c w ⟨seen_2, rfl, rfl, rfl, rfl, rfl, hp, h⟩
              replace hp := hq seen_2 hp
              unfold embrasureref08_Nat_Out_j6
              have cpseen12_2p := rowCap h 8 rfl
              refine storeL (ys := [(Value.slice seen12_2p seen_2.length seen12_2c)]) h 1 7 rfl rfl rfl sz25 rfl rfl ?_
              intro w h
              dsimp only [setH, setVs, setV] at h
              replace h := h.drew
              refine ⟨_, rfl, ?_⟩
              refine ⟨_, _, _, cellL h 2 7 rfl rfl rfl, ?_⟩
              refine ⟨_, cellL h 1 0 rfl rfl rfl, _, cellL h 1 1 rfl rfl rfl, _, cellL h 1 2 rfl rfl rfl, _, cellL h 1 3 rfl rfl rfl, _, cellL h 1 4 rfl rfl rfl, _, cellL h 1 5 rfl rfl rfl, _, cellL h 1 6 rfl rfl rfl, _, _, _, cellL h 1 7 rfl rfl rfl, ?_⟩
              obtain ⟨ia_4, ja_4, hp⟩ := hp
              obtain ⟨a_4, ha_4⟩ := rdAddr (rowRd h 3 encL84 rfl) rfl ia_4 ja_4
              refine ⟨a_4, ha_4, ia_4, ja_4, ?_⟩
              replace h := h.pick [8, 7]
              dsimp only [pickL, pickR, nthH, delH, dropH, List.cons_append, List.nil_append] at h
              let hd : Hd := (seen12_2p, seen_2.length, seen12_2c)
              replace hp := hp hd rfl
              replace h : Mem (poolP enc24 24 2 (m_1 ++ [(hd, seen_2)]) :: cel b_7 24 [(Value.int .u32 to_Host), (Value.int .i64 to_Port)] :: cel b_5 84 [(Value.int .u32 x_1.1), (Value.int .i64 x_1.2.1), (Value.int .u32 x_1.2.2.1), (Value.int .i64 x_1.2.2.2.1), (Value.int .i64 x_1.2.2.2.2.1), (Value.int .i64 B), (Value.bool x_1.2.2.2.2.2.2.1), (Value.slice hd.1 hd.2.1 hd.2.2)] :: cel b_1 58 [(Value.int .u32 Box), (Value.int .i64 Box_1), (Value.int .i64 Box_2), (Value.int .i64 Box_3), (Value.int .i64 Box_4), (Value.int .i64 Box_5), (Value.int .i64 Box_6), (Value.slice p_5 L_4.length c_5), (Value.int .i64 Now_2)] :: row enc84 84 8 p_5 c_5 L_4 :: cel b_4 24 [(Value.int .u32 0), (Value.int .i64 0)] :: cel b_3 24 [(Value.int .u32 to_Host), (Value.int .i64 to_Port)] :: cel b_2 24 [(Value.int .u32 in_Host), (Value.int .i64 in_Port)] :: FL) _ := poolPush h
              refine rowSetW (ys := [(Value.int .u32 x_1.1), (Value.int .i64 x_1.2.1), (Value.int .u32 x_1.2.2.1), (Value.int .i64 x_1.2.2.2.1), (Value.int .i64 x_1.2.2.2.2.1), (Value.int .i64 B), (Value.bool x_1.2.2.2.2.2.2.1), (Value.slice hd.1 hd.2.1 hd.2.2)]) (x := (x_1.1, x_1.2.1, x_1.2.2.1, x_1.2.2.2.1, x_1.2.2.2.2.1, B, x_1.2.2.2.2.2.2.1, hd)) h 4 encL84 rfl ha_4 rfl ia_4 ja_4 sz84 rfl rfl rfl ?_
              intro w h
              dsimp only [setH, setVs, setV] at h
              replace h := h.drew
              refine ⟨_, rfl, ?_⟩
              refine ⟨_, cellL h 3 0 rfl rfl rfl, ?_⟩
              refine ⟨_, cellL h 2 4 rfl rfl rfl, ?_⟩
              refine storeL (ys := [(Value.int .u32 Box), (Value.int .i64 x_1.2.2.2.2.1)]) h 5 0 rfl rfl rfl sz24 rfl rfl ?_
              intro w h
              dsimp only [setH, setVs, setV] at h
              refine ⟨_, cellL h 5 0 rfl rfl rfl, _, cellL h 5 1 rfl rfl rfl, ?_⟩
              replace h := h.sel [3, 3, 0] 5
              dsimp only [pickL, pickR, nthH, delH, dropH, List.cons_append, List.nil_append] at h
              exact hR Box x_1.2.2.2.2.1 0 (List.set L_4 (Int.toNat i10_1) (x_1.1, x_1.2.1, x_1.2.2.1, x_1.2.2.2.1, x_1.2.2.2.2.1, B, x_1.2.2.2.2.2.2.1, hd)) Now_2 (m_1 ++ [(hd, seen_2)]) p_5 L_4.length c_5 _ (lenSet rfl) h hp
            clear hq
            refine cond_both' hp (fun hp => ?_) (fun hp => ?_)
            · exact ⟨(seen ++ [(to_Host, to_Port)]), rfl, rfl, rfl, rfl, rfl, hp, h⟩
            obtain ⟨g_1la, g_1lb, hp⟩ := hp
            have vg_1_lh : (Int.toNat 1) ≤ (seen ++ [(to_Host, to_Port)]).length := (natLe g_1la g_1lb)
            have vg_1_hm : (seen ++ [(to_Host, to_Port)]).length ≤ c_8 := cpp_9
            have vg_1_mc : c_8 ≤ c_8 := (Nat.le_refl _)
            have vg_1_hl : (seen ++ [(to_Host, to_Port)]).length ≤ (seen ++ [(to_Host, to_Port)]).length := (Nat.le_of_eq rfl)
            refine ⟨g_1la, g_1lb, ?_⟩
            replace h := rowShrink h 8 encL24 rfl (l := (Int.toNat 1)) (hi := (seen ++ [(to_Host, to_Port)]).length) (m := c_8) vg_1_lh vg_1_hm vg_1_mc vg_1_hl
            dsimp only [setH, setVs, setV] at h
            exact ⟨(((seen ++ [(to_Host, to_Port)]).take (seen ++ [(to_Host, to_Port)]).length).drop (Int.toNat 1)), rfl, rfl, rfl, rfl, (viewLen vg_1_hl), hp, h⟩
          clear hq
          obtain ⟨I, ⟨n_9, h0⟩, hq⟩ := hp
          replace h := rowNil enc24 24 2 h
          replace h := h.sel [1, 1, 1, 1, 1, 1, 1, 0] 0
          dsimp only [pickL, pickR, nthH, delH, dropH, List.cons_append, List.nil_append] at h
          refine ⟨fun n_6 n0_5 to7_5 t8_5 i10_4 x11_2 seen12_1p seen12_1l seen12_1c k13 w => ∃ (seen_1 : List (Int × Int)), (some (Addr.mk b_1 0 none)) = n0_5 ∧ (Addr.mk b_3 0 none) = to7_5 ∧ (Addr.mk b_4 0 none) = t8_5 ∧ i10_1 = i10_4 ∧ (Addr.mk b_5 0 none) = x11_2 ∧ seen12_1l = seen_1.length ∧ I n_6 seen_1 k13 ∧ Mem (cel b_5 84 [(Value.int .u32 x_1.1), (Value.int .i64 x_1.2.1), (Value.int .u32 x_1.2.2.1), (Value.int .i64 x_1.2.2.2.1), (Value.int .i64 x_1.2.2.2.2.1), (Value.int .i64 B), (Value.bool x_1.2.2.2.2.2.2.1), (Value.slice x_1.2.2.2.2.2.2.2.1 x_1.2.2.2.2.2.2.2.2.1 x_1.2.2.2.2.2.2.2.2.2)] :: cel b_1 58 [(Value.int .u32 Box), (Value.int .i64 Box_1), (Value.int .i64 Box_2), (Value.int .i64 Box_3), (Value.int .i64 Box_4), (Value.int .i64 Box_5), (Value.int .i64 Box_6), (Value.slice p_5 L_4.length c_5), (Value.int .i64 Now_2)] :: row enc84 84 8 p_5 c_5 L_4 :: cel b_4 24 [(Value.int .u32 0), (Value.int .i64 0)] :: cel b_3 24 [(Value.int .u32 to_Host), (Value.int .i64 to_Port)] :: cel b_2 24 [(Value.int .u32 in_Host), (Value.int .i64 in_Port)] :: poolP enc24 24 2 m_1 :: row enc24 24 2 seen12_1p seen12_1c seen_1 :: FL) w, ⟨n_9, ([] : List (Int × Int)), rfl, rfl, rfl, rfl, rfl, rfl, h0, h⟩, ?_⟩
          clear h0 h
          rintro n_6 n0_5 to7_5 t8_5 i10_4 x11_2 seen12_1p seen12_1l seen12_1c k13 w ⟨seen_1, rfl, rfl, rfl, rfl, rfl, rfl, hp, h⟩
          replace hp := hq n_6 seen_1 k13 hp
          clear hq
          unfold embrasureref08_Nat_Out_l7
          have cpseen12_1p := rowCap h 7 rfl
          refine ⟨_, _, _, cellL h 0 7 rfl rfl rfl, ?_⟩
          refine cond_both' hp (fun hp => ?_) (fun hp => ?_)
          · exact ⟨seen_1, rfl, rfl, rfl, rfl, rfl, rfl, hp, h⟩
          replace h := h.drew
          refine ⟨_, _, _, cellL h 0 7 rfl rfl rfl, ?_⟩
          obtain ⟨xs, hq_xs, hp⟩ := hp
          have hl_xs := poolLen h 6 rfl hq_xs
          have hc_xs := poolCap h 6 rfl hq_xs
          obtain ⟨ia_2, ja_2, hp⟩ := hp
          obtain ⟨a_2, ha_2⟩ := rdAddr (poolRd h 6 encL24 rfl hq_xs) hl_xs ia_2 ja_2
          refine ⟨a_2, ha_2, ia_2, ja_2, ?_⟩
          obtain ⟨x_2, hx_2, hc⟩ := rdCell (poolRd h 6 encL24 rfl hq_xs) ha_2 hl_xs ia_2 ja_2
          replace hp := hp x_2 hx_2
          refine ⟨_, hc 0 _ rfl, _, hc 1 _ rfl, ?_⟩
          refine ⟨_, cellL h 4 0 rfl rfl rfl, _, cellL h 4 1 rfl rfl rfl, ?_⟩
          refine neqAgg (xs := [(Value.int .u32 x_2.1), (Value.int .i64 x_2.2)]) (ys := [(Value.int .u32 to_Host), (Value.int .i64 to_Port)]) eqG24 eqA24 (eqT24 x_2.1 x_2.2 to_Host to_Port) ?_
          refine ⟨_, rfl, ?_⟩
          refine ⟨rfl, ?_⟩
          refine cond_both' hp (fun hp => ?_) (fun hp => ?_)
          · obtain ⟨n_8, hn, hp⟩ := hp
            exact ⟨n_8, hn, seen_1, rfl, rfl, rfl, rfl, rfl, rfl, hp, h⟩
          refine ⟨_, _, _, cellL h 0 7 rfl rfl rfl, ?_⟩
          obtain ⟨xs_1, hq_xs_1, hp⟩ := hp
          have hl_xs_1 := poolLen h 6 rfl hq_xs_1
          have hc_xs_1 := poolCap h 6 rfl hq_xs_1
          obtain ⟨ia_3, ja_3, hp⟩ := hp
          obtain ⟨a_3, ha_3⟩ := rdAddr (poolRd h 6 encL24 rfl hq_xs_1) hl_xs_1 ia_3 ja_3
          refine ⟨a_3, ha_3, ia_3, ja_3, ?_⟩
          obtain ⟨x_3, hx_3, hc⟩ := rdCell (poolRd h 6 encL24 rfl hq_xs_1) ha_3 hl_xs_1 ia_3 ja_3
          replace hp := hp x_3 hx_3
          refine ⟨_, hc 0 _ rfl, _, hc 1 _ rfl, ?_⟩
          refine newL (o := [(Value.int .u32 x_3.1), (Value.int .i64 x_3.2)]) h ?_
          intro b_6 w h
          have sr := (celRd h 0 encL24 rfl [x_3] rfl)
          obtain ⟨hb, hp⟩ := hp
          refine appendL slt25 und25 encL24 encO24 h 8 rfl rfl sr rfl hb ?_
          intro p_7 c_7 w h
          dsimp only [setH, setVs, setV] at h
          have cpp_7 := rowCap h 8 rfl
          refine ⟨_, _, _, rfl, ?_⟩
          replace h := h.sel [1, 1, 1, 1, 1, 1, 1, 1] 1
          dsimp only [pickL, pickR, nthH, delH, dropH, List.cons_append, List.nil_append] at h
          obtain ⟨n_7, hn, hp⟩ := hp
          exact ⟨n_7, hn, (seen_1 ++ [x_3]), rfl, rfl, rfl, rfl, rfl, rfl, hp, h⟩
        clear hq
        refine ⟨_, cellL h 0 6 rfl rfl rfl, ?_⟩
        refine cond_both' hp (fun hp => ?_) (fun hp => ?_)
        · exact ⟨x_1.2.2.2.2.2.1, rfl, rfl, rfl, rfl, rfl, hp, h⟩
        refine ⟨_, rfl, ?_⟩
        refine ⟨_, cellL h 1 5 rfl rfl rfl, ?_⟩
        refine storeL (ys := [(Value.int .i64 (IntKind.wrap .i64 (now + Box_5)))]) h 0 5 rfl rfl rfl sz3 rfl rfl ?_
        intro w h
        dsimp only [setH, setVs, setV] at h
        refine ⟨_, cellL h 0 5 rfl rfl rfl, ?_⟩
        refine cond_both' hp (fun hp => ?_) (fun hp => ?_)
        · exact ⟨(IntKind.wrap .i64 (now + Box_5)), rfl, rfl, rfl, rfl, rfl, hp, h⟩
        refine storeL (ys := [(Value.int .i64 1099511627776)]) h 0 5 rfl rfl rfl sz3 rfl rfl ?_
        intro w h
        dsimp only [setH, setVs, setV] at h
        exact ⟨1099511627776, rfl, rfl, rfl, rfl, rfl, hp, h⟩
      clear hq
      refine cond_both' hp (fun hp => ?_) (fun hp => ?_)
      · exact ⟨L_2, p_3, L_2.length, c_3, rfl, rfl, rfl, rfl, rfl, hp, h⟩
      replace h := h.drew
      refine ⟨fun w => Mem (cel b_2 24 [(Value.int .u32 in_Host), (Value.int .i64 in_Port)] :: FL) w, (h.sel [4] 5), ?_⟩
      refine ⟨_, cellL h 4 0 rfl rfl rfl, _, cellL h 4 1 rfl rfl rfl, ?_⟩
      refine ⟨?_, ?_⟩
      · intro w h
        change Mem _ _ at h
        refine ⟨_, cellL h 0 0 rfl rfl rfl, _, cellL h 0 1 rfl rfl rfl, ?_⟩
        exact ⟨rfl, rfl⟩
      refine ⟨_, cellL h 3 0 rfl rfl rfl, _, cellL h 3 1 rfl rfl rfl, ?_⟩
      refine ⟨_, cellL h 4 1 rfl rfl rfl, ?_⟩
      refine ⟨?_, ?_⟩
      · intro w h
        change Mem _ _ at h
        refine ⟨_, cellL h 0 1 rfl rfl rfl, ?_⟩
        exact ⟨rfl, rfl⟩
      refine embrasureref08_Nat_key_ok h hp ?_
      intro r_7 r_8 w h hp
      refine ⟨_, _, rfl, ?_⟩
      refine ⟨(h.sel [4] 5), ?_⟩
      refine embrasureref08_Nat_put_ok h hp ?_
      rintro r_9 L_5 p_6 n_5 c_6 w rfl h hp
      have cpp_6 := rowCap h 1 rfl
      refine ⟨_, rfl, ?_⟩
      exact ⟨L_5, p_6, L_5.length, c_6, rfl, rfl, rfl, rfl, rfl, hp, h⟩
    clear hq
    refine cond_both' hp (fun hp => ?_) (fun hp => ?_)
    · exact ⟨rfl, rfl, rfl, rfl, rfl, hp, h⟩
    replace h := h.drew
    refine ⟨fun w => Mem (cel b_2 24 [(Value.int .u32 in_Host), (Value.int .i64 in_Port)] :: FL) w, (h.sel [4] 5), ?_⟩
    refine ⟨_, cellL h 4 0 rfl rfl rfl, _, cellL h 4 1 rfl rfl rfl, ?_⟩
    refine ⟨?_, ?_⟩
    · intro w h
      change Mem _ _ at h
      refine ⟨_, cellL h 0 0 rfl rfl rfl, _, cellL h 0 1 rfl rfl rfl, ?_⟩
      exact ⟨rfl, rfl⟩
    refine ⟨_, cellL h 3 0 rfl rfl rfl, _, cellL h 3 1 rfl rfl rfl, ?_⟩
    refine embrasureref08_Nat_key_ok h hp ?_
    intro r_4 r_5 w h hp
    refine ⟨_, _, rfl, ?_⟩
    refine ⟨(h.sel [4] 5), ?_⟩
    refine embrasureref08_Nat_find_ok h hp ?_
    intro r_6 w h hp
    have cpp_3 := rowCap h 1 rfl
    refine ⟨_, rfl, ?_⟩
    exact ⟨rfl, rfl, rfl, rfl, rfl, hp, h⟩
  clear hq
  refine ⟨_, cellL h 2 0 rfl rfl rfl, _, cellL h 2 1 rfl rfl rfl, ?_⟩
  refine embrasureref03_May_ok h hp ?_
  intro r w h hp
  refine ⟨_, rfl, ?_⟩
  refine cond_both hp (fun hp => ?_) (fun hp => ?_)
  · exact ⟨L, p_1, L.length, c_1, Now, rfl, rfl, rfl, rfl, rfl, rfl, hp, h⟩
  refine ⟨_, cellL h 1 0 rfl rfl rfl, _, cellL h 1 1 rfl rfl rfl, ?_⟩
  refine embrasureref03_May_ok h hp ?_
  intro r_1 w h hp
  refine ⟨_, rfl, ?_⟩
  refine cond_both hp (fun hp => ?_) (fun hp => ?_)
  · exact ⟨L, p_1, L.length, c_1, Now, rfl, rfl, rfl, rfl, rfl, rfl, hp, h⟩
  replace h := h.pick [3, 3]
  dsimp only [pickL, pickR, nthH, delH, dropH, List.cons_append, List.nil_append] at h
  refine embrasureref08_Nat_on_ok h hp ?_
  rintro r_2 L_3 Now_3 p_4 n_3 c_4 w rfl h hp
  have cpp_4 := rowCap h 1 rfl
  refine ⟨_, rfl, ?_⟩
  replace h := h.sel [2, 2, 2, 0, 0, 0] 0
  dsimp only [pickL, pickR, nthH, delH, dropH, List.cons_append, List.nil_append] at h
  exact ⟨L_3, p_4, L_3.length, c_4, Now_3, rfl, rfl, rfl, rfl, rfl, rfl, hp, h⟩

/-! (*embrasure/embrasureref08.Nat).In (20) -/
def embrasureref08_Nat_In_wp (Box : Int) (Box_1 : Int) (Box_2 : Int) (Box_3 : Int) (Box_4 : Int) (Box_5 : Int) (Box_6 : Int) (L : List (Int × Int × Int × Int × Int × Int × Bool × (Option Addr × Nat × Nat))) (Now : Int) (now : Int) (port : Int) (from_Host : Int) (from_Port : Int) (m_1 : List ((Option Addr × Nat × Nat) × List (Int × Int))) (K : Int → Int → Int → List (Int × Int × Int × Int × Int × Int × Bool × (Option Addr × Nat × Nat)) → Int → Prop) : Prop :=
  joinP3 (fun (L_2 : List (Int × Int × Int × Int × Int × Int × Bool × (Option Addr × Nat × Nat))) (Now_2 : Int) (t22 : Bool) => cond t22 (K 0 0 1 L_2 Now_2) (joinP0 (K 0 0 8 L_2 Now_2) (fun (Q_1 : Prop) => ∃ (I : Nat → Int → Prop), (∃ (n_13 : Nat), I n_13 0) ∧ ∀ (n_4 : Nat) (i10 : Int), I n_4 i10 → (cond (decide ((i10 : Int) < ((L_2.length : Nat) : Int))) (0 ≤ (i10 : Int) ∧ (i10 : Int) < ((L_2.length : Nat) : Int) ∧ (∀ (x_1 : Int × Int × Int × Int × Int × Int × Bool × (Option Addr × Nat × Nat)), L_2[Int.toNat i10]? = some x_1 → (cond ((x_1.2.2.2.2.1 : Int) != port) (∃ (n_5 : Nat), n_5 < n_4 ∧ I n_5 (IntKind.wrap .i64 (i10 + 1))) (joinP1 (fun (ok12 : Bool) => joinP1 (fun (ok12_1 : Bool) => cond ok12_1 (K x_1.1 x_1.2.1 0 L_2 Now_2) (∃ (n_12 : Nat), n_12 < n_4 ∧ I n_12 (IntKind.wrap .i64 (i10 + 1)))) (fun (Q_3 : Bool → Prop) => ∃ (I_1 : Nat → Bool → Int → Prop), (∃ (n_11 : Nat), I_1 n_11 ok12 0) ∧ ∀ (n_6 : Nat) (ok12_2 : Bool) (k13 : Int), I_1 n_6 ok12_2 k13 → (cond (decide ((k13 : Int) < ((x_1.2.2.2.2.2.2.2.2.1 : Nat) : Int))) (∃ (xs : List (Int × Int)), PH m_1 x_1.2.2.2.2.2.2.2 xs ∧ (0 ≤ (k13 : Int) ∧ (k13 : Int) < ((x_1.2.2.2.2.2.2.2.2.1 : Nat) : Int) ∧ (∀ (x_2 : Int × Int), xs[Int.toNat k13]? = some x_2 → (cond (((x_2.1 : Int) == from_Host) && (((x_2.2 : Int) == from_Port) && true)) (∃ (n_7 : Nat), n_7 < n_6 ∧ I_1 n_7 true (IntKind.wrap .i64 (k13 + 1))) (cond ((Box_4 : Int) == 1) (∃ (xs_1 : List (Int × Int)), PH m_1 x_1.2.2.2.2.2.2.2 xs_1 ∧ (0 ≤ (k13 : Int) ∧ (k13 : Int) < ((x_1.2.2.2.2.2.2.2.2.1 : Nat) : Int) ∧ (∀ (x_3 : Int × Int), xs_1[Int.toNat k13]? = some x_3 → (cond ((x_3.1 : Int) == from_Host) (∃ (n_8 : Nat), n_8 < n_6 ∧ I_1 n_8 true (IntKind.wrap .i64 (k13 + 1))) (∃ (n_9 : Nat), n_9 < n_6 ∧ I_1 n_9 ok12_2 (IntKind.wrap .i64 (k13 + 1))))))) (∃ (n_10 : Nat), n_10 < n_6 ∧ I_1 n_10 ok12_2 (IntKind.wrap .i64 (k13 + 1)))))))) (Q_3 ok12_2)))) (fun (Q_2 : Bool → Prop) => cond (x_1.2.2.2.2.2.2.1) (Q_2 true) (Q_2 ((Box_4 : Int) == 0))))))) (Q_1 ))))) (fun (Q : List (Int × Int × Int × Int × Int × Int × Bool × (Option Addr × Nat × Nat)) → Int → Bool → Prop) => embrasureref03_May_wp from_Host from_Port (fun (r : Bool) => cond (!r) (Q L Now true) (embrasureref08_Nat_on_wp Box Box_1 Box_2 Box_3 Box_4 Box_5 Box_6 L Now now (fun (r_1 : Bool) (L_3 : List (Int × Int × Int × Int × Int × Int × Bool × (Option Addr × Nat × Nat))) (Now_3 : Int) => Q L_3 Now_3 (!r_1)))))
theorem embrasureref08_Nat_In_ok {b_1 : Nat} {p_1 : Option Addr} {c_1 : Nat} {Box : Int} {Box_1 : Int} {Box_2 : Int} {Box_3 : Int} {Box_4 : Int} {Box_5 : Int} {Box_6 : Int} {L : List (Int × Int × Int × Int × Int × Int × Bool × (Option Addr × Nat × Nat))} {Now : Int} {now : Int} {port : Int} {from_Host : Int} {from_Port : Int} {m_1 : List ((Option Addr × Nat × Nat) × List (Int × Int))} {FL : List HP} {w : World} {K : Int → Int → Int → List (Int × Int × Int × Int × Int × Int × Bool × (Option Addr × Nat × Nat)) → Int → Prop} {R : Value → World → Prop}
  (h : Mem (cel b_1 58 [(Value.int .u32 Box), (Value.int .i64 Box_1), (Value.int .i64 Box_2), (Value.int .i64 Box_3), (Value.int .i64 Box_4), (Value.int .i64 Box_5), (Value.int .i64 Box_6), (Value.slice p_1 L.length c_1), (Value.int .i64 Now)] :: row enc84 84 8 p_1 c_1 L :: poolP enc24 24 2 m_1 :: FL) w) (hp : embrasureref08_Nat_In_wp Box Box_1 Box_2 Box_3 Box_4 Box_5 Box_6 L Now now port from_Host from_Port m_1 K)
  (hR : ∀ (r : Int) (r_1 : Int) (r_2 : Int) (L_1 : List (Int × Int × Int × Int × Int × Int × Bool × (Option Addr × Nat × Nat))) (Now_1 : Int) (p_2 : Option Addr) (n_1 : Nat) (c_2 : Nat) (w : World), n_1 = L_1.length → Mem (cel b_1 58 [(Value.int .u32 Box), (Value.int .i64 Box_1), (Value.int .i64 Box_2), (Value.int .i64 Box_3), (Value.int .i64 Box_4), (Value.int .i64 Box_5), (Value.int .i64 Box_6), (Value.slice p_2 n_1 c_2), (Value.int .i64 Now_1)] :: row enc84 84 8 p_2 c_2 L_1 :: poolP enc24 24 2 m_1 :: FL) w → K r r_1 r_2 L_1 Now_1 → R (Value.tuple #[(Value.agg #[(Value.int .u32 r), (Value.int .i64 r_1)]), (Value.int .i64 r_2)]) w) :
  CallV Try.prog 20 #[(Value.pointer (some (Addr.mk b_1 0 none))), (Value.int .i64 now), (Value.int .i64 port), (Value.agg #[(Value.int .u32 from_Host), (Value.int .i64 from_Port)])] w R := by
  refine embrasureref08_Nat_In_call ?_
  unfold embrasureref08_Nat_In
  unfold embrasureref08_Nat_In_wp at hp
  have cpp_1 := rowCap h 1 rfl
  refine newL (o := [(Value.int .u32 from_Host), (Value.int .i64 from_Port)]) h ?_
  intro b_2 w h
  refine newL (o := [(Value.int .u32 0), (Value.int .i64 0)]) h ?_
  intro b_3 w h
  obtain ⟨Q, hq, hp⟩ := hp
  refine ⟨fun n0 port2 from7 t8 t22 w => ∃ (L_2 : List (Int × Int × Int × Int × Int × Int × Bool × (Option Addr × Nat × Nat))), ∃ (p_3 : Option Addr), ∃ (n_2 : Nat), ∃ (c_3 : Nat), ∃ (Now_2 : Int), (some (Addr.mk b_1 0 none)) = n0 ∧ port = port2 ∧ (Addr.mk b_2 0 none) = from7 ∧ (Addr.mk b_3 0 none) = t8 ∧ n_2 = L_2.length ∧ Q L_2 Now_2 t22 ∧ Mem (cel b_3 24 [(Value.int .u32 0), (Value.int .i64 0)] :: cel b_2 24 [(Value.int .u32 from_Host), (Value.int .i64 from_Port)] :: cel b_1 58 [(Value.int .u32 Box), (Value.int .i64 Box_1), (Value.int .i64 Box_2), (Value.int .i64 Box_3), (Value.int .i64 Box_4), (Value.int .i64 Box_5), (Value.int .i64 Box_6), (Value.slice p_3 n_2 c_3), (Value.int .i64 Now_2)] :: row enc84 84 8 p_3 c_3 L_2 :: poolP enc24 24 2 m_1 :: FL) w, ?_, ?_⟩
  · rintro n0 port2 from7 t8 t22 w ⟨L_2, p_3, n_2, c_3, Now_2, rfl, rfl, rfl, rfl, rfl, hp, h⟩
    replace hp := hq L_2 Now_2 t22 hp
    unfold embrasureref08_Nat_In_j1
    have cpp_3 := rowCap h 3 rfl
    refine cond_both hp (fun hp => ?_) (fun hp => ?_)
    · refine storeL (ys := [(Value.int .u32 0), (Value.int .i64 0)]) h 0 0 rfl rfl rfl sz24 rfl rfl ?_
      intro w h
      dsimp only [setH, setVs, setV] at h
      refine ⟨_, cellL h 0 0 rfl rfl rfl, _, cellL h 0 1 rfl rfl rfl, ?_⟩
      replace h := h.sel [2, 2, 2] 2
      dsimp only [pickL, pickR, nthH, delH, dropH, List.cons_append, List.nil_append] at h
      exact hR 0 0 1 L_2 Now_2 p_3 L_2.length c_3 _ rfl h hp
    obtain ⟨Q_1, hq, hp⟩ := hp
    refine ⟨fun t8_1 w => (Addr.mk b_3 0 none) = t8_1 ∧ Q_1 ∧ Mem (cel b_3 24 [(Value.int .u32 0), (Value.int .i64 0)] :: cel b_2 24 [(Value.int .u32 from_Host), (Value.int .i64 from_Port)] :: cel b_1 58 [(Value.int .u32 Box), (Value.int .i64 Box_1), (Value.int .i64 Box_2), (Value.int .i64 Box_3), (Value.int .i64 Box_4), (Value.int .i64 Box_5), (Value.int .i64 Box_6), (Value.slice p_3 L_2.length c_3), (Value.int .i64 Now_2)] :: row enc84 84 8 p_3 c_3 L_2 :: poolP enc24 24 2 m_1 :: FL) w, ?_, ?_⟩
    · rintro t8_1 w ⟨rfl, hp, h⟩
      replace hp := hq  hp
      unfold embrasureref08_Nat_In_j2
      refine storeL (ys := [(Value.int .u32 0), (Value.int .i64 0)]) h 0 0 rfl rfl rfl sz24 rfl rfl ?_
      intro w h
      dsimp only [setH, setVs, setV] at h
      refine ⟨_, cellL h 0 0 rfl rfl rfl, _, cellL h 0 1 rfl rfl rfl, ?_⟩
      replace h := h.sel [2, 2, 2] 2
      dsimp only [pickL, pickR, nthH, delH, dropH, List.cons_append, List.nil_append] at h
      exact hR 0 0 8 L_2 Now_2 p_3 L_2.length c_3 _ rfl h hp
    clear hq
    obtain ⟨I, ⟨n_13, h0⟩, hq⟩ := hp
    refine ⟨fun n_4 n0_1 port2_1 from7_1 t8_2 i10 w => (some (Addr.mk b_1 0 none)) = n0_1 ∧ port = port2_1 ∧ (Addr.mk b_2 0 none) = from7_1 ∧ (Addr.mk b_3 0 none) = t8_2 ∧ I n_4 i10 ∧ Mem (cel b_3 24 [(Value.int .u32 0), (Value.int .i64 0)] :: cel b_2 24 [(Value.int .u32 from_Host), (Value.int .i64 from_Port)] :: cel b_1 58 [(Value.int .u32 Box), (Value.int .i64 Box_1), (Value.int .i64 Box_2), (Value.int .i64 Box_3), (Value.int .i64 Box_4), (Value.int .i64 Box_5), (Value.int .i64 Box_6), (Value.slice p_3 L_2.length c_3), (Value.int .i64 Now_2)] :: row enc84 84 8 p_3 c_3 L_2 :: poolP enc24 24 2 m_1 :: FL) w, ⟨n_13, rfl, rfl, rfl, rfl, h0, h⟩, ?_⟩
    clear h0 h
    rintro n_4 n0_1 port2_1 from7_1 t8_2 i10 w ⟨rfl, rfl, rfl, rfl, hp, h⟩
    replace hp := hq n_4 i10 hp
    clear hq
    unfold embrasureref08_Nat_In_l3
    refine ⟨_, rfl, ?_⟩
    refine ⟨_, _, _, cellL h 2 7 rfl rfl rfl, ?_⟩
    refine cond_both' hp (fun hp => ?_) (fun hp => ?_)
    · exact ⟨rfl, hp, h⟩
    refine ⟨_, rfl, ?_⟩
    refine ⟨_, _, _, cellL h 2 7 rfl rfl rfl, ?_⟩
    obtain ⟨ia_1, ja_1, hp⟩ := hp
    obtain ⟨a_1, ha_1⟩ := rdAddr (rowRd h 3 encL84 rfl) rfl ia_1 ja_1
    refine ⟨a_1, ha_1, ia_1, ja_1, ?_⟩
    obtain ⟨x_1, hx_1, hc⟩ := rdCell (rowRd h 3 encL84 rfl) ha_1 rfl ia_1 ja_1
    replace hp := hp x_1 hx_1
    refine ⟨_, hc 0 _ rfl, _, hc 1 _ rfl, _, hc 2 _ rfl, _, hc 3 _ rfl, _, hc 4 _ rfl, _, hc 5 _ rfl, _, hc 6 _ rfl, _, _, _, hc 7 _ rfl, ?_⟩
    refine newL (o := [(Value.int .u32 0), (Value.int .i64 0), (Value.int .u32 0), (Value.int .i64 0), (Value.int .i64 0), (Value.int .i64 0), (Value.bool false), (Value.slice none 0 0)]) h ?_
    intro b_4 w h
    refine storeL (ys := [(Value.int .u32 x_1.1), (Value.int .i64 x_1.2.1), (Value.int .u32 x_1.2.2.1), (Value.int .i64 x_1.2.2.2.1), (Value.int .i64 x_1.2.2.2.2.1), (Value.int .i64 x_1.2.2.2.2.2.1), (Value.bool x_1.2.2.2.2.2.2.1), (Value.slice x_1.2.2.2.2.2.2.2.1 x_1.2.2.2.2.2.2.2.2.1 x_1.2.2.2.2.2.2.2.2.2)]) h 0 0 rfl rfl rfl sz84 rfl rfl ?_
    intro w h
    dsimp only [setH, setVs, setV] at h
    refine ⟨_, cellL h 0 4 rfl rfl rfl, ?_⟩
    refine cond_both hp (fun hp => ?_) (fun hp => ?_)
    · replace h := h.sel [1, 1, 1, 1, 1] 1
      dsimp only [pickL, pickR, nthH, delH, dropH, List.cons_append, List.nil_append] at h
      obtain ⟨n_5, hn, hp⟩ := hp
      exact ⟨n_5, hn, rfl, rfl, rfl, rfl, hp, h⟩
    obtain ⟨Q_2, hq, hp⟩ := hp
    refine ⟨fun n0_2 port2_2 from7_2 t8_3 i10_1 x11 ok12 w => (some (Addr.mk b_1 0 none)) = n0_2 ∧ port = port2_2 ∧ (Addr.mk b_2 0 none) = from7_2 ∧ (Addr.mk b_3 0 none) = t8_3 ∧ i10 = i10_1 ∧ (Addr.mk b_4 0 none) = x11 ∧ Q_2 ok12 ∧ Mem (cel b_4 84 [(Value.int .u32 x_1.1), (Value.int .i64 x_1.2.1), (Value.int .u32 x_1.2.2.1), (Value.int .i64 x_1.2.2.2.1), (Value.int .i64 x_1.2.2.2.2.1), (Value.int .i64 x_1.2.2.2.2.2.1), (Value.bool x_1.2.2.2.2.2.2.1), (Value.slice x_1.2.2.2.2.2.2.2.1 x_1.2.2.2.2.2.2.2.2.1 x_1.2.2.2.2.2.2.2.2.2)] :: cel b_3 24 [(Value.int .u32 0), (Value.int .i64 0)] :: cel b_2 24 [(Value.int .u32 from_Host), (Value.int .i64 from_Port)] :: cel b_1 58 [(Value.int .u32 Box), (Value.int .i64 Box_1), (Value.int .i64 Box_2), (Value.int .i64 Box_3), (Value.int .i64 Box_4), (Value.int .i64 Box_5), (Value.int .i64 Box_6), (Value.slice p_3 L_2.length c_3), (Value.int .i64 Now_2)] :: row enc84 84 8 p_3 c_3 L_2 :: poolP enc24 24 2 m_1 :: FL) w, ?_, ?_⟩
    · rintro n0_2 port2_2 from7_2 t8_3 i10_1 x11 ok12 w ⟨rfl, rfl, rfl, rfl, rfl, rfl, hp, h⟩
      replace hp := hq ok12 hp
      unfold embrasureref08_Nat_In_j4
      obtain ⟨Q_3, hq, hp⟩ := hp
      refine ⟨fun n0_3 port2_3 from7_3 t8_4 i10_2 x11_1 ok12_1 w => (some (Addr.mk b_1 0 none)) = n0_3 ∧ port = port2_3 ∧ (Addr.mk b_2 0 none) = from7_3 ∧ (Addr.mk b_3 0 none) = t8_4 ∧ i10 = i10_2 ∧ (Addr.mk b_4 0 none) = x11_1 ∧ Q_3 ok12_1 ∧ Mem (cel b_4 84 [(Value.int .u32 x_1.1), (Value.int .i64 x_1.2.1), (Value.int .u32 x_1.2.2.1), (Value.int .i64 x_1.2.2.2.1), (Value.int .i64 x_1.2.2.2.2.1), (Value.int .i64 x_1.2.2.2.2.2.1), (Value.bool x_1.2.2.2.2.2.2.1), (Value.slice x_1.2.2.2.2.2.2.2.1 x_1.2.2.2.2.2.2.2.2.1 x_1.2.2.2.2.2.2.2.2.2)] :: cel b_3 24 [(Value.int .u32 0), (Value.int .i64 0)] :: cel b_2 24 [(Value.int .u32 from_Host), (Value.int .i64 from_Port)] :: cel b_1 58 [(Value.int .u32 Box), (Value.int .i64 Box_1), (Value.int .i64 Box_2), (Value.int .i64 Box_3), (Value.int .i64 Box_4), (Value.int .i64 Box_5), (Value.int .i64 Box_6), (Value.slice p_3 L_2.length c_3), (Value.int .i64 Now_2)] :: row enc84 84 8 p_3 c_3 L_2 :: poolP enc24 24 2 m_1 :: FL) w, ?_, ?_⟩
      · rintro n0_3 port2_3 from7_3 t8_4 i10_2 x11_1 ok12_1 w ⟨rfl, rfl, rfl, rfl, rfl, rfl, hp, h⟩
        replace hp := hq ok12_1 hp
        unfold embrasureref08_Nat_In_j5
        refine cond_both' hp (fun hp => ?_) (fun hp => ?_)
        · replace h := h.sel [1, 1, 1, 1, 1] 1
          dsimp only [pickL, pickR, nthH, delH, dropH, List.cons_append, List.nil_append] at h
          obtain ⟨n_12, hn, hp⟩ := hp
          exact ⟨n_12, hn, rfl, rfl, rfl, rfl, hp, h⟩
        refine ⟨_, cellL h 0 0 rfl rfl rfl, _, cellL h 0 1 rfl rfl rfl, ?_⟩
        refine storeL (ys := [(Value.int .u32 x_1.1), (Value.int .i64 x_1.2.1)]) h 1 0 rfl rfl rfl sz24 rfl rfl ?_
        intro w h
        dsimp only [setH, setVs, setV] at h
        refine ⟨_, cellL h 1 0 rfl rfl rfl, _, cellL h 1 1 rfl rfl rfl, ?_⟩
        replace h := h.sel [3, 3, 3] 3
        dsimp only [pickL, pickR, nthH, delH, dropH, List.cons_append, List.nil_append] at h
        exact hR x_1.1 x_1.2.1 0 L_2 Now_2 p_3 L_2.length c_3 _ rfl h hp
      clear hq
      obtain ⟨I_1, ⟨n_11, h0⟩, hq⟩ := hp
      refine ⟨fun n_6 n0_4 port2_4 from7_4 t8_5 i10_3 x11_2 ok12_2 k13 w => (some (Addr.mk b_1 0 none)) = n0_4 ∧ port = port2_4 ∧ (Addr.mk b_2 0 none) = from7_4 ∧ (Addr.mk b_3 0 none) = t8_5 ∧ i10 = i10_3 ∧ (Addr.mk b_4 0 none) = x11_2 ∧ I_1 n_6 ok12_2 k13 ∧ Mem (cel b_4 84 [(Value.int .u32 x_1.1), (Value.int .i64 x_1.2.1), (Value.int .u32 x_1.2.2.1), (Value.int .i64 x_1.2.2.2.1), (Value.int .i64 x_1.2.2.2.2.1), (Value.int .i64 x_1.2.2.2.2.2.1), (Value.bool x_1.2.2.2.2.2.2.1), (Value.slice x_1.2.2.2.2.2.2.2.1 x_1.2.2.2.2.2.2.2.2.1 x_1.2.2.2.2.2.2.2.2.2)] :: cel b_3 24 [(Value.int .u32 0), (Value.int .i64 0)] :: cel b_2 24 [(Value.int .u32 from_Host), (Value.int .i64 from_Port)] :: cel b_1 58 [(Value.int .u32 Box), (Value.int .i64 Box_1), (Value.int .i64 Box_2), (Value.int .i64 Box_3), (Value.int .i64 Box_4), (Value.int .i64 Box_5), (Value.int .i64 Box_6), (Value.slice p_3 L_2.length c_3), (Value.int .i64 Now_2)] :: row enc84 84 8 p_3 c_3 L_2 :: poolP enc24 24 2 m_1 :: FL) w, ⟨n_11, rfl, rfl, rfl, rfl, rfl, rfl, h0, h⟩, ?_⟩
      clear h0 h
      rintro n_6 n0_4 port2_4 from7_4 t8_5 i10_3 x11_2 ok12_2 k13 w ⟨rfl, rfl, rfl, rfl, rfl, rfl, hp, h⟩
      replace hp := hq n_6 ok12_2 k13 hp
      clear hq
      unfold embrasureref08_Nat_In_l6
      refine ⟨_, _, _, cellL h 0 7 rfl rfl rfl, ?_⟩
      refine cond_both' hp (fun hp => ?_) (fun hp => ?_)
      · exact ⟨rfl, rfl, rfl, rfl, rfl, rfl, hp, h⟩
      replace h := h.drew
      refine ⟨_, _, _, cellL h 0 7 rfl rfl rfl, ?_⟩
      obtain ⟨xs, hq_xs, hp⟩ := hp
      have hl_xs := poolLen h 5 rfl hq_xs
      have hc_xs := poolCap h 5 rfl hq_xs
      obtain ⟨ia_2, ja_2, hp⟩ := hp
      obtain ⟨a_2, ha_2⟩ := rdAddr (poolRd h 5 encL24 rfl hq_xs) hl_xs ia_2 ja_2
      refine ⟨a_2, ha_2, ia_2, ja_2, ?_⟩
      obtain ⟨x_2, hx_2, hc⟩ := rdCell (poolRd h 5 encL24 rfl hq_xs) ha_2 hl_xs ia_2 ja_2
      replace hp := hp x_2 hx_2
      refine ⟨_, hc 0 _ rfl, _, hc 1 _ rfl, ?_⟩
      refine ⟨_, cellL h 2 0 rfl rfl rfl, _, cellL h 2 1 rfl rfl rfl, ?_⟩
      refine eqlAgg (xs := [(Value.int .u32 x_2.1), (Value.int .i64 x_2.2)]) (ys := [(Value.int .u32 from_Host), (Value.int .i64 from_Port)]) eqG24 eqA24 (eqT24 x_2.1 x_2.2 from_Host from_Port) ?_
      refine ⟨_, rfl, ?_⟩
      refine ⟨rfl, ?_⟩
      refine cond_both hp (fun hp => ?_) (fun hp => ?_)
      · obtain ⟨n_7, hn, hp⟩ := hp
        exact ⟨n_7, hn, rfl, rfl, rfl, rfl, rfl, rfl, hp, h⟩
      refine ⟨_, rfl, ?_⟩
      refine ⟨_, cellL h 3 4 rfl rfl rfl, ?_⟩
      refine cond_both' hp (fun hp => ?_) (fun hp => ?_)
      · obtain ⟨n_10, hn, hp⟩ := hp
        exact ⟨n_10, hn, rfl, rfl, rfl, rfl, rfl, rfl, hp, h⟩
      refine ⟨_, _, _, cellL h 0 7 rfl rfl rfl, ?_⟩
      obtain ⟨xs_1, hq_xs_1, hp⟩ := hp
      have hl_xs_1 := poolLen h 5 rfl hq_xs_1
      have hc_xs_1 := poolCap h 5 rfl hq_xs_1
      obtain ⟨ia_3, ja_3, hp⟩ := hp
      obtain ⟨a_3, ha_3⟩ := rdAddr (poolRd h 5 encL24 rfl hq_xs_1) hl_xs_1 ia_3 ja_3
      refine ⟨a_3, ha_3, ia_3, ja_3, ?_⟩
      obtain ⟨x_3, hx_3, hc⟩ := rdCell (poolRd h 5 encL24 rfl hq_xs_1) ha_3 hl_xs_1 ia_3 ja_3
      replace hp := hp x_3 hx_3
      refine ⟨_, hc 0 _ rfl, ?_⟩
      refine ⟨_, cellL h 2 0 rfl rfl rfl, ?_⟩
      refine cond_both hp (fun hp => ?_) (fun hp => ?_)
      · obtain ⟨n_8, hn, hp⟩ := hp
        exact ⟨n_8, hn, rfl, rfl, rfl, rfl, rfl, rfl, hp, h⟩
      obtain ⟨n_9, hn, hp⟩ := hp
      exact ⟨n_9, hn, rfl, rfl, rfl, rfl, rfl, rfl, hp, h⟩
    clear hq
    refine ⟨_, cellL h 0 6 rfl rfl rfl, ?_⟩
    refine cond_both hp (fun hp => ?_) (fun hp => ?_)
    · exact ⟨rfl, rfl, rfl, rfl, rfl, rfl, hp, h⟩
    refine ⟨_, rfl, ?_⟩
    refine ⟨_, cellL h 3 4 rfl rfl rfl, ?_⟩
    exact ⟨rfl, rfl, rfl, rfl, rfl, rfl, hp, h⟩
  clear hq
  refine ⟨_, cellL h 1 0 rfl rfl rfl, _, cellL h 1 1 rfl rfl rfl, ?_⟩
  refine embrasureref03_May_ok h hp ?_
  intro r w h hp
  refine ⟨_, rfl, ?_⟩
  refine cond_both hp (fun hp => ?_) (fun hp => ?_)
  · exact ⟨L, p_1, L.length, c_1, Now, rfl, rfl, rfl, rfl, rfl, hp, h⟩
  replace h := h.pick [2, 2]
  dsimp only [pickL, pickR, nthH, delH, dropH, List.cons_append, List.nil_append] at h
  refine embrasureref08_Nat_on_ok h hp ?_
  rintro r_1 L_3 Now_3 p_4 n_3 c_4 w rfl h hp
  have cpp_4 := rowCap h 1 rfl
  refine ⟨_, rfl, ?_⟩
  replace h := h.sel [2, 2, 0, 0, 0] 0
  dsimp only [pickL, pickR, nthH, delH, dropH, List.cons_append, List.nil_append] at h
  exact ⟨L_3, p_4, L_3.length, c_4, Now_3, rfl, rfl, rfl, rfl, rfl, hp, h⟩

end Go.Proofs.Ythhbnjcebmhilaa
