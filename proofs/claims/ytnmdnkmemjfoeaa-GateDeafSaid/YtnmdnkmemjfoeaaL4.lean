/- Each function over plain data (printed by a program of this claim's author). -/
import Derived.Test.YtnmdnkmemjfoeaaL3
namespace Go.Proofs.Ytnmdnkmemjfoeaa
open Go Go.Eng Go.Proofs
set_option maxRecDepth 100000
set_option maxHeartbeats 2000000
def embrasureref08_Same_wp (a_1 : List (Int × Int × Int × Int × Int × Int × Bool)) (b_1 : List (Int × Int × Int × Int × Int × Int × Bool)) (K : Bool → Prop) : Prop :=
  cond ((((a_1.length : Nat) : Int) : Int) != ((b_1.length : Nat) : Int)) (K false) (∃ (I : Nat → Int → Prop), (∃ (n_5 : Nat), I n_5 0) ∧ ∀ (n_3 : Nat) (i5 : Int), I n_3 i5 → (cond (decide (i5 < ((a_1.length : Nat) : Int))) (0 ≤ i5 ∧ (i5 : Int) < ((a_1.length : Nat) : Int) ∧ (∀ (x_1 : Int × Int × Int × Int × Int × Int × Bool), a_1[Int.toNat i5]? = some x_1 → (0 ≤ i5 ∧ (i5 : Int) < ((b_1.length : Nat) : Int) ∧ (∀ (x_2 : Int × Int × Int × Int × Int × Int × Bool), b_1[Int.toNat i5]? = some x_2 → (cond (!((((x_1.1 : Int) == x_2.1) && (((x_1.2.1 : Int) == x_2.2.1) && true)) && ((((x_1.2.2.1 : Int) == x_2.2.2.1) && (((x_1.2.2.2.1 : Int) == x_2.2.2.2.1) && true)) && (((x_1.2.2.2.2.1 : Int) == x_2.2.2.2.2.1) && (((x_1.2.2.2.2.2.1 : Int) == x_2.2.2.2.2.2.1) && ((x_1.2.2.2.2.2.2 == x_2.2.2.2.2.2.2) && true)))))) (K false) (∃ (n_4 : Nat), n_4 < n_3 ∧ I n_4 (IntKind.wrap .i64 (i5 + 1)))))))) (K true)))
theorem embrasureref08_Same_ok {p_1 : Option Addr} {n_1 c_1 : Nat} {p_2 : Option Addr} {n_2 c_2 : Nat} {a_1 : List (Int × Int × Int × Int × Int × Int × Bool)} {b_1 : List (Int × Int × Int × Int × Int × Int × Bool)} {FL : List HP} {w : World} {K : Bool → Prop} {R : Value → World → Prop}
  (hF_a_1 : ∀ w, Mem FL w → Rd w 7 p_1 enc55 a_1) (hl_a_1 : n_1 = a_1.length) (hc_a_1 : n_1 ≤ c_1)
  (hF_b_1 : ∀ w, Mem FL w → Rd w 7 p_2 enc55 b_1) (hl_b_1 : n_2 = b_1.length) (hc_b_1 : n_2 ≤ c_2)
  (h : Mem (FL) w) (hp : embrasureref08_Same_wp a_1 b_1 K)
  (hR : ∀ (r : Bool) (w : World), Mem (FL) w → K r → R (Value.bool r) w) :
  CallV Try.prog 15 #[Value.slice p_1 n_1 c_1, Value.slice p_2 n_2 c_2] w R := by
  refine embrasureref08_Same_call ?_
  unfold embrasureref08_Same
  unfold embrasureref08_Same_wp at hp
  subst hl_a_1
  subst hl_b_1
  refine cond_both hp (fun hp => ?_) (fun hp => ?_)
  · exact hR false _ h hp
  obtain ⟨I, ⟨n_5, h0⟩, hq⟩ := hp
  refine ⟨fun n_3 a0p a0l a0c b1p b1l b1c i5 w => p_1 = a0p ∧ a_1.length = a0l ∧ c_1 = a0c ∧ p_2 = b1p ∧ b_1.length = b1l ∧ c_2 = b1c ∧ I n_3 i5 ∧ Mem (FL) w, ⟨n_5, rfl, rfl, rfl, rfl, rfl, rfl, h0, h⟩, ?_⟩
  clear h0 h
  rintro n_3 a0p a0l a0c b1p b1l b1c i5 w ⟨rfl, rfl, rfl, rfl, rfl, rfl, hp, h⟩
  replace hp := hq n_3 i5 hp
  clear hq
  unfold embrasureref08_Same_l1
  refine cond_both' hp (fun hp => ?_) (fun hp => ?_)
  · exact hR true _ h hp
  replace h := h.drew
  obtain ⟨ia_2, ja_2, hp⟩ := hp
  obtain ⟨a_2, ha_2⟩ := rdAddr (hF_a_1 _ (h.drop 0)) rfl ia_2 ja_2
  refine ⟨a_2, ha_2, ia_2, ja_2, ?_⟩
  obtain ⟨x_1, hx_1, hc⟩ := rdCell (hF_a_1 _ (h.drop 0)) ha_2 rfl ia_2 ja_2
  replace hp := hp x_1 hx_1
  refine ⟨_, hc 0 _ rfl, _, hc 1 _ rfl, _, hc 2 _ rfl, _, hc 3 _ rfl, _, hc 4 _ rfl, _, hc 5 _ rfl, _, hc 6 _ rfl, ?_⟩
  obtain ⟨ia_3, ja_3, hp⟩ := hp
  obtain ⟨a_3, ha_3⟩ := rdAddr (hF_b_1 _ (h.drop 0)) rfl ia_3 ja_3
  refine ⟨a_3, ha_3, ia_3, ja_3, ?_⟩
  obtain ⟨x_2, hx_2, hc⟩ := rdCell (hF_b_1 _ (h.drop 0)) ha_3 rfl ia_3 ja_3
  replace hp := hp x_2 hx_2
  refine ⟨_, hc 0 _ rfl, _, hc 1 _ rfl, _, hc 2 _ rfl, _, hc 3 _ rfl, _, hc 4 _ rfl, _, hc 5 _ rfl, _, hc 6 _ rfl, ?_⟩
  refine neqAgg (xs := [Value.int .u32 x_1.1, Value.int .i64 x_1.2.1, Value.int .u32 x_1.2.2.1, Value.int .i64 x_1.2.2.2.1, Value.int .i64 x_1.2.2.2.2.1, Value.int .i64 x_1.2.2.2.2.2.1, Value.bool x_1.2.2.2.2.2.2]) (ys := [Value.int .u32 x_2.1, Value.int .i64 x_2.2.1, Value.int .u32 x_2.2.2.1, Value.int .i64 x_2.2.2.2.1, Value.int .i64 x_2.2.2.2.2.1, Value.int .i64 x_2.2.2.2.2.2.1, Value.bool x_2.2.2.2.2.2.2]) eqG55 eqA55 (eqT55 x_1.1 x_1.2.1 x_1.2.2.1 x_1.2.2.2.1 x_1.2.2.2.2.1 x_1.2.2.2.2.2.1 x_1.2.2.2.2.2.2 x_2.1 x_2.2.1 x_2.2.2.1 x_2.2.2.2.1 x_2.2.2.2.2.1 x_2.2.2.2.2.2.1 x_2.2.2.2.2.2.2) ?_
  refine ⟨_, rfl, ?_⟩
  refine ⟨rfl, ?_⟩
  refine cond_both hp (fun hp => ?_) (fun hp => ?_)
  · exact hR false _ h hp
  obtain ⟨n_4, hn, hp⟩ := hp
  exact ⟨n_4, hn, rfl, rfl, rfl, rfl, rfl, rfl, hp, h⟩
def embrasurelaw11_GateDeaf_wp (b_1 : List (Int)) (from_Host from_Port : Int) (both : Bool) (K : Bool → Prop) : Prop :=
  embrasurelaw11_awake_wp (fun (r : Bool) => cond (!r) (K false) (cond (decide ((((b_1.length : Nat) : Int) : Int) > 200)) (K true) (embrasurelaw08_Box_wp 0 (fun (r_1 r_2 r_3 r_4 r_5 r_6 r_7 : Int) => nat_New_wp r_1 r_2 r_3 r_4 r_5 r_6 r_7 (fun (r_8 : Int) => joinP1 (fun (t33 : Bool) => cond t33 (K false) (False)) (fun (Q : Bool → Prop) => Q true)) (fun (r_9 box box_1 box_2 box_3 box_4 box_5 box_6 : Int) (list : List (Option Nat)) (now : Int) => joinP1 (fun (t33_1 : Bool) => cond t33_1 (K false) (gate_New_wp box box_1 box_2 box_3 box_4 box_5 box_6 now true both 60 0 (fun (r_10 : Int) => joinP1 (fun (t46 : Bool) => cond t46 (K false) (pmp_ReadAsk_wp b_1 (fun (r_11 r_12 r_13 r_14 r_15 r_16 r_17 r_18 : Int) (r_19 : Bool) (r_20 : Int) => False))) (fun (Q_2 : Bool → Prop) => Q_2 true)) (fun (r_21 : Int) (g_1 g_2 : Bool) (g_3 boot now_1 : Int) (by_ : List ((Int × Int) × (Int × Int))) => joinP1 (fun (t46_1 : Bool) => cond t46_1 (K false) (pmp_ReadAsk_wp b_1 (fun (r_22 r_23 r_24 r_25 r_26 r_27 r_28 r_29 : Int) (r_30 : Bool) (r_31 : Int) => gate_Gate_Hear_wp box box_1 box_2 box_3 box_4 box_5 box_6 list now g_1 g_2 g_3 boot now_1 by_ 1 from_Host from_Port b_1 ([] : List (Nat × (Int × Int × Int × Int × Int × Int × Bool × (List (Int × Int))))) (fun (rs : List (Int)) (now_2 : Int) (list_1 : List (Option Nat)) (now_3 : Int) (m_1 : List ((Int × Int) × (Int × Int))) (m_2 : List (Nat × (Int × Int × Int × Int × Int × Int × Bool × (List (Int × Int))))) => joinP1 (fun (t63 : Bool) => cond t63 (K true) (joinP1 (fun (t91 : Bool) => cond t91 (pmp_ReadAnswer_wp rs (fun (r_32 r_33 r_34 r_35 r_36 r_37 r_38 r_39 : Int) (r_40 : Bool) (r_41 : Int) => cond (r_41 == 0) (cond r_40 (cond (r_37 == 1) (nat_Nat_All_wp box box_1 box_2 box_3 box_4 box_5 box_6 list_1 now_3 1 m_2 (fun (rs_1 : List (Int × Int × Int × Int × Int × Int × Bool)) (list_2 : List (Option Nat)) (now_4 : Int) (m_3 : List (Nat × (Int × Int × Int × Int × Int × Int × Bool × (List (Int × Int))))) => K ((((rs_1.length : Nat) : Int) : Int) == 0))) (K false)) (K false)) (K false))) (cond ((((rs.length : Nat) : Int) : Int) == 0) (nat_Nat_All_wp box box_1 box_2 box_3 box_4 box_5 box_6 list_1 now_3 1 m_2 (fun (rs_2 : List (Int × Int × Int × Int × Int × Int × Bool)) (list_3 : List (Option Nat)) (now_5 : Int) (m_4 : List (Nat × (Int × Int × Int × Int × Int × Int × Bool × (List (Int × Int))))) => embrasureref08_Same_wp rs_2 ([] : List (Int × Int × Int × Int × Int × Int × Bool)) (fun (r_42 : Bool) => K r_42))) (K false))) (fun (Q_5 : Bool → Prop) => cond (decide ((((b_1.length : Nat) : Int) : Int) > 0)) (0 ≤ (0 : Int) ∧ (0 : Int) < ((b_1.length : Nat) : Int) ∧ (∀ (x_1 : Int), b_1[Int.toNat 0]? = some x_1 → (cond (x_1 == 2) (cond (!both) (cond (from_Host != 0) (cond (decide (from_Port ≥ 1)) (Q_5 (decide (from_Port ≤ 65535))) (Q_5 false)) (Q_5 false)) (Q_5 false)) (Q_5 false)))) (Q_5 false)))) (fun (Q_4 : Bool → Prop) => cond (r_31 == 0) (Q_4 true) (Q_4 ((((b_1.length : Nat) : Int) : Int) == 60))))))) (fun (Q_3 : Bool → Prop) => Q_3 (r_21 != 0))))) (fun (Q_1 : Bool → Prop) => Q_1 (r_9 != 0)))))))
theorem embrasurelaw11_GateDeaf_ok {p_1 : Option Addr} {n_1 c_1 : Nat} {b_1 : List (Int)} {from_Host from_Port : Int} {both : Bool} {FL : List HP} {w : World} {K : Bool → Prop} {R : Value → World → Prop}
  (hF_b_1 : ∀ w, Mem FL w → Rd w 1 p_1 enc5 b_1) (hl_b_1 : n_1 = b_1.length) (hc_b_1 : n_1 ≤ c_1)
  (h : Mem (FL) w) (hp : embrasurelaw11_GateDeaf_wp b_1 from_Host from_Port both K)
  (hR : ∀ (r : Bool) (w : World), Mem (FL) w → K r → R (Value.bool r) w) :
  CallV Try.prog 3 #[Value.slice p_1 n_1 c_1, (Value.agg #[Value.int .u32 from_Host, Value.int .i64 from_Port]), Value.bool both] w R := by
  refine embrasurelaw11_GateDeaf_call ?_
  unfold embrasurelaw11_GateDeaf
  unfold embrasurelaw11_GateDeaf_wp at hp
  subst hl_b_1
  replace h := stoNil stoE85 (fun _ => default) h
  refine newL (o := [Value.int .u32 from_Host, Value.int .i64 from_Port]) h ?_
  intro b_2 w h
  refine embrasurelaw11_awake_ok h hp ?_
  intro r w h hp
  refine ⟨_, rfl, ?_⟩
  refine cond_both hp (fun hp => ?_) (fun hp => ?_)
  · replace h := h.sel [] 2
    dsimp only [pickL, pickR, nthH, delH, dropH, List.cons_append, List.nil_append] at h
    exact hR false _ h hp
  refine cond_both hp (fun hp => ?_) (fun hp => ?_)
  · replace h := h.sel [] 2
    dsimp only [pickL, pickR, nthH, delH, dropH, List.cons_append, List.nil_append] at h
    exact hR true _ h hp
  refine embrasurelaw08_Box_ok h hp ?_
  intro r_1 r_2 r_3 r_4 r_5 r_6 r_7 w h hp
  refine ⟨_, _, _, _, _, _, _, rfl, ?_⟩
  refine nat_New_ok h hp ?_ ?_
  · intro r_8 w h hp
    refine ⟨_, _, rfl, ?_⟩
    refine ⟨_, rfl, ?_⟩
    refine ⟨_, rfl, ?_⟩
    obtain ⟨Q, hq, hp⟩ := hp
    refine ⟨fun b0p b0l b0c both2 from4 n7 t33 w => p_1 = b0p ∧ b_1.length = b0l ∧ c_1 = b0c ∧ both = both2 ∧ (Addr.mk b_2 0 none) = from4 ∧ none = n7 ∧ Q t33 ∧ Mem (cel b_2 25 [Value.int .u32 from_Host, Value.int .i64 from_Port] :: stoP stoE85 (fun _ => default) ([] : List (Nat × (Int × Int × Int × Int × Int × Int × Bool × (List (Int × Int))))) :: FL) w, ?_, ?_⟩
    · rintro b0p b0l b0c both2 from4 n7 t33 w ⟨rfl, rfl, rfl, rfl, rfl, rfl, hp, h⟩
      replace hp := hq t33 hp
      unfold embrasurelaw11_GateDeaf_j1
      refine cond_both' hp (fun hp => ?_) (fun hp => ?_)
      · exact hp.elim
      replace h := h.sel [] 2
      dsimp only [pickL, pickR, nthH, delH, dropH, List.cons_append, List.nil_append] at h
      exact hR false _ h hp
    clear hq
    refine eqlPtrNN undP27 ?_
    refine ⟨_, rfl, ?_⟩
    refine cond_tt ?_
    exact ⟨rfl, rfl, rfl, rfl, rfl, rfl, hp, h⟩
  rintro r_9 box box_1 box_2 box_3 box_4 box_5 box_6 list now b_3 p_2 n_2 c_2 w rfl h hp
  have cpp_2 := rowCap h 1 rfl
  refine ⟨_, _, rfl, ?_⟩
  refine ⟨_, rfl, ?_⟩
  refine ⟨_, rfl, ?_⟩
  obtain ⟨Q_1, hq, hp⟩ := hp
  refine ⟨fun b0_1p b0_1l b0_1c both2_1 from4_1 n7_1 t33_1 w => p_1 = b0_1p ∧ b_1.length = b0_1l ∧ c_1 = b0_1c ∧ both = both2_1 ∧ (Addr.mk b_2 0 none) = from4_1 ∧ (some (Addr.mk b_3 0 none)) = n7_1 ∧ Q_1 t33_1 ∧ Mem (cel b_3 71 [Value.int .u32 box, Value.int .i64 box_1, Value.int .i64 box_2, Value.int .i64 box_3, Value.int .i64 box_4, Value.int .i64 box_5, Value.int .i64 box_6, Value.slice p_2 list.length c_2, Value.int .i64 now] :: row enc82 82 1 p_2 c_2 list :: cel b_2 25 [Value.int .u32 from_Host, Value.int .i64 from_Port] :: stoP stoE85 (fun _ => default) ([] : List (Nat × (Int × Int × Int × Int × Int × Int × Bool × (List (Int × Int))))) :: FL) w, ?_, ?_⟩
  · rintro b0_1p b0_1l b0_1c both2_1 from4_1 n7_1 t33_1 w ⟨rfl, rfl, rfl, rfl, rfl, rfl, hp, h⟩
    replace hp := hq t33_1 hp
    unfold embrasurelaw11_GateDeaf_j1
    refine cond_both hp (fun hp => ?_) (fun hp => ?_)
    · replace h := h.sel [] 4
      dsimp only [pickL, pickR, nthH, delH, dropH, List.cons_append, List.nil_append] at h
      exact hR false _ h hp
    refine gate_New_ok h hp ?_ ?_
    · intro r_10 w h hp
      refine ⟨_, _, rfl, ?_⟩
      refine ⟨_, rfl, ?_⟩
      refine ⟨_, rfl, ?_⟩
      obtain ⟨Q_2, hq, hp⟩ := hp
      refine ⟨fun b0_2p b0_2l b0_2c both2_2 from4_2 n7_2 g9 t46 w => p_1 = b0_2p ∧ b_1.length = b0_2l ∧ c_1 = b0_2c ∧ both = both2_2 ∧ (Addr.mk b_2 0 none) = from4_2 ∧ (some (Addr.mk b_3 0 none)) = n7_2 ∧ none = g9 ∧ Q_2 t46 ∧ Mem (cel b_3 71 [Value.int .u32 box, Value.int .i64 box_1, Value.int .i64 box_2, Value.int .i64 box_3, Value.int .i64 box_4, Value.int .i64 box_5, Value.int .i64 box_6, Value.slice p_2 list.length c_2, Value.int .i64 now] :: row enc82 82 1 p_2 c_2 list :: cel b_2 25 [Value.int .u32 from_Host, Value.int .i64 from_Port] :: stoP stoE85 (fun _ => default) ([] : List (Nat × (Int × Int × Int × Int × Int × Int × Bool × (List (Int × Int))))) :: FL) w, ?_, ?_⟩
      · rintro b0_2p b0_2l b0_2c both2_2 from4_2 n7_2 g9 t46 w ⟨rfl, rfl, rfl, rfl, rfl, rfl, rfl, hp, h⟩
        replace hp := hq t46 hp
        unfold embrasurelaw11_GateDeaf_j2
        refine cond_both hp (fun hp => ?_) (fun hp => ?_)
        · replace h := h.sel [] 4
          dsimp only [pickL, pickR, nthH, delH, dropH, List.cons_append, List.nil_append] at h
          exact hR false _ h hp
        refine pmp_ReadAsk_ok (FL := cel b_3 71 [Value.int .u32 box, Value.int .i64 box_1, Value.int .i64 box_2, Value.int .i64 box_3, Value.int .i64 box_4, Value.int .i64 box_5, Value.int .i64 box_6, Value.slice p_2 list.length c_2, Value.int .i64 now] :: row enc82 82 1 p_2 c_2 list :: cel b_2 25 [Value.int .u32 from_Host, Value.int .i64 from_Port] :: stoP stoE85 (fun _ => default) ([] : List (Nat × (Int × Int × Int × Int × Int × Int × Bool × (List (Int × Int))))) :: FL) (fun w h => (hF_b_1 _ (h.drop 4))) rfl hc_b_1 h hp ?_
        intro r_11 r_12 r_13 r_14 r_15 r_16 r_17 r_18 r_19 r_20 w h hp
        refine ⟨_, _, _, _, _, _, _, _, _, _, rfl, ?_⟩
        refine ⟨_, _, _, _, _, _, _, _, rfl, ?_⟩
        refine ⟨_, rfl, ?_⟩
        refine newL (o := [Value.int .i64 0, Value.int .i64 0, Value.int .i64 0, Value.int .i64 0, Value.int .u64 0, Value.int .i64 0, Value.int .i64 0, Value.int .u32 0]) h ?_
        intro b_4 w h
        refine storeL (ys := [Value.int .i64 r_11, Value.int .i64 r_12, Value.int .i64 r_13, Value.int .i64 r_14, Value.int .u64 r_15, Value.int .i64 r_16, Value.int .i64 r_17, Value.int .u32 r_18]) h 0 0 rfl rfl rfl sz41 rfl rfl ?_
        intro w h
        dsimp only [setH, setVs, setV] at h
        refine ⟨_, cellL h 3 0 rfl rfl rfl, _, cellL h 3 1 rfl rfl rfl, ?_⟩
        exact hp.elim
      clear hq
      refine eqlPtrNN undP34 ?_
      refine ⟨_, rfl, ?_⟩
      refine cond_tt ?_
      exact ⟨rfl, rfl, rfl, rfl, rfl, rfl, rfl, hp, h⟩
    intro r_21 g_1 g_2 g_3 boot now_1 by_ b_5 b_6 p_3 w h hp
    refine ⟨_, _, rfl, ?_⟩
    refine ⟨_, rfl, ?_⟩
    refine ⟨_, rfl, ?_⟩
    obtain ⟨Q_3, hq, hp⟩ := hp
    refine ⟨fun b0_3p b0_3l b0_3c both2_3 from4_3 n7_3 g9_1 t46_1 w => p_1 = b0_3p ∧ b_1.length = b0_3l ∧ c_1 = b0_3c ∧ both = both2_3 ∧ (Addr.mk b_2 0 none) = from4_3 ∧ (some (Addr.mk b_3 0 none)) = n7_3 ∧ (some (Addr.mk b_5 0 none)) = g9_1 ∧ Q_3 t46_1 ∧ Mem (cel b_5 75 [Value.pointer (some (Addr.mk b_3 0 none)), Value.bool g_1, Value.bool g_2, Value.int .i64 g_3, Value.int .i64 boot, Value.int .i64 now_1, Value.map (some b_6)] :: cel b_3 71 [Value.int .u32 box, Value.int .i64 box_1, Value.int .i64 box_2, Value.int .i64 box_3, Value.int .i64 box_4, Value.int .i64 box_5, Value.int .i64 box_6, Value.slice p_2 list.length c_2, Value.int .i64 now] :: row enc82 82 1 p_2 c_2 list :: cel b_2 25 [Value.int .u32 from_Host, Value.int .i64 from_Port] :: mapQ b_6 va25 va111 p_3 by_ :: stoP stoE85 (fun _ => default) ([] : List (Nat × (Int × Int × Int × Int × Int × Int × Bool × (List (Int × Int))))) :: FL) w, ?_, ?_⟩
    · rintro b0_3p b0_3l b0_3c both2_3 from4_3 n7_3 g9_1 t46_1 w ⟨rfl, rfl, rfl, rfl, rfl, rfl, rfl, hp, h⟩
      replace hp := hq t46_1 hp
      unfold embrasurelaw11_GateDeaf_j2
      refine cond_both hp (fun hp => ?_) (fun hp => ?_)
      · replace h := h.sel [] 6
        dsimp only [pickL, pickR, nthH, delH, dropH, List.cons_append, List.nil_append] at h
        exact hR false _ h hp
      refine pmp_ReadAsk_ok (FL := cel b_5 75 [Value.pointer (some (Addr.mk b_3 0 none)), Value.bool g_1, Value.bool g_2, Value.int .i64 g_3, Value.int .i64 boot, Value.int .i64 now_1, Value.map (some b_6)] :: cel b_3 71 [Value.int .u32 box, Value.int .i64 box_1, Value.int .i64 box_2, Value.int .i64 box_3, Value.int .i64 box_4, Value.int .i64 box_5, Value.int .i64 box_6, Value.slice p_2 list.length c_2, Value.int .i64 now] :: row enc82 82 1 p_2 c_2 list :: cel b_2 25 [Value.int .u32 from_Host, Value.int .i64 from_Port] :: mapQ b_6 va25 va111 p_3 by_ :: stoP stoE85 (fun _ => default) ([] : List (Nat × (Int × Int × Int × Int × Int × Int × Bool × (List (Int × Int))))) :: FL) (fun w h => (hF_b_1 _ (h.drop 6))) rfl hc_b_1 h hp ?_
      intro r_22 r_23 r_24 r_25 r_26 r_27 r_28 r_29 r_30 r_31 w h hp
      refine ⟨_, _, _, _, _, _, _, _, _, _, rfl, ?_⟩
      refine ⟨_, _, _, _, _, _, _, _, rfl, ?_⟩
      refine ⟨_, rfl, ?_⟩
      refine newL (o := [Value.int .i64 0, Value.int .i64 0, Value.int .i64 0, Value.int .i64 0, Value.int .u64 0, Value.int .i64 0, Value.int .i64 0, Value.int .u32 0]) h ?_
      intro b_7 w h
      refine storeL (ys := [Value.int .i64 r_22, Value.int .i64 r_23, Value.int .i64 r_24, Value.int .i64 r_25, Value.int .u64 r_26, Value.int .i64 r_27, Value.int .i64 r_28, Value.int .u32 r_29]) h 0 0 rfl rfl rfl sz41 rfl rfl ?_
      intro w h
      dsimp only [setH, setVs, setV] at h
      refine ⟨_, cellL h 4 0 rfl rfl rfl, _, cellL h 4 1 rfl rfl rfl, ?_⟩
      replace h := h.pick [1, 1, 1, 2, 2]
      dsimp only [pickL, pickR, nthH, delH, dropH, List.cons_append, List.nil_append] at h
      refine gate_Gate_Hear_ok (FL := cel b_7 41 [Value.int .i64 r_22, Value.int .i64 r_23, Value.int .i64 r_24, Value.int .i64 r_25, Value.int .u64 r_26, Value.int .i64 r_27, Value.int .i64 r_28, Value.int .u32 r_29] :: cel b_2 25 [Value.int .u32 from_Host, Value.int .i64 from_Port] :: FL) (fun w h => (hF_b_1 _ (h.drop 2))) rfl hc_b_1 h hp ?_
      rintro rs now_2 list_1 now_3 m_1 m_2 p_4 n_3 c_3 p_5 n_4 c_4 p_6 hd w rfl rfl h hp
      have cpp_4 := rowCap h 0 rfl
      have cpp_5 := rowCap h 3 rfl
      refine ⟨_, _, _, rfl, ?_⟩
      obtain ⟨Q_4, hq, hp⟩ := hp
      refine ⟨fun b0_4p b0_4l b0_4c both2_4 from4_4 n7_4 out14p out14l out14c t63 w => p_1 = b0_4p ∧ b_1.length = b0_4l ∧ c_1 = b0_4c ∧ both = both2_4 ∧ (Addr.mk b_2 0 none) = from4_4 ∧ (some (Addr.mk b_3 0 none)) = n7_4 ∧ p_4 = out14p ∧ rs.length = out14l ∧ c_3 = out14c ∧ Q_4 t63 ∧ Mem (cel b_5 75 [Value.pointer (some (Addr.mk b_3 0 none)), Value.bool g_1, Value.bool g_2, Value.int .i64 g_3, Value.int .i64 boot, Value.int .i64 now_2, Value.map (some b_6)] :: cel b_3 71 [Value.int .u32 box, Value.int .i64 box_1, Value.int .i64 box_2, Value.int .i64 box_3, Value.int .i64 box_4, Value.int .i64 box_5, Value.int .i64 box_6, Value.slice p_5 list_1.length c_4, Value.int .i64 now_3] :: row enc82 82 1 p_5 c_4 list_1 :: cel b_7 41 [Value.int .i64 r_22, Value.int .i64 r_23, Value.int .i64 r_24, Value.int .i64 r_25, Value.int .u64 r_26, Value.int .i64 r_27, Value.int .i64 r_28, Value.int .u32 r_29] :: cel b_2 25 [Value.int .u32 from_Host, Value.int .i64 from_Port] :: mapQ b_6 va25 va111 p_6 m_1 :: stoP stoE85 hd m_2 :: row enc5 5 1 p_4 c_3 rs :: FL) w, ?_, ?_⟩
      · rintro b0_4p b0_4l b0_4c both2_4 from4_4 n7_4 out14p out14l out14c t63 w ⟨rfl, rfl, rfl, rfl, rfl, rfl, rfl, rfl, rfl, hp, h⟩
        replace hp := hq t63 hp
        unfold embrasurelaw11_GateDeaf_j3
        refine cond_both hp (fun hp => ?_) (fun hp => ?_)
        · replace h := h.sel [] 8
          dsimp only [pickL, pickR, nthH, delH, dropH, List.cons_append, List.nil_append] at h
          exact hR true _ h hp
        obtain ⟨Q_5, hq, hp⟩ := hp
        refine ⟨fun n7_5 out14_1p out14_1l out14_1c t91 w => (some (Addr.mk b_3 0 none)) = n7_5 ∧ p_4 = out14_1p ∧ rs.length = out14_1l ∧ c_3 = out14_1c ∧ Q_5 t91 ∧ Mem (cel b_5 75 [Value.pointer (some (Addr.mk b_3 0 none)), Value.bool g_1, Value.bool g_2, Value.int .i64 g_3, Value.int .i64 boot, Value.int .i64 now_2, Value.map (some b_6)] :: cel b_3 71 [Value.int .u32 box, Value.int .i64 box_1, Value.int .i64 box_2, Value.int .i64 box_3, Value.int .i64 box_4, Value.int .i64 box_5, Value.int .i64 box_6, Value.slice p_5 list_1.length c_4, Value.int .i64 now_3] :: row enc82 82 1 p_5 c_4 list_1 :: cel b_7 41 [Value.int .i64 r_22, Value.int .i64 r_23, Value.int .i64 r_24, Value.int .i64 r_25, Value.int .u64 r_26, Value.int .i64 r_27, Value.int .i64 r_28, Value.int .u32 r_29] :: cel b_2 25 [Value.int .u32 from_Host, Value.int .i64 from_Port] :: mapQ b_6 va25 va111 p_6 m_1 :: stoP stoE85 hd m_2 :: row enc5 5 1 p_4 c_3 rs :: FL) w, ?_, ?_⟩
        · rintro n7_5 out14_1p out14_1l out14_1c t91 w ⟨rfl, rfl, rfl, rfl, hp, h⟩
          replace hp := hq t91 hp
          unfold embrasurelaw11_GateDeaf_j4
          refine cond_both' hp (fun hp => ?_) (fun hp => ?_)
          · refine cond_both' hp (fun hp => ?_) (fun hp => ?_)
            · replace h := h.sel [] 8
              dsimp only [pickL, pickR, nthH, delH, dropH, List.cons_append, List.nil_append] at h
              exact hR false _ h hp
            replace h := h.pick [1, 1, 4]
            dsimp only [pickL, pickR, nthH, delH, dropH, List.cons_append, List.nil_append] at h
            refine nat_Nat_All_ok h hp ?_
            rintro rs_2 list_3 now_5 m_4 p_9 n_7 c_7 p_10 n_8 c_8 hd_2 w rfl rfl h hp
            have cpp_9 := rowCap h 0 rfl
            have cpp_10 := rowCap h 2 rfl
            refine ⟨_, _, _, rfl, ?_⟩
            refine embrasureref08_Same_ok (FL := row enc55 55 7 p_9 c_7 rs_2 :: cel b_3 71 [Value.int .u32 box, Value.int .i64 box_1, Value.int .i64 box_2, Value.int .i64 box_3, Value.int .i64 box_4, Value.int .i64 box_5, Value.int .i64 box_6, Value.slice p_10 list_3.length c_8, Value.int .i64 now_5] :: row enc82 82 1 p_10 c_8 list_3 :: stoP stoE85 hd_2 m_4 :: cel b_5 75 [Value.pointer (some (Addr.mk b_3 0 none)), Value.bool g_1, Value.bool g_2, Value.int .i64 g_3, Value.int .i64 boot, Value.int .i64 now_2, Value.map (some b_6)] :: cel b_7 41 [Value.int .i64 r_22, Value.int .i64 r_23, Value.int .i64 r_24, Value.int .i64 r_25, Value.int .u64 r_26, Value.int .i64 r_27, Value.int .i64 r_28, Value.int .u32 r_29] :: cel b_2 25 [Value.int .u32 from_Host, Value.int .i64 from_Port] :: mapQ b_6 va25 va111 p_6 m_1 :: row enc5 5 1 p_4 c_3 rs :: FL) (fun w h => (rowRd h 0 encL55 rfl)) rfl cpp_9 (fun w h => Rd.nil) rfl (Nat.le_refl _) h hp ?_
            intro r_42 w h hp
            refine ⟨_, rfl, ?_⟩
            replace h := h.sel [] 9
            dsimp only [pickL, pickR, nthH, delH, dropH, List.cons_append, List.nil_append] at h
            exact hR r_42 _ h hp
          refine pmp_ReadAnswer_ok (FL := cel b_5 75 [Value.pointer (some (Addr.mk b_3 0 none)), Value.bool g_1, Value.bool g_2, Value.int .i64 g_3, Value.int .i64 boot, Value.int .i64 now_2, Value.map (some b_6)] :: cel b_3 71 [Value.int .u32 box, Value.int .i64 box_1, Value.int .i64 box_2, Value.int .i64 box_3, Value.int .i64 box_4, Value.int .i64 box_5, Value.int .i64 box_6, Value.slice p_5 list_1.length c_4, Value.int .i64 now_3] :: row enc82 82 1 p_5 c_4 list_1 :: cel b_7 41 [Value.int .i64 r_22, Value.int .i64 r_23, Value.int .i64 r_24, Value.int .i64 r_25, Value.int .u64 r_26, Value.int .i64 r_27, Value.int .i64 r_28, Value.int .u32 r_29] :: cel b_2 25 [Value.int .u32 from_Host, Value.int .i64 from_Port] :: mapQ b_6 va25 va111 p_6 m_1 :: stoP stoE85 hd m_2 :: row enc5 5 1 p_4 c_3 rs :: FL) (fun w h => (rowRd h 7 encL5 rfl)) rfl cpp_4 h hp ?_
          intro r_32 r_33 r_34 r_35 r_36 r_37 r_38 r_39 r_40 r_41 w h hp
          refine ⟨_, _, _, _, _, _, _, _, _, _, rfl, ?_⟩
          refine ⟨_, _, _, _, _, _, _, _, rfl, ?_⟩
          refine ⟨_, rfl, ?_⟩
          refine newL (o := [Value.int .i64 0, Value.int .i64 0, Value.int .i64 0, Value.int .i64 0, Value.int .u64 0, Value.int .i64 0, Value.int .i64 0, Value.int .u32 0]) h ?_
          intro b_8 w h
          refine storeL (ys := [Value.int .i64 r_32, Value.int .i64 r_33, Value.int .i64 r_34, Value.int .i64 r_35, Value.int .u64 r_36, Value.int .i64 r_37, Value.int .i64 r_38, Value.int .u32 r_39]) h 0 0 rfl rfl rfl sz41 rfl rfl ?_
          intro w h
          dsimp only [setH, setVs, setV] at h
          refine cond_both' hp (fun hp => ?_) (fun hp => ?_)
          · replace h := h.sel [] 9
            dsimp only [pickL, pickR, nthH, delH, dropH, List.cons_append, List.nil_append] at h
            exact hR false _ h hp
          refine cond_both' hp (fun hp => ?_) (fun hp => ?_)
          · replace h := h.sel [] 9
            dsimp only [pickL, pickR, nthH, delH, dropH, List.cons_append, List.nil_append] at h
            exact hR false _ h hp
          refine ⟨_, cellL h 0 5 rfl rfl rfl, ?_⟩
          refine cond_both' hp (fun hp => ?_) (fun hp => ?_)
          · replace h := h.sel [] 9
            dsimp only [pickL, pickR, nthH, delH, dropH, List.cons_append, List.nil_append] at h
            exact hR false _ h hp
          replace h := h.pick [2, 2, 5]
          dsimp only [pickL, pickR, nthH, delH, dropH, List.cons_append, List.nil_append] at h
          refine nat_Nat_All_ok h hp ?_
          rintro rs_1 list_2 now_4 m_3 p_7 n_5 c_5 p_8 n_6 c_6 hd_1 w rfl rfl h hp
          have cpp_7 := rowCap h 0 rfl
          have cpp_8 := rowCap h 2 rfl
          refine ⟨_, _, _, rfl, ?_⟩
          replace h := h.sel [] 10
          dsimp only [pickL, pickR, nthH, delH, dropH, List.cons_append, List.nil_append] at h
          exact hR ((((rs_1.length : Nat) : Int) : Int) == 0) _ h hp
        clear hq
        refine cond_both' hp (fun hp => ?_) (fun hp => ?_)
        · exact ⟨rfl, rfl, rfl, rfl, hp, h⟩
        obtain ⟨ia_1, ja_1, hp⟩ := hp
        obtain ⟨a_1, ha_1⟩ := rdAddr (hF_b_1 _ (h.drop 8)) rfl ia_1 ja_1
        refine ⟨a_1, ha_1, ia_1, ja_1, ?_⟩
        obtain ⟨x_1, hx_1, hc⟩ := rdCell0 (hF_b_1 _ (h.drop 8)) ha_1 rfl ia_1 ja_1
        replace hp := hp x_1 hx_1
        refine ⟨_, hc _ rfl, ?_⟩
        refine cond_both' hp (fun hp => ?_) (fun hp => ?_)
        · exact ⟨rfl, rfl, rfl, rfl, hp, h⟩
        refine cond_both' hp (fun hp => ?_) (fun hp => ?_)
        · exact ⟨rfl, rfl, rfl, rfl, hp, h⟩
        refine ⟨_, cellL h 4 0 rfl rfl rfl, ?_⟩
        refine cond_both' hp (fun hp => ?_) (fun hp => ?_)
        · exact ⟨rfl, rfl, rfl, rfl, hp, h⟩
        refine ⟨_, cellL h 4 1 rfl rfl rfl, ?_⟩
        refine cond_both' hp (fun hp => ?_) (fun hp => ?_)
        · exact ⟨rfl, rfl, rfl, rfl, hp, h⟩
        refine ⟨_, cellL h 4 1 rfl rfl rfl, ?_⟩
        exact ⟨rfl, rfl, rfl, rfl, hp, h⟩
      clear hq
      refine cond_both hp (fun hp => ?_) (fun hp => ?_)
      · replace h := h.sel [1, 1, 1, 3, 3, 1, 1, 0] 0
        dsimp only [pickL, pickR, nthH, delH, dropH, List.cons_append, List.nil_append] at h
        exact ⟨rfl, rfl, rfl, rfl, rfl, rfl, rfl, rfl, rfl, hp, h⟩
      replace h := h.sel [1, 1, 1, 3, 3, 1, 1, 0] 0
      dsimp only [pickL, pickR, nthH, delH, dropH, List.cons_append, List.nil_append] at h
      exact ⟨rfl, rfl, rfl, rfl, rfl, rfl, rfl, rfl, rfl, hp, h⟩
    clear hq
    refine eqlPtrNil undP34 ?_
    refine ⟨_, rfl, ?_⟩
    refine cond_ff ?_
    replace h := h.sel [0, 1, 1, 1, 0, 0] 0
    dsimp only [pickL, pickR, nthH, delH, dropH, List.cons_append, List.nil_append] at h
    exact ⟨rfl, rfl, rfl, rfl, rfl, rfl, rfl, hp, h⟩
  clear hq
  refine eqlPtrNil undP27 ?_
  refine ⟨_, rfl, ?_⟩
  refine cond_ff ?_
  exact ⟨rfl, rfl, rfl, rfl, rfl, rfl, hp, h⟩
end Go.Proofs.Ytnmdnkmemjfoeaa
