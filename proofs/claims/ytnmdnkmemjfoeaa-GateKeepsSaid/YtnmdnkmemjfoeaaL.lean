/- Each function over plain data (printed by a program of this claim's author). -/
import Derived.Test.YtnmdnkmemjfoeaaL4
namespace Go.Proofs.Ytnmdnkmemjfoeaa
open Go Go.Eng Go.Proofs
set_option maxRecDepth 100000
set_option maxHeartbeats 2000000
def embrasurelaw11_GateKeeps_wp (ask_Ver ask_Inside ask_Port ask_Secs ask_Nonce ask_Result ask_Epoch ask_Host from_Host from_Port how_x how_x_1 : Int) (K : Bool → Prop) : Prop :=
  embrasurelaw11_awake_wp (fun (r : Bool) => cond (!r) (K false) (embrasurelaw08_Box_wp 0 (fun (r_1 r_2 r_3 r_4 r_5 r_6 r_7 : Int) => nat_New_wp r_1 r_2 r_3 r_4 r_5 r_6 r_7 (fun (r_8 : Int) => joinP1 (fun (t36 : Bool) => cond t36 (K false) (False)) (fun (Q : Bool → Prop) => Q true)) (fun (r_9 box box_1 box_2 box_3 box_4 box_5 box_6 : Int) (list : List (Option Nat)) (now : Int) => joinP1 (fun (t36_1 : Bool) => cond t36_1 (K false) (gate_New_wp box box_1 box_2 box_3 box_4 box_5 box_6 now false true 100 0 (fun (r_10 : Int) => joinP1 (fun (t48 : Bool) => cond t48 (K false) ((pcp_Ask_wp 2 ask_Inside ask_Port 50 ask_Nonce 0 0 0 from_Host (fun (rs : List (Int)) => (False) ∧ (False))) ∧ (pcp_Ask_wp 2 ask_Inside ask_Port 50 ask_Nonce 0 0 0 from_Host (fun (rs_1 : List (Int)) => False)))) (fun (Q_2 : Bool → Prop) => Q_2 true)) (fun (r_11 : Int) (g_1 g_2 : Bool) (g_3 boot now_1 : Int) (by_ : List ((Int × Int) × (Int × Int))) => joinP1 (fun (t48_1 : Bool) => cond t48_1 (K false) (joinP14 (fun (now_2 : Int) (list_1 : List (Option Nat)) (now_3 Ver Inside Port Secs Nonce Result_ Epoch Host h14_1 : Int) (m_1 : List ((Int × Int) × (Int × Int))) (m_2 : List (Nat × (Int × Int × Int × Int × Int × Int × Bool × (List (Int × Int))))) => joinP1 (fun (t72 : Bool) => cond t72 (K true) (nat_Nat_All_wp box box_1 box_2 box_3 box_4 box_5 box_6 list_1 now_3 1 m_2 (fun (rs_7 : List (Int × Int × Int × Int × Int × Int × Bool)) (list_5 : List (Option Nat)) (now_10 : Int) (m_9 : List (Nat × (Int × Int × Int × Int × Int × Int × Bool × (List (Int × Int))))) => joinP14 (fun (list_6 : List (Option Nat)) (now_11 now_12 Ver_1 Inside_1 Port_1 Secs_1 Nonce_1 Result__1 Epoch_1 Host_1 i17 : Int) (m_10 : List (Nat × (Int × Int × Int × Int × Int × Int × Bool × (List (Int × Int))))) (m_11 : List ((Int × Int) × (Int × Int))) => joinP1 (fun (t111 : Bool) => cond t111 (K false) (cond (((IntKind.wrap .u64 how_x) : Int) != ask_Nonce) (cond (Result__1 == 2) (cond (Secs_1 == 0) (nat_Nat_All_wp box box_1 box_2 box_3 box_4 box_5 box_6 list_6 now_11 1 m_10 (fun (rs_13 : List (Int × Int × Int × Int × Int × Int × Bool)) (list_10 : List (Option Nat)) (now_19 : Int) (m_18 : List (Nat × (Int × Int × Int × Int × Int × Int × Bool × (List (Int × Int))))) => embrasureref08_Same_wp rs_13 rs_7 (fun (r_84 : Bool) => K r_84))) (K false)) (K false)) (cond (how_x_1 == 0) (cond (Result__1 == 0) (nat_Nat_All_wp box box_1 box_2 box_3 box_4 box_5 box_6 list_6 now_11 1 m_10 (fun (rs_14 : List (Int × Int × Int × Int × Int × Int × Bool)) (list_11 : List (Option Nat)) (now_20 : Int) (m_19 : List (Nat × (Int × Int × Int × Int × Int × Int × Bool × (List (Int × Int))))) => K ((((rs_14.length : Nat) : Int) : Int) == 0))) (K false)) (nat_Nat_All_wp box box_1 box_2 box_3 box_4 box_5 box_6 list_6 now_11 1 m_10 (fun (rs_15 : List (Int × Int × Int × Int × Int × Int × Bool)) (list_12 : List (Option Nat)) (now_21 : Int) (m_20 : List (Nat × (Int × Int × Int × Int × Int × Int × Bool × (List (Int × Int))))) => cond (Result__1 == 0) (cond (Port_1 == Port) (cond (Secs_1 == (if (100 : Int) < (IntKind.wrap .i64 how_x_1) then 100 else (IntKind.wrap .i64 how_x_1))) (cond ((((rs_15.length : Nat) : Int) : Int) == 1) (0 ≤ (0 : Int) ∧ (0 : Int) < ((rs_15.length : Nat) : Int) ∧ (∀ (x_1 : Int × Int × Int × Int × Int × Int × Bool), rs_15[Int.toNat 0]? = some x_1 → (K ((x_1.2.2.2.2.2.1 : Int) == (IntKind.wrap .i64 (1 + Secs_1)))))) (K false)) (K false)) (K false)) (K false)))))) (fun (Q_8 : Bool → Prop) => cond (i17 != 0) (Q_8 true) (cond (Nonce != ask_Nonce) (Q_8 true) (cond (Secs != 50) (Q_8 true) (Q_8 ((((rs_7.length : Nat) : Int) : Int) != 1)))))) (fun (Q_7 : List (Option Nat) → Int → Int → Int → Int → Int → Int → Int → Int → Int → Int → Int → List (Nat × (Int × Int × Int × Int × Int × Int × Bool × (List (Int × Int)))) → List ((Int × Int) × (Int × Int)) → Prop) => (pcp_Ask_wp 2 ask_Inside ask_Port (IntKind.wrap .i64 how_x_1) (IntKind.wrap .u64 how_x) 0 0 0 from_Host (fun (rs_8 : List (Int)) => (gate_Gate_Hear_wp box box_1 box_2 box_3 box_4 box_5 box_6 list_5 now_10 g_1 g_2 g_3 boot now_2 m_1 1 from_Host from_Port rs_8 m_9 (fun (rs_9 : List (Int)) (now_13 : Int) (list_7 : List (Option Nat)) (now_14 : Int) (m_12 : List ((Int × Int) × (Int × Int))) (m_13 : List (Nat × (Int × Int × Int × Int × Int × Int × Bool × (List (Int × Int))))) => (pcp_ReadAnswer_wp rs_9 (fun (r_48 r_49 r_50 r_51 r_52 r_53 r_54 r_55 r_56 : Int) => Q_7 list_7 now_14 now_13 r_48 r_49 r_50 r_51 r_52 r_53 r_54 r_55 r_56 m_13 m_12)) ∧ (pcp_ReadAnswer_wp rs_9 (fun (r_57 r_58 r_59 r_60 r_61 r_62 r_63 r_64 r_65 : Int) => Q_7 list_7 now_14 now_13 r_57 r_58 r_59 r_60 r_61 r_62 r_63 r_64 r_65 m_13 m_12)))) ∧ (gate_Gate_Hear_wp box box_1 box_2 box_3 box_4 box_5 box_6 list_5 now_10 g_1 g_2 g_3 boot now_2 m_1 1 from_Host from_Port rs_8 m_9 (fun (rs_10 : List (Int)) (now_15 : Int) (list_8 : List (Option Nat)) (now_16 : Int) (m_14 : List ((Int × Int) × (Int × Int))) (m_15 : List (Nat × (Int × Int × Int × Int × Int × Int × Bool × (List (Int × Int))))) => pcp_ReadAnswer_wp rs_10 (fun (r_66 r_67 r_68 r_69 r_70 r_71 r_72 r_73 r_74 : Int) => Q_7 list_8 now_16 now_15 r_66 r_67 r_68 r_69 r_70 r_71 r_72 r_73 r_74 m_15 m_14))))) ∧ (pcp_Ask_wp 2 ask_Inside ask_Port (IntKind.wrap .i64 how_x_1) (IntKind.wrap .u64 how_x) 0 0 0 from_Host (fun (rs_11 : List (Int)) => gate_Gate_Hear_wp box box_1 box_2 box_3 box_4 box_5 box_6 list_5 now_10 g_1 g_2 g_3 boot now_2 m_1 1 from_Host from_Port rs_11 m_9 (fun (rs_12 : List (Int)) (now_17 : Int) (list_9 : List (Option Nat)) (now_18 : Int) (m_16 : List ((Int × Int) × (Int × Int))) (m_17 : List (Nat × (Int × Int × Int × Int × Int × Int × Bool × (List (Int × Int))))) => pcp_ReadAnswer_wp rs_12 (fun (r_75 r_76 r_77 r_78 r_79 r_80 r_81 r_82 r_83 : Int) => Q_7 list_9 now_18 now_17 r_75 r_76 r_77 r_78 r_79 r_80 r_81 r_82 r_83 m_17 m_16)))))))) (fun (Q_6 : Bool → Prop) => cond (h14_1 != 0) (Q_6 true) (Q_6 (Result_ != 0)))) (fun (Q_5 : Int → List (Option Nat) → Int → Int → Int → Int → Int → Int → Int → Int → Int → Int → List ((Int × Int) × (Int × Int)) → List (Nat × (Int × Int × Int × Int × Int × Int × Bool × (List (Int × Int)))) → Prop) => (pcp_Ask_wp 2 ask_Inside ask_Port 50 ask_Nonce 0 0 0 from_Host (fun (rs_2 : List (Int)) => (gate_Gate_Hear_wp box box_1 box_2 box_3 box_4 box_5 box_6 list now g_1 g_2 g_3 boot now_1 by_ 0 from_Host from_Port rs_2 ([] : List (Nat × (Int × Int × Int × Int × Int × Int × Bool × (List (Int × Int))))) (fun (rs_3 : List (Int)) (now_4 : Int) (list_2 : List (Option Nat)) (now_5 : Int) (m_3 : List ((Int × Int) × (Int × Int))) (m_4 : List (Nat × (Int × Int × Int × Int × Int × Int × Bool × (List (Int × Int))))) => (pcp_ReadAnswer_wp rs_3 (fun (r_12 r_13 r_14 r_15 r_16 r_17 r_18 r_19 r_20 : Int) => Q_5 now_4 list_2 now_5 r_12 r_13 r_14 r_15 r_16 r_17 r_18 r_19 r_20 m_3 m_4)) ∧ (pcp_ReadAnswer_wp rs_3 (fun (r_21 r_22 r_23 r_24 r_25 r_26 r_27 r_28 r_29 : Int) => Q_5 now_4 list_2 now_5 r_21 r_22 r_23 r_24 r_25 r_26 r_27 r_28 r_29 m_3 m_4)))) ∧ (gate_Gate_Hear_wp box box_1 box_2 box_3 box_4 box_5 box_6 list now g_1 g_2 g_3 boot now_1 by_ 0 from_Host from_Port rs_2 ([] : List (Nat × (Int × Int × Int × Int × Int × Int × Bool × (List (Int × Int))))) (fun (rs_4 : List (Int)) (now_6 : Int) (list_3 : List (Option Nat)) (now_7 : Int) (m_5 : List ((Int × Int) × (Int × Int))) (m_6 : List (Nat × (Int × Int × Int × Int × Int × Int × Bool × (List (Int × Int))))) => pcp_ReadAnswer_wp rs_4 (fun (r_30 r_31 r_32 r_33 r_34 r_35 r_36 r_37 r_38 : Int) => Q_5 now_6 list_3 now_7 r_30 r_31 r_32 r_33 r_34 r_35 r_36 r_37 r_38 m_5 m_6))))) ∧ (pcp_Ask_wp 2 ask_Inside ask_Port 50 ask_Nonce 0 0 0 from_Host (fun (rs_5 : List (Int)) => gate_Gate_Hear_wp box box_1 box_2 box_3 box_4 box_5 box_6 list now g_1 g_2 g_3 boot now_1 by_ 0 from_Host from_Port rs_5 ([] : List (Nat × (Int × Int × Int × Int × Int × Int × Bool × (List (Int × Int))))) (fun (rs_6 : List (Int)) (now_8 : Int) (list_4 : List (Option Nat)) (now_9 : Int) (m_7 : List ((Int × Int) × (Int × Int))) (m_8 : List (Nat × (Int × Int × Int × Int × Int × Int × Bool × (List (Int × Int))))) => pcp_ReadAnswer_wp rs_6 (fun (r_39 r_40 r_41 r_42 r_43 r_44 r_45 r_46 r_47 : Int) => Q_5 now_8 list_4 now_9 r_39 r_40 r_41 r_42 r_43 r_44 r_45 r_46 r_47 m_7 m_8))))))) (fun (Q_4 : Bool → Prop) => Q_4 (r_11 != 0))))) (fun (Q_1 : Bool → Prop) => Q_1 (r_9 != 0))))))
theorem embrasurelaw11_GateKeeps_ok {ask_Ver ask_Inside ask_Port ask_Secs ask_Nonce ask_Result ask_Epoch ask_Host from_Host from_Port how_x how_x_1 : Int} {FL : List HP} {w : World} {K : Bool → Prop} {R : Value → World → Prop}
  (h : Mem (FL) w) (hp : embrasurelaw11_GateKeeps_wp ask_Ver ask_Inside ask_Port ask_Secs ask_Nonce ask_Result ask_Epoch ask_Host from_Host from_Port how_x how_x_1 K)
  (hR : ∀ (r : Bool) (w : World), Mem (FL) w → K r → R (Value.bool r) w) :
  CallV Try.prog 4 #[(Value.agg #[Value.int .i64 ask_Ver, Value.int .i64 ask_Inside, Value.int .i64 ask_Port, Value.int .i64 ask_Secs, Value.int .u64 ask_Nonce, Value.int .i64 ask_Result, Value.int .i64 ask_Epoch, Value.int .u32 ask_Host]), (Value.agg #[Value.int .u32 from_Host, Value.int .i64 from_Port]), (Value.agg #[Value.int .u16 how_x, Value.int .u16 how_x_1])] w R := by
  refine embrasurelaw11_GateKeeps_call ?_
  unfold embrasurelaw11_GateKeeps
  unfold embrasurelaw11_GateKeeps_wp at hp
  replace h := stoNil stoE85 (fun _ => default) h
  refine newL (o := [Value.int .i64 ask_Ver, Value.int .i64 ask_Inside, Value.int .i64 ask_Port, Value.int .i64 ask_Secs, Value.int .u64 ask_Nonce, Value.int .i64 ask_Result, Value.int .i64 ask_Epoch, Value.int .u32 ask_Host]) h ?_
  intro b_1 w h
  refine newL (o := [Value.int .u32 from_Host, Value.int .i64 from_Port]) h ?_
  intro b_2 w h
  refine newL (o := [Value.int .u16 how_x, Value.int .u16 how_x_1]) h ?_
  intro b_3 w h
  refine embrasurelaw11_awake_ok h hp ?_
  intro r w h hp
  refine ⟨_, rfl, ?_⟩
  refine cond_both hp (fun hp => ?_) (fun hp => ?_)
  · replace h := h.sel [] 4
    dsimp only [pickL, pickR, nthH, delH, dropH, List.cons_append, List.nil_append] at h
    exact hR false _ h hp
  refine ⟨by decide, by decide, ?_⟩
  refine ⟨_, cellL h 0 0 rfl rfl rfl, ?_⟩
  refine ⟨by decide, by decide, ?_⟩
  refine ⟨_, cellL h 0 1 rfl rfl rfl, ?_⟩
  refine embrasurelaw08_Box_ok h hp ?_
  intro r_1 r_2 r_3 r_4 r_5 r_6 r_7 w h hp
  refine ⟨_, _, _, _, _, _, _, rfl, ?_⟩
  refine nat_New_ok h hp ?_ ?_
  · intro r_8 w h hp
    refine ⟨_, _, rfl, ?_⟩
    refine ⟨_, rfl, ?_⟩
    refine ⟨_, rfl, ?_⟩
    obtain ⟨Q, hq, hp⟩ := hp
    refine ⟨fun ask3 from4 other7 secs8 n9 t36 w => (Addr.mk b_1 0 none) = ask3 ∧ (Addr.mk b_2 0 none) = from4 ∧ (IntKind.wrap .u64 how_x) = other7 ∧ how_x_1 = secs8 ∧ none = n9 ∧ Q t36 ∧ Mem (cel b_3 50 [Value.int .u16 how_x, Value.int .u16 how_x_1] :: cel b_2 25 [Value.int .u32 from_Host, Value.int .i64 from_Port] :: cel b_1 41 [Value.int .i64 ask_Ver, Value.int .i64 ask_Inside, Value.int .i64 ask_Port, Value.int .i64 ask_Secs, Value.int .u64 ask_Nonce, Value.int .i64 ask_Result, Value.int .i64 ask_Epoch, Value.int .u32 ask_Host] :: stoP stoE85 (fun _ => default) ([] : List (Nat × (Int × Int × Int × Int × Int × Int × Bool × (List (Int × Int))))) :: FL) w, ?_, ?_⟩
    · rintro ask3 from4 other7 secs8 n9 t36 w ⟨rfl, rfl, rfl, rfl, rfl, hp, h⟩
      replace hp := hq t36 hp
      unfold embrasurelaw11_GateKeeps_j1
      refine cond_both' hp (fun hp => ?_) (fun hp => ?_)
      · exact hp.elim
      replace h := h.sel [] 4
      dsimp only [pickL, pickR, nthH, delH, dropH, List.cons_append, List.nil_append] at h
      exact hR false _ h hp
    clear hq
    refine eqlPtrNN undP27 ?_
    refine ⟨_, rfl, ?_⟩
    refine cond_tt ?_
    exact ⟨rfl, rfl, rfl, rfl, rfl, hp, h⟩
  rintro r_9 box box_1 box_2 box_3 box_4 box_5 box_6 list now b_4 p_1 n_1 c_1 w rfl h hp
  have cpp_1 := rowCap h 1 rfl
  refine ⟨_, _, rfl, ?_⟩
  refine ⟨_, rfl, ?_⟩
  refine ⟨_, rfl, ?_⟩
  obtain ⟨Q_1, hq, hp⟩ := hp
  refine ⟨fun ask3_1 from4_1 other7_1 secs8_1 n9_1 t36_1 w => (Addr.mk b_1 0 none) = ask3_1 ∧ (Addr.mk b_2 0 none) = from4_1 ∧ (IntKind.wrap .u64 how_x) = other7_1 ∧ how_x_1 = secs8_1 ∧ (some (Addr.mk b_4 0 none)) = n9_1 ∧ Q_1 t36_1 ∧ Mem (cel b_4 71 [Value.int .u32 box, Value.int .i64 box_1, Value.int .i64 box_2, Value.int .i64 box_3, Value.int .i64 box_4, Value.int .i64 box_5, Value.int .i64 box_6, Value.slice p_1 list.length c_1, Value.int .i64 now] :: row enc82 82 1 p_1 c_1 list :: cel b_3 50 [Value.int .u16 how_x, Value.int .u16 how_x_1] :: cel b_2 25 [Value.int .u32 from_Host, Value.int .i64 from_Port] :: cel b_1 41 [Value.int .i64 ask_Ver, Value.int .i64 ask_Inside, Value.int .i64 ask_Port, Value.int .i64 ask_Secs, Value.int .u64 ask_Nonce, Value.int .i64 ask_Result, Value.int .i64 ask_Epoch, Value.int .u32 ask_Host] :: stoP stoE85 (fun _ => default) ([] : List (Nat × (Int × Int × Int × Int × Int × Int × Bool × (List (Int × Int))))) :: FL) w, ?_, ?_⟩
  · rintro ask3_1 from4_1 other7_1 secs8_1 n9_1 t36_1 w ⟨rfl, rfl, rfl, rfl, rfl, hp, h⟩
    replace hp := hq t36_1 hp
    unfold embrasurelaw11_GateKeeps_j1
    refine cond_both hp (fun hp => ?_) (fun hp => ?_)
    · replace h := h.sel [] 6
      dsimp only [pickL, pickR, nthH, delH, dropH, List.cons_append, List.nil_append] at h
      exact hR false _ h hp
    refine gate_New_ok h hp ?_ ?_
    · intro r_10 w h hp
      refine ⟨_, _, rfl, ?_⟩
      refine ⟨_, rfl, ?_⟩
      refine ⟨_, rfl, ?_⟩
      obtain ⟨Q_2, hq, hp⟩ := hp
      refine ⟨fun ask3_2 from4_2 other7_2 secs8_2 n9_2 g11 t48 w => (Addr.mk b_1 0 none) = ask3_2 ∧ (Addr.mk b_2 0 none) = from4_2 ∧ (IntKind.wrap .u64 how_x) = other7_2 ∧ how_x_1 = secs8_2 ∧ (some (Addr.mk b_4 0 none)) = n9_2 ∧ none = g11 ∧ Q_2 t48 ∧ Mem (cel b_4 71 [Value.int .u32 box, Value.int .i64 box_1, Value.int .i64 box_2, Value.int .i64 box_3, Value.int .i64 box_4, Value.int .i64 box_5, Value.int .i64 box_6, Value.slice p_1 list.length c_1, Value.int .i64 now] :: row enc82 82 1 p_1 c_1 list :: cel b_3 50 [Value.int .u16 how_x, Value.int .u16 how_x_1] :: cel b_2 25 [Value.int .u32 from_Host, Value.int .i64 from_Port] :: cel b_1 41 [Value.int .i64 ask_Ver, Value.int .i64 ask_Inside, Value.int .i64 ask_Port, Value.int .i64 ask_Secs, Value.int .u64 ask_Nonce, Value.int .i64 ask_Result, Value.int .i64 ask_Epoch, Value.int .u32 ask_Host] :: stoP stoE85 (fun _ => default) ([] : List (Nat × (Int × Int × Int × Int × Int × Int × Bool × (List (Int × Int))))) :: FL) w, ?_, ?_⟩
      · rintro ask3_2 from4_2 other7_2 secs8_2 n9_2 g11 t48 w ⟨rfl, rfl, rfl, rfl, rfl, rfl, hp, h⟩
        replace hp := hq t48 hp
        unfold embrasurelaw11_GateKeeps_j2
        refine cond_both hp (fun hp => ?_) (fun hp => ?_)
        · replace h := h.sel [] 6
          dsimp only [pickL, pickR, nthH, delH, dropH, List.cons_append, List.nil_append] at h
          exact hR false _ h hp
        refine ⟨fun ask3_3 from4_3 other7_3 secs8_3 n9_3 g11_1 l13 h14 w => (False), ?_, ?_⟩
        · rintro ask3_3 from4_3 other7_3 secs8_3 n9_3 g11_1 l13 h14 w (hF)
          · exact hF.elim
        replace h := h.drew
        refine ⟨fun w => Mem (cel b_2 25 [Value.int .u32 from_Host, Value.int .i64 from_Port] :: cel b_1 41 [Value.int .i64 ask_Ver, Value.int .i64 ask_Inside, Value.int .i64 ask_Port, Value.int .i64 ask_Secs, Value.int .u64 ask_Nonce, Value.int .i64 ask_Result, Value.int .i64 ask_Epoch, Value.int .u32 ask_Host] :: FL) w, (h.sel [3, 3] 4), ?_⟩
        refine ⟨_, cellL h 3 0 rfl rfl rfl, _, cellL h 3 1 rfl rfl rfl, ?_⟩
        refine ⟨?_, ?_⟩
        · intro w h
          change Mem _ _ at h
          refine ⟨_, cellL h 0 0 rfl rfl rfl, _, cellL h 0 1 rfl rfl rfl, ?_⟩
          exact ⟨rfl, rfl⟩
        refine ⟨_, cellL h 4 1 rfl rfl rfl, ?_⟩
        refine ⟨?_, ?_⟩
        · intro w h
          change Mem _ _ at h
          refine ⟨_, cellL h 1 1 rfl rfl rfl, ?_⟩
          exact ⟨rfl, rfl⟩
        refine ⟨_, cellL h 4 2 rfl rfl rfl, ?_⟩
        refine ⟨?_, ?_⟩
        · intro w h
          change Mem _ _ at h
          refine ⟨_, cellL h 1 2 rfl rfl rfl, ?_⟩
          exact ⟨rfl, rfl⟩
        refine ⟨_, cellL h 4 4 rfl rfl rfl, ?_⟩
        refine ⟨?_, ?_⟩
        · intro w h
          change Mem _ _ at h
          refine ⟨_, cellL h 1 4 rfl rfl rfl, ?_⟩
          exact ⟨rfl, rfl⟩
        refine ⟨_, cellL h 3 0 rfl rfl rfl, ?_⟩
        refine ⟨?_, ?_⟩
        · intro w h
          change Mem _ _ at h
          refine ⟨_, cellL h 0 0 rfl rfl rfl, ?_⟩
          exact ⟨rfl, rfl⟩
        refine ⟨?_, ?_⟩
        · replace hp := hp.1
          refine pcp_Ask_ok h hp ?_
          rintro rs p_2 n_2 c_2 w rfl h hp
          have cpp_2 := rowCap h 0 rfl
          refine ⟨_, _, _, rfl, ?_⟩
          refine ⟨(h.sel [4, 4] 5), ?_⟩
          refine ⟨?_, ?_⟩
          · replace hp := hp.1
            exact hp.elim
          replace hp := hp.2
          refine newL (o := [Value.int .i64 0, Value.int .i64 0, Value.int .i64 0, Value.int .i64 0, Value.int .u64 0, Value.int .i64 0, Value.int .i64 0, Value.int .u32 0]) h ?_
          intro b_5 w h
          refine ⟨(h.sel [5, 5] 6), ?_⟩
          exact hp.elim
        replace hp := hp.2
        refine newL (o := [Value.int .i64 0, Value.int .i64 0, Value.int .i64 0, Value.int .i64 0, Value.int .u64 0, Value.int .i64 0, Value.int .i64 0, Value.int .u32 0]) h ?_
        intro b_6 w h
        refine ⟨(h.sel [4, 4] 5), ?_⟩
        refine pcp_Ask_ok h hp ?_
        rintro rs_1 p_3 n_3 c_3 w rfl h hp
        have cpp_3 := rowCap h 0 rfl
        refine ⟨_, _, _, rfl, ?_⟩
        refine ⟨(h.sel [5, 5] 6), ?_⟩
        exact hp.elim
      clear hq
      refine eqlPtrNN undP34 ?_
      refine ⟨_, rfl, ?_⟩
      refine cond_tt ?_
      exact ⟨rfl, rfl, rfl, rfl, rfl, rfl, hp, h⟩
    intro r_11 g_1 g_2 g_3 boot now_1 by_ b_7 b_8 p_4 w h hp
    refine ⟨_, _, rfl, ?_⟩
    refine ⟨_, rfl, ?_⟩
    refine ⟨_, rfl, ?_⟩
    obtain ⟨Q_4, hq, hp⟩ := hp
    refine ⟨fun ask3_4 from4_4 other7_4 secs8_4 n9_4 g11_2 t48_1 w => (Addr.mk b_1 0 none) = ask3_4 ∧ (Addr.mk b_2 0 none) = from4_4 ∧ (IntKind.wrap .u64 how_x) = other7_4 ∧ how_x_1 = secs8_4 ∧ (some (Addr.mk b_4 0 none)) = n9_4 ∧ (some (Addr.mk b_7 0 none)) = g11_2 ∧ Q_4 t48_1 ∧ Mem (cel b_7 75 [Value.pointer (some (Addr.mk b_4 0 none)), Value.bool g_1, Value.bool g_2, Value.int .i64 g_3, Value.int .i64 boot, Value.int .i64 now_1, Value.map (some b_8)] :: cel b_4 71 [Value.int .u32 box, Value.int .i64 box_1, Value.int .i64 box_2, Value.int .i64 box_3, Value.int .i64 box_4, Value.int .i64 box_5, Value.int .i64 box_6, Value.slice p_1 list.length c_1, Value.int .i64 now] :: row enc82 82 1 p_1 c_1 list :: cel b_3 50 [Value.int .u16 how_x, Value.int .u16 how_x_1] :: cel b_2 25 [Value.int .u32 from_Host, Value.int .i64 from_Port] :: cel b_1 41 [Value.int .i64 ask_Ver, Value.int .i64 ask_Inside, Value.int .i64 ask_Port, Value.int .i64 ask_Secs, Value.int .u64 ask_Nonce, Value.int .i64 ask_Result, Value.int .i64 ask_Epoch, Value.int .u32 ask_Host] :: mapQ b_8 va25 va111 p_4 by_ :: stoP stoE85 (fun _ => default) ([] : List (Nat × (Int × Int × Int × Int × Int × Int × Bool × (List (Int × Int))))) :: FL) w, ?_, ?_⟩
    · rintro ask3_4 from4_4 other7_4 secs8_4 n9_4 g11_2 t48_1 w ⟨rfl, rfl, rfl, rfl, rfl, rfl, hp, h⟩
      replace hp := hq t48_1 hp
      unfold embrasurelaw11_GateKeeps_j2
      refine cond_both hp (fun hp => ?_) (fun hp => ?_)
      · replace h := h.sel [] 8
        dsimp only [pickL, pickR, nthH, delH, dropH, List.cons_append, List.nil_append] at h
        exact hR false _ h hp
      obtain ⟨Q_5, hq, hp⟩ := hp
      refine ⟨fun ask3_5 from4_5 other7_5 secs8_5 n9_5 g11_3 l13_1 h14_1 w => ∃ (now_2 : Int), ∃ (list_1 : List (Option Nat)), ∃ (p_5 : Option Addr), ∃ (n_4 : Nat), ∃ (c_4 : Nat), ∃ (now_3 : Int), ∃ (b_9 : Nat), ∃ (Ver : Int), ∃ (Inside : Int), ∃ (Port : Int), ∃ (Secs : Int), ∃ (Nonce : Int), ∃ (Result_ : Int), ∃ (Epoch : Int), ∃ (Host : Int), ∃ (m_1 : List ((Int × Int) × (Int × Int))), ∃ (p_6 : List MapEntry × Nat), ∃ (m_2 : List (Nat × (Int × Int × Int × Int × Int × Int × Bool × (List (Int × Int))))), ∃ (hd : Nat → Option Addr × Nat), (Addr.mk b_1 0 none) = ask3_5 ∧ (Addr.mk b_2 0 none) = from4_5 ∧ (IntKind.wrap .u64 how_x) = other7_5 ∧ how_x_1 = secs8_5 ∧ (some (Addr.mk b_4 0 none)) = n9_5 ∧ (some (Addr.mk b_7 0 none)) = g11_3 ∧ (Addr.mk b_9 0 none) = l13_1 ∧ n_4 = list_1.length ∧ Q_5 now_2 list_1 now_3 Ver Inside Port Secs Nonce Result_ Epoch Host h14_1 m_1 m_2 ∧ Mem (cel b_7 75 [Value.pointer (some (Addr.mk b_4 0 none)), Value.bool g_1, Value.bool g_2, Value.int .i64 g_3, Value.int .i64 boot, Value.int .i64 now_2, Value.map (some b_8)] :: cel b_4 71 [Value.int .u32 box, Value.int .i64 box_1, Value.int .i64 box_2, Value.int .i64 box_3, Value.int .i64 box_4, Value.int .i64 box_5, Value.int .i64 box_6, Value.slice p_5 n_4 c_4, Value.int .i64 now_3] :: row enc82 82 1 p_5 c_4 list_1 :: cel b_3 50 [Value.int .u16 how_x, Value.int .u16 how_x_1] :: cel b_2 25 [Value.int .u32 from_Host, Value.int .i64 from_Port] :: cel b_1 41 [Value.int .i64 ask_Ver, Value.int .i64 ask_Inside, Value.int .i64 ask_Port, Value.int .i64 ask_Secs, Value.int .u64 ask_Nonce, Value.int .i64 ask_Result, Value.int .i64 ask_Epoch, Value.int .u32 ask_Host] :: mapQ b_8 va25 va111 p_6 m_1 :: stoP stoE85 hd m_2 :: cel b_9 41 [Value.int .i64 Ver, Value.int .i64 Inside, Value.int .i64 Port, Value.int .i64 Secs, Value.int .u64 Nonce, Value.int .i64 Result_, Value.int .i64 Epoch, Value.int .u32 Host] :: FL) w, ?_, ?_⟩
      · rintro ask3_5 from4_5 other7_5 secs8_5 n9_5 g11_3 l13_1 h14_1 w ⟨now_2, list_1, p_5, n_4, c_4, now_3, b_9, Ver, Inside, Port, Secs, Nonce, Result_, Epoch, Host, m_1, p_6, m_2, hd, rfl, rfl, rfl, rfl, rfl, rfl, rfl, rfl, hp, h⟩
        replace hp := hq now_2 list_1 now_3 Ver Inside Port Secs Nonce Result_ Epoch Host h14_1 m_1 m_2 hp
        unfold embrasurelaw11_GateKeeps_j3
        have cpp_5 := rowCap h 2 rfl
        obtain ⟨Q_6, hq, hp⟩ := hp
        refine ⟨fun ask3_6 from4_6 other7_6 secs8_6 n9_6 g11_4 l13_2 t72 w => (Addr.mk b_1 0 none) = ask3_6 ∧ (Addr.mk b_2 0 none) = from4_6 ∧ (IntKind.wrap .u64 how_x) = other7_6 ∧ how_x_1 = secs8_6 ∧ (some (Addr.mk b_4 0 none)) = n9_6 ∧ (some (Addr.mk b_7 0 none)) = g11_4 ∧ (Addr.mk b_9 0 none) = l13_2 ∧ Q_6 t72 ∧ Mem (cel b_7 75 [Value.pointer (some (Addr.mk b_4 0 none)), Value.bool g_1, Value.bool g_2, Value.int .i64 g_3, Value.int .i64 boot, Value.int .i64 now_2, Value.map (some b_8)] :: cel b_4 71 [Value.int .u32 box, Value.int .i64 box_1, Value.int .i64 box_2, Value.int .i64 box_3, Value.int .i64 box_4, Value.int .i64 box_5, Value.int .i64 box_6, Value.slice p_5 list_1.length c_4, Value.int .i64 now_3] :: row enc82 82 1 p_5 c_4 list_1 :: cel b_3 50 [Value.int .u16 how_x, Value.int .u16 how_x_1] :: cel b_2 25 [Value.int .u32 from_Host, Value.int .i64 from_Port] :: cel b_1 41 [Value.int .i64 ask_Ver, Value.int .i64 ask_Inside, Value.int .i64 ask_Port, Value.int .i64 ask_Secs, Value.int .u64 ask_Nonce, Value.int .i64 ask_Result, Value.int .i64 ask_Epoch, Value.int .u32 ask_Host] :: cel b_9 41 [Value.int .i64 Ver, Value.int .i64 Inside, Value.int .i64 Port, Value.int .i64 Secs, Value.int .u64 Nonce, Value.int .i64 Result_, Value.int .i64 Epoch, Value.int .u32 Host] :: mapQ b_8 va25 va111 p_6 m_1 :: stoP stoE85 hd m_2 :: FL) w, ?_, ?_⟩
        · rintro ask3_6 from4_6 other7_6 secs8_6 n9_6 g11_4 l13_2 t72 w ⟨rfl, rfl, rfl, rfl, rfl, rfl, rfl, hp, h⟩
          replace hp := hq t72 hp
          unfold embrasurelaw11_GateKeeps_j4
          refine cond_both hp (fun hp => ?_) (fun hp => ?_)
          · replace h := h.sel [] 9
            dsimp only [pickL, pickR, nthH, delH, dropH, List.cons_append, List.nil_append] at h
            exact hR true _ h hp
          replace h := h.pick [1, 1, 6]
          dsimp only [pickL, pickR, nthH, delH, dropH, List.cons_append, List.nil_append] at h
          refine nat_Nat_All_ok h hp ?_
          rintro rs_7 list_5 now_10 m_9 p_18 n_13 c_13 p_19 n_14 c_14 hd_4 w rfl rfl h hp
          have cpp_18 := rowCap h 0 rfl
          have cpp_19 := rowCap h 2 rfl
          refine ⟨_, _, _, rfl, ?_⟩
          obtain ⟨Q_7, hq, hp⟩ := hp
          refine ⟨fun ask3_7 other7_7 secs8_7 n9_7 l13_3 was15p was15l was15c m16 i17 w => ∃ (list_6 : List (Option Nat)), ∃ (p_20 : Option Addr), ∃ (n_15 : Nat), ∃ (c_15 : Nat), ∃ (now_11 : Int), ∃ (now_12 : Int), ∃ (b_14 : Nat), ∃ (Ver_1 : Int), ∃ (Inside_1 : Int), ∃ (Port_1 : Int), ∃ (Secs_1 : Int), ∃ (Nonce_1 : Int), ∃ (Result__1 : Int), ∃ (Epoch_1 : Int), ∃ (Host_1 : Int), ∃ (m_10 : List (Nat × (Int × Int × Int × Int × Int × Int × Bool × (List (Int × Int))))), ∃ (hd_5 : Nat → Option Addr × Nat), ∃ (m_11 : List ((Int × Int) × (Int × Int))), ∃ (p_21 : List MapEntry × Nat), (Addr.mk b_1 0 none) = ask3_7 ∧ (IntKind.wrap .u64 how_x) = other7_7 ∧ how_x_1 = secs8_7 ∧ (some (Addr.mk b_4 0 none)) = n9_7 ∧ (Addr.mk b_9 0 none) = l13_3 ∧ p_18 = was15p ∧ rs_7.length = was15l ∧ c_13 = was15c ∧ (Addr.mk b_14 0 none) = m16 ∧ n_15 = list_6.length ∧ Q_7 list_6 now_11 now_12 Ver_1 Inside_1 Port_1 Secs_1 Nonce_1 Result__1 Epoch_1 Host_1 i17 m_10 m_11 ∧ Mem (cel b_4 71 [Value.int .u32 box, Value.int .i64 box_1, Value.int .i64 box_2, Value.int .i64 box_3, Value.int .i64 box_4, Value.int .i64 box_5, Value.int .i64 box_6, Value.slice p_20 n_15 c_15, Value.int .i64 now_11] :: row enc82 82 1 p_20 c_15 list_6 :: cel b_7 75 [Value.pointer (some (Addr.mk b_4 0 none)), Value.bool g_1, Value.bool g_2, Value.int .i64 g_3, Value.int .i64 boot, Value.int .i64 now_12, Value.map (some b_8)] :: cel b_3 50 [Value.int .u16 how_x, Value.int .u16 how_x_1] :: cel b_2 25 [Value.int .u32 from_Host, Value.int .i64 from_Port] :: cel b_1 41 [Value.int .i64 ask_Ver, Value.int .i64 ask_Inside, Value.int .i64 ask_Port, Value.int .i64 ask_Secs, Value.int .u64 ask_Nonce, Value.int .i64 ask_Result, Value.int .i64 ask_Epoch, Value.int .u32 ask_Host] :: cel b_9 41 [Value.int .i64 Ver, Value.int .i64 Inside, Value.int .i64 Port, Value.int .i64 Secs, Value.int .u64 Nonce, Value.int .i64 Result_, Value.int .i64 Epoch, Value.int .u32 Host] :: stoP stoE85 hd_5 m_10 :: mapQ b_8 va25 va111 p_21 m_11 :: row enc55 55 7 p_18 c_13 rs_7 :: cel b_14 41 [Value.int .i64 Ver_1, Value.int .i64 Inside_1, Value.int .i64 Port_1, Value.int .i64 Secs_1, Value.int .u64 Nonce_1, Value.int .i64 Result__1, Value.int .i64 Epoch_1, Value.int .u32 Host_1] :: FL) w, ?_, ?_⟩
          · rintro ask3_7 other7_7 secs8_7 n9_7 l13_3 was15p was15l was15c m16 i17 w ⟨list_6, p_20, n_15, c_15, now_11, now_12, b_14, Ver_1, Inside_1, Port_1, Secs_1, Nonce_1, Result__1, Epoch_1, Host_1, m_10, hd_5, m_11, p_21, rfl, rfl, rfl, rfl, rfl, rfl, rfl, rfl, rfl, rfl, hp, h⟩
            replace hp := hq list_6 now_11 now_12 Ver_1 Inside_1 Port_1 Secs_1 Nonce_1 Result__1 Epoch_1 Host_1 i17 m_10 m_11 hp
            unfold embrasurelaw11_GateKeeps_j5
            have cpp_20 := rowCap h 1 rfl
            obtain ⟨Q_8, hq, hp⟩ := hp
            refine ⟨fun ask3_8 other7_8 secs8_8 n9_8 l13_4 was15_1p was15_1l was15_1c m16_1 t111 w => (Addr.mk b_1 0 none) = ask3_8 ∧ (IntKind.wrap .u64 how_x) = other7_8 ∧ how_x_1 = secs8_8 ∧ (some (Addr.mk b_4 0 none)) = n9_8 ∧ (Addr.mk b_9 0 none) = l13_4 ∧ p_18 = was15_1p ∧ rs_7.length = was15_1l ∧ c_13 = was15_1c ∧ (Addr.mk b_14 0 none) = m16_1 ∧ Q_8 t111 ∧ Mem (cel b_4 71 [Value.int .u32 box, Value.int .i64 box_1, Value.int .i64 box_2, Value.int .i64 box_3, Value.int .i64 box_4, Value.int .i64 box_5, Value.int .i64 box_6, Value.slice p_20 list_6.length c_15, Value.int .i64 now_11] :: row enc82 82 1 p_20 c_15 list_6 :: cel b_7 75 [Value.pointer (some (Addr.mk b_4 0 none)), Value.bool g_1, Value.bool g_2, Value.int .i64 g_3, Value.int .i64 boot, Value.int .i64 now_12, Value.map (some b_8)] :: cel b_3 50 [Value.int .u16 how_x, Value.int .u16 how_x_1] :: cel b_2 25 [Value.int .u32 from_Host, Value.int .i64 from_Port] :: cel b_1 41 [Value.int .i64 ask_Ver, Value.int .i64 ask_Inside, Value.int .i64 ask_Port, Value.int .i64 ask_Secs, Value.int .u64 ask_Nonce, Value.int .i64 ask_Result, Value.int .i64 ask_Epoch, Value.int .u32 ask_Host] :: cel b_9 41 [Value.int .i64 Ver, Value.int .i64 Inside, Value.int .i64 Port, Value.int .i64 Secs, Value.int .u64 Nonce, Value.int .i64 Result_, Value.int .i64 Epoch, Value.int .u32 Host] :: cel b_14 41 [Value.int .i64 Ver_1, Value.int .i64 Inside_1, Value.int .i64 Port_1, Value.int .i64 Secs_1, Value.int .u64 Nonce_1, Value.int .i64 Result__1, Value.int .i64 Epoch_1, Value.int .u32 Host_1] :: stoP stoE85 hd_5 m_10 :: mapQ b_8 va25 va111 p_21 m_11 :: row enc55 55 7 p_18 c_13 rs_7 :: FL) w, ?_, ?_⟩
            · rintro ask3_8 other7_8 secs8_8 n9_8 l13_4 was15_1p was15_1l was15_1c m16_1 t111 w ⟨rfl, rfl, rfl, rfl, rfl, rfl, rfl, rfl, rfl, hp, h⟩
              replace hp := hq t111 hp
              unfold embrasurelaw11_GateKeeps_j6
              refine cond_both hp (fun hp => ?_) (fun hp => ?_)
              · replace h := h.sel [] 11
                dsimp only [pickL, pickR, nthH, delH, dropH, List.cons_append, List.nil_append] at h
                exact hR false _ h hp
              refine ⟨_, cellL h 5 4 rfl rfl rfl, ?_⟩
              refine cond_both hp (fun hp => ?_) (fun hp => ?_)
              · refine ⟨_, cellL h 7 5 rfl rfl rfl, ?_⟩
                refine cond_both' hp (fun hp => ?_) (fun hp => ?_)
                · replace h := h.sel [] 11
                  dsimp only [pickL, pickR, nthH, delH, dropH, List.cons_append, List.nil_append] at h
                  exact hR false _ h hp
                refine ⟨_, cellL h 7 3 rfl rfl rfl, ?_⟩
                refine cond_both' hp (fun hp => ?_) (fun hp => ?_)
                · replace h := h.sel [] 11
                  dsimp only [pickL, pickR, nthH, delH, dropH, List.cons_append, List.nil_append] at h
                  exact hR false _ h hp
                replace h := h.pick [0, 0, 6]
                dsimp only [pickL, pickR, nthH, delH, dropH, List.cons_append, List.nil_append] at h
                refine nat_Nat_All_ok h hp ?_
                rintro rs_13 list_10 now_19 m_18 p_33 n_24 c_24 p_34 n_25 c_25 hd_9 w rfl rfl h hp
                have cpp_33 := rowCap h 0 rfl
                have cpp_34 := rowCap h 2 rfl
                refine ⟨_, _, _, rfl, ?_⟩
                refine embrasureref08_Same_ok (FL := row enc55 55 7 p_33 c_24 rs_13 :: cel b_4 71 [Value.int .u32 box, Value.int .i64 box_1, Value.int .i64 box_2, Value.int .i64 box_3, Value.int .i64 box_4, Value.int .i64 box_5, Value.int .i64 box_6, Value.slice p_34 list_10.length c_25, Value.int .i64 now_19] :: row enc82 82 1 p_34 c_25 list_10 :: stoP stoE85 hd_9 m_18 :: cel b_7 75 [Value.pointer (some (Addr.mk b_4 0 none)), Value.bool g_1, Value.bool g_2, Value.int .i64 g_3, Value.int .i64 boot, Value.int .i64 now_12, Value.map (some b_8)] :: cel b_3 50 [Value.int .u16 how_x, Value.int .u16 how_x_1] :: cel b_2 25 [Value.int .u32 from_Host, Value.int .i64 from_Port] :: cel b_1 41 [Value.int .i64 ask_Ver, Value.int .i64 ask_Inside, Value.int .i64 ask_Port, Value.int .i64 ask_Secs, Value.int .u64 ask_Nonce, Value.int .i64 ask_Result, Value.int .i64 ask_Epoch, Value.int .u32 ask_Host] :: cel b_9 41 [Value.int .i64 Ver, Value.int .i64 Inside, Value.int .i64 Port, Value.int .i64 Secs, Value.int .u64 Nonce, Value.int .i64 Result_, Value.int .i64 Epoch, Value.int .u32 Host] :: cel b_14 41 [Value.int .i64 Ver_1, Value.int .i64 Inside_1, Value.int .i64 Port_1, Value.int .i64 Secs_1, Value.int .u64 Nonce_1, Value.int .i64 Result__1, Value.int .i64 Epoch_1, Value.int .u32 Host_1] :: mapQ b_8 va25 va111 p_21 m_11 :: row enc55 55 7 p_18 c_13 rs_7 :: FL) (fun w h => (rowRd h 0 encL55 rfl)) rfl cpp_33 (fun w h => (rowRd h 11 encL55 rfl)) rfl cpp_18 h hp ?_
                intro r_84 w h hp
                refine ⟨_, rfl, ?_⟩
                replace h := h.sel [] 12
                dsimp only [pickL, pickR, nthH, delH, dropH, List.cons_append, List.nil_append] at h
                exact hR r_84 _ h hp
              refine cond_both hp (fun hp => ?_) (fun hp => ?_)
              · refine ⟨_, cellL h 7 5 rfl rfl rfl, ?_⟩
                refine cond_both' hp (fun hp => ?_) (fun hp => ?_)
                · replace h := h.sel [] 11
                  dsimp only [pickL, pickR, nthH, delH, dropH, List.cons_append, List.nil_append] at h
                  exact hR false _ h hp
                replace h := h.pick [0, 0, 6]
                dsimp only [pickL, pickR, nthH, delH, dropH, List.cons_append, List.nil_append] at h
                refine nat_Nat_All_ok h hp ?_
                rintro rs_14 list_11 now_20 m_19 p_35 n_26 c_26 p_36 n_27 c_27 hd_10 w rfl rfl h hp
                have cpp_35 := rowCap h 0 rfl
                have cpp_36 := rowCap h 2 rfl
                refine ⟨_, _, _, rfl, ?_⟩
                replace h := h.sel [] 12
                dsimp only [pickL, pickR, nthH, delH, dropH, List.cons_append, List.nil_append] at h
                exact hR ((((rs_14.length : Nat) : Int) : Int) == 0) _ h hp
              replace h := h.pick [0, 0, 6]
              dsimp only [pickL, pickR, nthH, delH, dropH, List.cons_append, List.nil_append] at h
              refine nat_Nat_All_ok h hp ?_
              rintro rs_15 list_12 now_21 m_20 p_37 n_28 c_28 p_38 n_29 c_29 hd_11 w rfl rfl h hp
              have cpp_37 := rowCap h 0 rfl
              have cpp_38 := rowCap h 2 rfl
              refine ⟨_, _, _, rfl, ?_⟩
              replace h := h.drew
              refine ⟨_, cellL h 9 5 rfl rfl rfl, ?_⟩
              refine cond_both' hp (fun hp => ?_) (fun hp => ?_)
              · replace h := h.sel [] 12
                dsimp only [pickL, pickR, nthH, delH, dropH, List.cons_append, List.nil_append] at h
                exact hR false _ h hp
              refine ⟨_, cellL h 9 2 rfl rfl rfl, ?_⟩
              refine ⟨_, cellL h 8 2 rfl rfl rfl, ?_⟩
              refine cond_both' hp (fun hp => ?_) (fun hp => ?_)
              · replace h := h.sel [] 12
                dsimp only [pickL, pickR, nthH, delH, dropH, List.cons_append, List.nil_append] at h
                exact hR false _ h hp
              refine ⟨_, cellL h 9 3 rfl rfl rfl, ?_⟩
              refine cond_both' hp (fun hp => ?_) (fun hp => ?_)
              · replace h := h.sel [] 12
                dsimp only [pickL, pickR, nthH, delH, dropH, List.cons_append, List.nil_append] at h
                exact hR false _ h hp
              refine ⟨rfl, ?_⟩
              refine cond_both' hp (fun hp => ?_) (fun hp => ?_)
              · replace h := h.sel [] 12
                dsimp only [pickL, pickR, nthH, delH, dropH, List.cons_append, List.nil_append] at h
                exact hR false _ h hp
              obtain ⟨ia_1, ja_1, hp⟩ := hp
              obtain ⟨a_1, ha_1⟩ := rdAddr (rowRd h 0 encL55 rfl) rfl ia_1 ja_1
              refine ⟨a_1, ha_1, ia_1, ja_1, ?_⟩
              obtain ⟨x_1, hx_1, hc⟩ := rdCell (rowRd h 0 encL55 rfl) ha_1 rfl ia_1 ja_1
              replace hp := hp x_1 hx_1
              refine ⟨_, hc 5 _ rfl, ?_⟩
              refine ⟨_, cellL h 9 3 rfl rfl rfl, ?_⟩
              replace h := h.sel [] 12
              dsimp only [pickL, pickR, nthH, delH, dropH, List.cons_append, List.nil_append] at h
              exact hR ((x_1.2.2.2.2.2.1 : Int) == (IntKind.wrap .i64 (1 + Secs_1))) _ h hp
            clear hq
            refine cond_both hp (fun hp => ?_) (fun hp => ?_)
            · replace h := h.sel [0, 0, 0, 0, 0, 0, 0, 3, 0, 0, 0] 0
              dsimp only [pickL, pickR, nthH, delH, dropH, List.cons_append, List.nil_append] at h
              exact ⟨rfl, rfl, rfl, rfl, rfl, rfl, rfl, rfl, rfl, hp, h⟩
            refine ⟨_, cellL h 6 4 rfl rfl rfl, ?_⟩
            refine ⟨_, cellL h 5 4 rfl rfl rfl, ?_⟩
            refine cond_both hp (fun hp => ?_) (fun hp => ?_)
            · replace h := h.sel [0, 0, 0, 0, 0, 0, 0, 3, 0, 0, 0] 0
              dsimp only [pickL, pickR, nthH, delH, dropH, List.cons_append, List.nil_append] at h
              exact ⟨rfl, rfl, rfl, rfl, rfl, rfl, rfl, rfl, rfl, hp, h⟩
            refine ⟨_, cellL h 6 3 rfl rfl rfl, ?_⟩
            refine cond_both hp (fun hp => ?_) (fun hp => ?_)
            · replace h := h.sel [0, 0, 0, 0, 0, 0, 0, 3, 0, 0, 0] 0
              dsimp only [pickL, pickR, nthH, delH, dropH, List.cons_append, List.nil_append] at h
              exact ⟨rfl, rfl, rfl, rfl, rfl, rfl, rfl, rfl, rfl, hp, h⟩
            replace h := h.sel [0, 0, 0, 0, 0, 0, 0, 3, 0, 0, 0] 0
            dsimp only [pickL, pickR, nthH, delH, dropH, List.cons_append, List.nil_append] at h
            exact ⟨rfl, rfl, rfl, rfl, rfl, rfl, rfl, rfl, rfl, hp, h⟩
          clear hq
          replace h := h.drew
          refine ⟨fun w => Mem (cel b_2 25 [Value.int .u32 from_Host, Value.int .i64 from_Port] :: cel b_1 41 [Value.int .i64 ask_Ver, Value.int .i64 ask_Inside, Value.int .i64 ask_Port, Value.int .i64 ask_Secs, Value.int .u64 ask_Nonce, Value.int .i64 ask_Result, Value.int .i64 ask_Epoch, Value.int .u32 ask_Host] :: FL) w, (h.sel [6, 6] 8), ?_⟩
          refine ⟨_, cellL h 6 0 rfl rfl rfl, _, cellL h 6 1 rfl rfl rfl, ?_⟩
          refine ⟨?_, ?_⟩
          · intro w h
            change Mem _ _ at h
            refine ⟨_, cellL h 0 0 rfl rfl rfl, _, cellL h 0 1 rfl rfl rfl, ?_⟩
            exact ⟨rfl, rfl⟩
          refine ⟨_, cellL h 7 1 rfl rfl rfl, ?_⟩
          refine ⟨?_, ?_⟩
          · intro w h
            change Mem _ _ at h
            refine ⟨_, cellL h 1 1 rfl rfl rfl, ?_⟩
            exact ⟨rfl, rfl⟩
          refine ⟨_, cellL h 7 2 rfl rfl rfl, ?_⟩
          refine ⟨?_, ?_⟩
          · intro w h
            change Mem _ _ at h
            refine ⟨_, cellL h 1 2 rfl rfl rfl, ?_⟩
            exact ⟨rfl, rfl⟩
          refine ⟨_, cellL h 6 0 rfl rfl rfl, ?_⟩
          refine ⟨?_, ?_⟩
          · intro w h
            change Mem _ _ at h
            refine ⟨_, cellL h 0 0 rfl rfl rfl, ?_⟩
            exact ⟨rfl, rfl⟩
          refine ⟨?_, ?_⟩
          · replace hp := hp.1
            refine pcp_Ask_ok h hp ?_
            rintro rs_8 p_22 n_16 c_16 w rfl h hp
            have cpp_22 := rowCap h 0 rfl
            refine ⟨_, _, _, rfl, ?_⟩
            refine ⟨(h.sel [7, 7] 9), ?_⟩
            refine ⟨?_, ?_⟩
            · replace hp := hp.1
              replace h := h.pick [5, 2, 2, 7, 2]
              dsimp only [pickL, pickR, nthH, delH, dropH, List.cons_append, List.nil_append] at h
              refine gate_Gate_Hear_ok (FL := row enc5 5 1 p_22 c_16 rs_8 :: row enc55 55 7 p_18 c_13 rs_7 :: cel b_3 50 [Value.int .u16 how_x, Value.int .u16 how_x_1] :: cel b_2 25 [Value.int .u32 from_Host, Value.int .i64 from_Port] :: cel b_1 41 [Value.int .i64 ask_Ver, Value.int .i64 ask_Inside, Value.int .i64 ask_Port, Value.int .i64 ask_Secs, Value.int .u64 ask_Nonce, Value.int .i64 ask_Result, Value.int .i64 ask_Epoch, Value.int .u32 ask_Host] :: cel b_9 41 [Value.int .i64 Ver, Value.int .i64 Inside, Value.int .i64 Port, Value.int .i64 Secs, Value.int .u64 Nonce, Value.int .i64 Result_, Value.int .i64 Epoch, Value.int .u32 Host] :: FL) (fun w h => (rowRd h 0 encL5 rfl)) rfl cpp_22 h hp ?_
              rintro rs_9 now_13 list_7 now_14 m_12 m_13 p_23 n_17 c_17 p_24 n_18 c_18 p_25 hd_6 w rfl rfl h hp
              have cpp_23 := rowCap h 0 rfl
              have cpp_24 := rowCap h 3 rfl
              refine ⟨_, _, _, rfl, ?_⟩
              refine ⟨?_, ?_⟩
              · replace hp := hp.1
                refine pcp_ReadAnswer_ok (FL := row enc5 5 1 p_23 c_17 rs_9 :: cel b_7 75 [Value.pointer (some (Addr.mk b_4 0 none)), Value.bool g_1, Value.bool g_2, Value.int .i64 g_3, Value.int .i64 boot, Value.int .i64 now_13, Value.map (some b_8)] :: cel b_4 71 [Value.int .u32 box, Value.int .i64 box_1, Value.int .i64 box_2, Value.int .i64 box_3, Value.int .i64 box_4, Value.int .i64 box_5, Value.int .i64 box_6, Value.slice p_24 list_7.length c_18, Value.int .i64 now_14] :: row enc82 82 1 p_24 c_18 list_7 :: mapQ b_8 va25 va111 p_25 m_12 :: stoP stoE85 hd_6 m_13 :: row enc5 5 1 p_22 c_16 rs_8 :: row enc55 55 7 p_18 c_13 rs_7 :: cel b_3 50 [Value.int .u16 how_x, Value.int .u16 how_x_1] :: cel b_2 25 [Value.int .u32 from_Host, Value.int .i64 from_Port] :: cel b_1 41 [Value.int .i64 ask_Ver, Value.int .i64 ask_Inside, Value.int .i64 ask_Port, Value.int .i64 ask_Secs, Value.int .u64 ask_Nonce, Value.int .i64 ask_Result, Value.int .i64 ask_Epoch, Value.int .u32 ask_Host] :: cel b_9 41 [Value.int .i64 Ver, Value.int .i64 Inside, Value.int .i64 Port, Value.int .i64 Secs, Value.int .u64 Nonce, Value.int .i64 Result_, Value.int .i64 Epoch, Value.int .u32 Host] :: FL) (fun w h => (rowRd h 0 encL5 rfl)) rfl cpp_23 h hp ?_
                intro r_48 r_49 r_50 r_51 r_52 r_53 r_54 r_55 r_56 w h hp
                refine ⟨_, _, _, _, _, _, _, _, _, rfl, ?_⟩
                refine ⟨_, _, _, _, _, _, _, _, rfl, ?_⟩
                refine ⟨_, rfl, ?_⟩
                refine newL (o := [Value.int .i64 0, Value.int .i64 0, Value.int .i64 0, Value.int .i64 0, Value.int .u64 0, Value.int .i64 0, Value.int .i64 0, Value.int .u32 0]) h ?_
                intro b_15 w h
                refine ⟨(h.sel [10, 10] 11), ?_⟩
                refine storeL (ys := [Value.int .i64 r_48, Value.int .i64 r_49, Value.int .i64 r_50, Value.int .i64 r_51, Value.int .u64 r_52, Value.int .i64 r_53, Value.int .i64 r_54, Value.int .u32 r_55]) h 0 0 rfl rfl rfl sz41 rfl rfl ?_
                intro w h
                dsimp only [setH, setVs, setV] at h
                replace h := h.sel [3, 3, 2, 6, 6, 6, 6, 3, 2, 3, 0] 2
                dsimp only [pickL, pickR, nthH, delH, dropH, List.cons_append, List.nil_append] at h
                exact ⟨list_7, p_24, list_7.length, c_18, now_14, now_13, b_15, r_48, r_49, r_50, r_51, r_52, r_53, r_54, r_55, m_13, hd_6, m_12, p_25, rfl, rfl, rfl, rfl, rfl, rfl, rfl, rfl, rfl, rfl, hp, h⟩
              replace hp := hp.2
              refine newL (o := [Value.int .i64 0, Value.int .i64 0, Value.int .i64 0, Value.int .i64 0, Value.int .u64 0, Value.int .i64 0, Value.int .i64 0, Value.int .u32 0]) h ?_
              intro b_16 w h
              refine ⟨(h.sel [10, 10] 11), ?_⟩
              refine pcp_ReadAnswer_ok (FL := cel b_16 41 [Value.int .i64 0, Value.int .i64 0, Value.int .i64 0, Value.int .i64 0, Value.int .u64 0, Value.int .i64 0, Value.int .i64 0, Value.int .u32 0] :: row enc5 5 1 p_23 c_17 rs_9 :: cel b_7 75 [Value.pointer (some (Addr.mk b_4 0 none)), Value.bool g_1, Value.bool g_2, Value.int .i64 g_3, Value.int .i64 boot, Value.int .i64 now_13, Value.map (some b_8)] :: cel b_4 71 [Value.int .u32 box, Value.int .i64 box_1, Value.int .i64 box_2, Value.int .i64 box_3, Value.int .i64 box_4, Value.int .i64 box_5, Value.int .i64 box_6, Value.slice p_24 list_7.length c_18, Value.int .i64 now_14] :: row enc82 82 1 p_24 c_18 list_7 :: mapQ b_8 va25 va111 p_25 m_12 :: stoP stoE85 hd_6 m_13 :: row enc5 5 1 p_22 c_16 rs_8 :: row enc55 55 7 p_18 c_13 rs_7 :: cel b_3 50 [Value.int .u16 how_x, Value.int .u16 how_x_1] :: cel b_2 25 [Value.int .u32 from_Host, Value.int .i64 from_Port] :: cel b_1 41 [Value.int .i64 ask_Ver, Value.int .i64 ask_Inside, Value.int .i64 ask_Port, Value.int .i64 ask_Secs, Value.int .u64 ask_Nonce, Value.int .i64 ask_Result, Value.int .i64 ask_Epoch, Value.int .u32 ask_Host] :: cel b_9 41 [Value.int .i64 Ver, Value.int .i64 Inside, Value.int .i64 Port, Value.int .i64 Secs, Value.int .u64 Nonce, Value.int .i64 Result_, Value.int .i64 Epoch, Value.int .u32 Host] :: FL) (fun w h => (rowRd h 1 encL5 rfl)) rfl cpp_23 h hp ?_
              intro r_57 r_58 r_59 r_60 r_61 r_62 r_63 r_64 r_65 w h hp
              refine ⟨_, _, _, _, _, _, _, _, _, rfl, ?_⟩
              refine ⟨_, _, _, _, _, _, _, _, rfl, ?_⟩
              refine ⟨_, rfl, ?_⟩
              refine storeL (ys := [Value.int .i64 r_57, Value.int .i64 r_58, Value.int .i64 r_59, Value.int .i64 r_60, Value.int .u64 r_61, Value.int .i64 r_62, Value.int .i64 r_63, Value.int .u32 r_64]) h 0 0 rfl rfl rfl sz41 rfl rfl ?_
              intro w h
              dsimp only [setH, setVs, setV] at h
              replace h := h.sel [3, 3, 2, 6, 6, 6, 6, 3, 2, 3, 0] 2
              dsimp only [pickL, pickR, nthH, delH, dropH, List.cons_append, List.nil_append] at h
              exact ⟨list_7, p_24, list_7.length, c_18, now_14, now_13, b_16, r_57, r_58, r_59, r_60, r_61, r_62, r_63, r_64, m_13, hd_6, m_12, p_25, rfl, rfl, rfl, rfl, rfl, rfl, rfl, rfl, rfl, rfl, hp, h⟩
            replace hp := hp.2
            refine newL (o := [Value.int .i64 0, Value.int .i64 0, Value.int .i64 0, Value.int .i64 0, Value.int .u64 0, Value.int .i64 0, Value.int .i64 0, Value.int .u32 0]) h ?_
            intro b_17 w h
            refine ⟨(h.sel [8, 8] 10), ?_⟩
            replace h := h.pick [6, 3, 3, 8, 3]
            dsimp only [pickL, pickR, nthH, delH, dropH, List.cons_append, List.nil_append] at h
            refine gate_Gate_Hear_ok (FL := cel b_17 41 [Value.int .i64 0, Value.int .i64 0, Value.int .i64 0, Value.int .i64 0, Value.int .u64 0, Value.int .i64 0, Value.int .i64 0, Value.int .u32 0] :: row enc5 5 1 p_22 c_16 rs_8 :: row enc55 55 7 p_18 c_13 rs_7 :: cel b_3 50 [Value.int .u16 how_x, Value.int .u16 how_x_1] :: cel b_2 25 [Value.int .u32 from_Host, Value.int .i64 from_Port] :: cel b_1 41 [Value.int .i64 ask_Ver, Value.int .i64 ask_Inside, Value.int .i64 ask_Port, Value.int .i64 ask_Secs, Value.int .u64 ask_Nonce, Value.int .i64 ask_Result, Value.int .i64 ask_Epoch, Value.int .u32 ask_Host] :: cel b_9 41 [Value.int .i64 Ver, Value.int .i64 Inside, Value.int .i64 Port, Value.int .i64 Secs, Value.int .u64 Nonce, Value.int .i64 Result_, Value.int .i64 Epoch, Value.int .u32 Host] :: FL) (fun w h => (rowRd h 1 encL5 rfl)) rfl cpp_22 h hp ?_
            rintro rs_10 now_15 list_8 now_16 m_14 m_15 p_26 n_19 c_19 p_27 n_20 c_20 p_28 hd_7 w rfl rfl h hp
            have cpp_26 := rowCap h 0 rfl
            have cpp_27 := rowCap h 3 rfl
            refine ⟨_, _, _, rfl, ?_⟩
            refine pcp_ReadAnswer_ok (FL := row enc5 5 1 p_26 c_19 rs_10 :: cel b_7 75 [Value.pointer (some (Addr.mk b_4 0 none)), Value.bool g_1, Value.bool g_2, Value.int .i64 g_3, Value.int .i64 boot, Value.int .i64 now_15, Value.map (some b_8)] :: cel b_4 71 [Value.int .u32 box, Value.int .i64 box_1, Value.int .i64 box_2, Value.int .i64 box_3, Value.int .i64 box_4, Value.int .i64 box_5, Value.int .i64 box_6, Value.slice p_27 list_8.length c_20, Value.int .i64 now_16] :: row enc82 82 1 p_27 c_20 list_8 :: mapQ b_8 va25 va111 p_28 m_14 :: stoP stoE85 hd_7 m_15 :: cel b_17 41 [Value.int .i64 0, Value.int .i64 0, Value.int .i64 0, Value.int .i64 0, Value.int .u64 0, Value.int .i64 0, Value.int .i64 0, Value.int .u32 0] :: row enc5 5 1 p_22 c_16 rs_8 :: row enc55 55 7 p_18 c_13 rs_7 :: cel b_3 50 [Value.int .u16 how_x, Value.int .u16 how_x_1] :: cel b_2 25 [Value.int .u32 from_Host, Value.int .i64 from_Port] :: cel b_1 41 [Value.int .i64 ask_Ver, Value.int .i64 ask_Inside, Value.int .i64 ask_Port, Value.int .i64 ask_Secs, Value.int .u64 ask_Nonce, Value.int .i64 ask_Result, Value.int .i64 ask_Epoch, Value.int .u32 ask_Host] :: cel b_9 41 [Value.int .i64 Ver, Value.int .i64 Inside, Value.int .i64 Port, Value.int .i64 Secs, Value.int .u64 Nonce, Value.int .i64 Result_, Value.int .i64 Epoch, Value.int .u32 Host] :: FL) (fun w h => (rowRd h 0 encL5 rfl)) rfl cpp_26 h hp ?_
            intro r_66 r_67 r_68 r_69 r_70 r_71 r_72 r_73 r_74 w h hp
            refine ⟨_, _, _, _, _, _, _, _, _, rfl, ?_⟩
            refine ⟨_, _, _, _, _, _, _, _, rfl, ?_⟩
            refine ⟨_, rfl, ?_⟩
            refine storeL (ys := [Value.int .i64 r_66, Value.int .i64 r_67, Value.int .i64 r_68, Value.int .i64 r_69, Value.int .u64 r_70, Value.int .i64 r_71, Value.int .i64 r_72, Value.int .u32 r_73]) h 6 0 rfl rfl rfl sz41 rfl rfl ?_
            intro w h
            dsimp only [setH, setVs, setV] at h
            replace h := h.sel [2, 2, 1, 6, 6, 6, 6, 2, 1, 3, 1] 2
            dsimp only [pickL, pickR, nthH, delH, dropH, List.cons_append, List.nil_append] at h
            exact ⟨list_8, p_27, list_8.length, c_20, now_16, now_15, b_17, r_66, r_67, r_68, r_69, r_70, r_71, r_72, r_73, m_15, hd_7, m_14, p_28, rfl, rfl, rfl, rfl, rfl, rfl, rfl, rfl, rfl, rfl, hp, h⟩
          replace hp := hp.2
          refine newL (o := [Value.int .i64 0, Value.int .i64 0, Value.int .i64 0, Value.int .i64 0, Value.int .u64 0, Value.int .i64 0, Value.int .i64 0, Value.int .u32 0]) h ?_
          intro b_18 w h
          refine ⟨(h.sel [7, 7] 9), ?_⟩
          refine pcp_Ask_ok h hp ?_
          rintro rs_11 p_29 n_21 c_21 w rfl h hp
          have cpp_29 := rowCap h 0 rfl
          refine ⟨_, _, _, rfl, ?_⟩
          refine ⟨(h.sel [8, 8] 10), ?_⟩
          replace h := h.pick [6, 3, 3, 8, 3]
          dsimp only [pickL, pickR, nthH, delH, dropH, List.cons_append, List.nil_append] at h
          refine gate_Gate_Hear_ok (FL := row enc5 5 1 p_29 c_21 rs_11 :: cel b_18 41 [Value.int .i64 0, Value.int .i64 0, Value.int .i64 0, Value.int .i64 0, Value.int .u64 0, Value.int .i64 0, Value.int .i64 0, Value.int .u32 0] :: row enc55 55 7 p_18 c_13 rs_7 :: cel b_3 50 [Value.int .u16 how_x, Value.int .u16 how_x_1] :: cel b_2 25 [Value.int .u32 from_Host, Value.int .i64 from_Port] :: cel b_1 41 [Value.int .i64 ask_Ver, Value.int .i64 ask_Inside, Value.int .i64 ask_Port, Value.int .i64 ask_Secs, Value.int .u64 ask_Nonce, Value.int .i64 ask_Result, Value.int .i64 ask_Epoch, Value.int .u32 ask_Host] :: cel b_9 41 [Value.int .i64 Ver, Value.int .i64 Inside, Value.int .i64 Port, Value.int .i64 Secs, Value.int .u64 Nonce, Value.int .i64 Result_, Value.int .i64 Epoch, Value.int .u32 Host] :: FL) (fun w h => (rowRd h 0 encL5 rfl)) rfl cpp_29 h hp ?_
          rintro rs_12 now_17 list_9 now_18 m_16 m_17 p_30 n_22 c_22 p_31 n_23 c_23 p_32 hd_8 w rfl rfl h hp
          have cpp_30 := rowCap h 0 rfl
          have cpp_31 := rowCap h 3 rfl
          refine ⟨_, _, _, rfl, ?_⟩
          refine pcp_ReadAnswer_ok (FL := row enc5 5 1 p_30 c_22 rs_12 :: cel b_7 75 [Value.pointer (some (Addr.mk b_4 0 none)), Value.bool g_1, Value.bool g_2, Value.int .i64 g_3, Value.int .i64 boot, Value.int .i64 now_17, Value.map (some b_8)] :: cel b_4 71 [Value.int .u32 box, Value.int .i64 box_1, Value.int .i64 box_2, Value.int .i64 box_3, Value.int .i64 box_4, Value.int .i64 box_5, Value.int .i64 box_6, Value.slice p_31 list_9.length c_23, Value.int .i64 now_18] :: row enc82 82 1 p_31 c_23 list_9 :: mapQ b_8 va25 va111 p_32 m_16 :: stoP stoE85 hd_8 m_17 :: row enc5 5 1 p_29 c_21 rs_11 :: cel b_18 41 [Value.int .i64 0, Value.int .i64 0, Value.int .i64 0, Value.int .i64 0, Value.int .u64 0, Value.int .i64 0, Value.int .i64 0, Value.int .u32 0] :: row enc55 55 7 p_18 c_13 rs_7 :: cel b_3 50 [Value.int .u16 how_x, Value.int .u16 how_x_1] :: cel b_2 25 [Value.int .u32 from_Host, Value.int .i64 from_Port] :: cel b_1 41 [Value.int .i64 ask_Ver, Value.int .i64 ask_Inside, Value.int .i64 ask_Port, Value.int .i64 ask_Secs, Value.int .u64 ask_Nonce, Value.int .i64 ask_Result, Value.int .i64 ask_Epoch, Value.int .u32 ask_Host] :: cel b_9 41 [Value.int .i64 Ver, Value.int .i64 Inside, Value.int .i64 Port, Value.int .i64 Secs, Value.int .u64 Nonce, Value.int .i64 Result_, Value.int .i64 Epoch, Value.int .u32 Host] :: FL) (fun w h => (rowRd h 0 encL5 rfl)) rfl cpp_30 h hp ?_
          intro r_75 r_76 r_77 r_78 r_79 r_80 r_81 r_82 r_83 w h hp
          refine ⟨_, _, _, _, _, _, _, _, _, rfl, ?_⟩
          refine ⟨_, _, _, _, _, _, _, _, rfl, ?_⟩
          refine ⟨_, rfl, ?_⟩
          refine storeL (ys := [Value.int .i64 r_75, Value.int .i64 r_76, Value.int .i64 r_77, Value.int .i64 r_78, Value.int .u64 r_79, Value.int .i64 r_80, Value.int .i64 r_81, Value.int .u32 r_82]) h 7 0 rfl rfl rfl sz41 rfl rfl ?_
          intro w h
          dsimp only [setH, setVs, setV] at h
          replace h := h.sel [2, 2, 1, 6, 6, 6, 6, 2, 1, 3, 2] 2
          dsimp only [pickL, pickR, nthH, delH, dropH, List.cons_append, List.nil_append] at h
          exact ⟨list_9, p_31, list_9.length, c_23, now_18, now_17, b_18, r_75, r_76, r_77, r_78, r_79, r_80, r_81, r_82, m_17, hd_8, m_16, p_32, rfl, rfl, rfl, rfl, rfl, rfl, rfl, rfl, rfl, rfl, hp, h⟩
        clear hq
        refine cond_both hp (fun hp => ?_) (fun hp => ?_)
        · replace h := h.sel [0, 0, 0, 0, 0, 0, 2, 0, 0] 0
          dsimp only [pickL, pickR, nthH, delH, dropH, List.cons_append, List.nil_append] at h
          exact ⟨rfl, rfl, rfl, rfl, rfl, rfl, rfl, hp, h⟩
        refine ⟨_, cellL h 8 5 rfl rfl rfl, ?_⟩
        replace h := h.sel [0, 0, 0, 0, 0, 0, 2, 0, 0] 0
        dsimp only [pickL, pickR, nthH, delH, dropH, List.cons_append, List.nil_append] at h
        exact ⟨rfl, rfl, rfl, rfl, rfl, rfl, rfl, hp, h⟩
      clear hq
      replace h := h.drew
      refine ⟨fun w => Mem (cel b_2 25 [Value.int .u32 from_Host, Value.int .i64 from_Port] :: cel b_1 41 [Value.int .i64 ask_Ver, Value.int .i64 ask_Inside, Value.int .i64 ask_Port, Value.int .i64 ask_Secs, Value.int .u64 ask_Nonce, Value.int .i64 ask_Result, Value.int .i64 ask_Epoch, Value.int .u32 ask_Host] :: FL) w, (h.sel [4, 4] 6), ?_⟩
      refine ⟨_, cellL h 4 0 rfl rfl rfl, _, cellL h 4 1 rfl rfl rfl, ?_⟩
      refine ⟨?_, ?_⟩
      · intro w h
        change Mem _ _ at h
        refine ⟨_, cellL h 0 0 rfl rfl rfl, _, cellL h 0 1 rfl rfl rfl, ?_⟩
        exact ⟨rfl, rfl⟩
      refine ⟨_, cellL h 5 1 rfl rfl rfl, ?_⟩
      refine ⟨?_, ?_⟩
      · intro w h
        change Mem _ _ at h
        refine ⟨_, cellL h 1 1 rfl rfl rfl, ?_⟩
        exact ⟨rfl, rfl⟩
      refine ⟨_, cellL h 5 2 rfl rfl rfl, ?_⟩
      refine ⟨?_, ?_⟩
      · intro w h
        change Mem _ _ at h
        refine ⟨_, cellL h 1 2 rfl rfl rfl, ?_⟩
        exact ⟨rfl, rfl⟩
      refine ⟨_, cellL h 5 4 rfl rfl rfl, ?_⟩
      refine ⟨?_, ?_⟩
      · intro w h
        change Mem _ _ at h
        refine ⟨_, cellL h 1 4 rfl rfl rfl, ?_⟩
        exact ⟨rfl, rfl⟩
      refine ⟨_, cellL h 4 0 rfl rfl rfl, ?_⟩
      refine ⟨?_, ?_⟩
      · intro w h
        change Mem _ _ at h
        refine ⟨_, cellL h 0 0 rfl rfl rfl, ?_⟩
        exact ⟨rfl, rfl⟩
      refine ⟨?_, ?_⟩
      · replace hp := hp.1
        refine pcp_Ask_ok h hp ?_
        rintro rs_2 p_7 n_5 c_5 w rfl h hp
        have cpp_7 := rowCap h 0 rfl
        refine ⟨_, _, _, rfl, ?_⟩
        refine ⟨(h.sel [5, 5] 7), ?_⟩
        refine ⟨?_, ?_⟩
        · replace hp := hp.1
          replace h := h.pick [1, 1, 1, 4, 4]
          dsimp only [pickL, pickR, nthH, delH, dropH, List.cons_append, List.nil_append] at h
          refine gate_Gate_Hear_ok (FL := row enc5 5 1 p_7 c_5 rs_2 :: cel b_3 50 [Value.int .u16 how_x, Value.int .u16 how_x_1] :: cel b_2 25 [Value.int .u32 from_Host, Value.int .i64 from_Port] :: cel b_1 41 [Value.int .i64 ask_Ver, Value.int .i64 ask_Inside, Value.int .i64 ask_Port, Value.int .i64 ask_Secs, Value.int .u64 ask_Nonce, Value.int .i64 ask_Result, Value.int .i64 ask_Epoch, Value.int .u32 ask_Host] :: FL) (fun w h => (rowRd h 0 encL5 rfl)) rfl cpp_7 h hp ?_
          rintro rs_3 now_4 list_2 now_5 m_3 m_4 p_8 n_6 c_6 p_9 n_7 c_7 p_10 hd_1 w rfl rfl h hp
          have cpp_8 := rowCap h 0 rfl
          have cpp_9 := rowCap h 3 rfl
          refine ⟨_, _, _, rfl, ?_⟩
          refine ⟨?_, ?_⟩
          · replace hp := hp.1
            refine pcp_ReadAnswer_ok (FL := row enc5 5 1 p_8 c_6 rs_3 :: cel b_7 75 [Value.pointer (some (Addr.mk b_4 0 none)), Value.bool g_1, Value.bool g_2, Value.int .i64 g_3, Value.int .i64 boot, Value.int .i64 now_4, Value.map (some b_8)] :: cel b_4 71 [Value.int .u32 box, Value.int .i64 box_1, Value.int .i64 box_2, Value.int .i64 box_3, Value.int .i64 box_4, Value.int .i64 box_5, Value.int .i64 box_6, Value.slice p_9 list_2.length c_7, Value.int .i64 now_5] :: row enc82 82 1 p_9 c_7 list_2 :: mapQ b_8 va25 va111 p_10 m_3 :: stoP stoE85 hd_1 m_4 :: row enc5 5 1 p_7 c_5 rs_2 :: cel b_3 50 [Value.int .u16 how_x, Value.int .u16 how_x_1] :: cel b_2 25 [Value.int .u32 from_Host, Value.int .i64 from_Port] :: cel b_1 41 [Value.int .i64 ask_Ver, Value.int .i64 ask_Inside, Value.int .i64 ask_Port, Value.int .i64 ask_Secs, Value.int .u64 ask_Nonce, Value.int .i64 ask_Result, Value.int .i64 ask_Epoch, Value.int .u32 ask_Host] :: FL) (fun w h => (rowRd h 0 encL5 rfl)) rfl cpp_8 h hp ?_
            intro r_12 r_13 r_14 r_15 r_16 r_17 r_18 r_19 r_20 w h hp
            refine ⟨_, _, _, _, _, _, _, _, _, rfl, ?_⟩
            refine ⟨_, _, _, _, _, _, _, _, rfl, ?_⟩
            refine ⟨_, rfl, ?_⟩
            refine newL (o := [Value.int .i64 0, Value.int .i64 0, Value.int .i64 0, Value.int .i64 0, Value.int .u64 0, Value.int .i64 0, Value.int .i64 0, Value.int .u32 0]) h ?_
            intro b_10 w h
            refine ⟨(h.sel [9, 9] 9), ?_⟩
            refine storeL (ys := [Value.int .i64 r_12, Value.int .i64 r_13, Value.int .i64 r_14, Value.int .i64 r_15, Value.int .u64 r_16, Value.int .i64 r_17, Value.int .i64 r_18, Value.int .u32 r_19]) h 0 0 rfl rfl rfl sz41 rfl rfl ?_
            intro w h
            dsimp only [setH, setVs, setV] at h
            replace h := h.sel [2, 2, 2, 5, 5, 5, 2, 2, 0] 2
            dsimp only [pickL, pickR, nthH, delH, dropH, List.cons_append, List.nil_append] at h
            exact ⟨now_4, list_2, p_9, list_2.length, c_7, now_5, b_10, r_12, r_13, r_14, r_15, r_16, r_17, r_18, r_19, m_3, p_10, m_4, hd_1, rfl, rfl, rfl, rfl, rfl, rfl, rfl, rfl, hp, h⟩
          replace hp := hp.2
          refine newL (o := [Value.int .i64 0, Value.int .i64 0, Value.int .i64 0, Value.int .i64 0, Value.int .u64 0, Value.int .i64 0, Value.int .i64 0, Value.int .u32 0]) h ?_
          intro b_11 w h
          refine ⟨(h.sel [9, 9] 9), ?_⟩
          refine pcp_ReadAnswer_ok (FL := cel b_11 41 [Value.int .i64 0, Value.int .i64 0, Value.int .i64 0, Value.int .i64 0, Value.int .u64 0, Value.int .i64 0, Value.int .i64 0, Value.int .u32 0] :: row enc5 5 1 p_8 c_6 rs_3 :: cel b_7 75 [Value.pointer (some (Addr.mk b_4 0 none)), Value.bool g_1, Value.bool g_2, Value.int .i64 g_3, Value.int .i64 boot, Value.int .i64 now_4, Value.map (some b_8)] :: cel b_4 71 [Value.int .u32 box, Value.int .i64 box_1, Value.int .i64 box_2, Value.int .i64 box_3, Value.int .i64 box_4, Value.int .i64 box_5, Value.int .i64 box_6, Value.slice p_9 list_2.length c_7, Value.int .i64 now_5] :: row enc82 82 1 p_9 c_7 list_2 :: mapQ b_8 va25 va111 p_10 m_3 :: stoP stoE85 hd_1 m_4 :: row enc5 5 1 p_7 c_5 rs_2 :: cel b_3 50 [Value.int .u16 how_x, Value.int .u16 how_x_1] :: cel b_2 25 [Value.int .u32 from_Host, Value.int .i64 from_Port] :: cel b_1 41 [Value.int .i64 ask_Ver, Value.int .i64 ask_Inside, Value.int .i64 ask_Port, Value.int .i64 ask_Secs, Value.int .u64 ask_Nonce, Value.int .i64 ask_Result, Value.int .i64 ask_Epoch, Value.int .u32 ask_Host] :: FL) (fun w h => (rowRd h 1 encL5 rfl)) rfl cpp_8 h hp ?_
          intro r_21 r_22 r_23 r_24 r_25 r_26 r_27 r_28 r_29 w h hp
          refine ⟨_, _, _, _, _, _, _, _, _, rfl, ?_⟩
          refine ⟨_, _, _, _, _, _, _, _, rfl, ?_⟩
          refine ⟨_, rfl, ?_⟩
          refine storeL (ys := [Value.int .i64 r_21, Value.int .i64 r_22, Value.int .i64 r_23, Value.int .i64 r_24, Value.int .u64 r_25, Value.int .i64 r_26, Value.int .i64 r_27, Value.int .u32 r_28]) h 0 0 rfl rfl rfl sz41 rfl rfl ?_
          intro w h
          dsimp only [setH, setVs, setV] at h
          replace h := h.sel [2, 2, 2, 5, 5, 5, 2, 2, 0] 2
          dsimp only [pickL, pickR, nthH, delH, dropH, List.cons_append, List.nil_append] at h
          exact ⟨now_4, list_2, p_9, list_2.length, c_7, now_5, b_11, r_21, r_22, r_23, r_24, r_25, r_26, r_27, r_28, m_3, p_10, m_4, hd_1, rfl, rfl, rfl, rfl, rfl, rfl, rfl, rfl, hp, h⟩
        replace hp := hp.2
        refine newL (o := [Value.int .i64 0, Value.int .i64 0, Value.int .i64 0, Value.int .i64 0, Value.int .u64 0, Value.int .i64 0, Value.int .i64 0, Value.int .u32 0]) h ?_
        intro b_12 w h
        refine ⟨(h.sel [6, 6] 8), ?_⟩
        replace h := h.pick [2, 2, 2, 5, 5]
        dsimp only [pickL, pickR, nthH, delH, dropH, List.cons_append, List.nil_append] at h
        refine gate_Gate_Hear_ok (FL := cel b_12 41 [Value.int .i64 0, Value.int .i64 0, Value.int .i64 0, Value.int .i64 0, Value.int .u64 0, Value.int .i64 0, Value.int .i64 0, Value.int .u32 0] :: row enc5 5 1 p_7 c_5 rs_2 :: cel b_3 50 [Value.int .u16 how_x, Value.int .u16 how_x_1] :: cel b_2 25 [Value.int .u32 from_Host, Value.int .i64 from_Port] :: cel b_1 41 [Value.int .i64 ask_Ver, Value.int .i64 ask_Inside, Value.int .i64 ask_Port, Value.int .i64 ask_Secs, Value.int .u64 ask_Nonce, Value.int .i64 ask_Result, Value.int .i64 ask_Epoch, Value.int .u32 ask_Host] :: FL) (fun w h => (rowRd h 1 encL5 rfl)) rfl cpp_7 h hp ?_
        rintro rs_4 now_6 list_3 now_7 m_5 m_6 p_11 n_8 c_8 p_12 n_9 c_9 p_13 hd_2 w rfl rfl h hp
        have cpp_11 := rowCap h 0 rfl
        have cpp_12 := rowCap h 3 rfl
        refine ⟨_, _, _, rfl, ?_⟩
        refine pcp_ReadAnswer_ok (FL := row enc5 5 1 p_11 c_8 rs_4 :: cel b_7 75 [Value.pointer (some (Addr.mk b_4 0 none)), Value.bool g_1, Value.bool g_2, Value.int .i64 g_3, Value.int .i64 boot, Value.int .i64 now_6, Value.map (some b_8)] :: cel b_4 71 [Value.int .u32 box, Value.int .i64 box_1, Value.int .i64 box_2, Value.int .i64 box_3, Value.int .i64 box_4, Value.int .i64 box_5, Value.int .i64 box_6, Value.slice p_12 list_3.length c_9, Value.int .i64 now_7] :: row enc82 82 1 p_12 c_9 list_3 :: mapQ b_8 va25 va111 p_13 m_5 :: stoP stoE85 hd_2 m_6 :: cel b_12 41 [Value.int .i64 0, Value.int .i64 0, Value.int .i64 0, Value.int .i64 0, Value.int .u64 0, Value.int .i64 0, Value.int .i64 0, Value.int .u32 0] :: row enc5 5 1 p_7 c_5 rs_2 :: cel b_3 50 [Value.int .u16 how_x, Value.int .u16 how_x_1] :: cel b_2 25 [Value.int .u32 from_Host, Value.int .i64 from_Port] :: cel b_1 41 [Value.int .i64 ask_Ver, Value.int .i64 ask_Inside, Value.int .i64 ask_Port, Value.int .i64 ask_Secs, Value.int .u64 ask_Nonce, Value.int .i64 ask_Result, Value.int .i64 ask_Epoch, Value.int .u32 ask_Host] :: FL) (fun w h => (rowRd h 0 encL5 rfl)) rfl cpp_11 h hp ?_
        intro r_30 r_31 r_32 r_33 r_34 r_35 r_36 r_37 r_38 w h hp
        refine ⟨_, _, _, _, _, _, _, _, _, rfl, ?_⟩
        refine ⟨_, _, _, _, _, _, _, _, rfl, ?_⟩
        refine ⟨_, rfl, ?_⟩
        refine storeL (ys := [Value.int .i64 r_30, Value.int .i64 r_31, Value.int .i64 r_32, Value.int .i64 r_33, Value.int .u64 r_34, Value.int .i64 r_35, Value.int .i64 r_36, Value.int .u32 r_37]) h 6 0 rfl rfl rfl sz41 rfl rfl ?_
        intro w h
        dsimp only [setH, setVs, setV] at h
        replace h := h.sel [1, 1, 1, 5, 5, 5, 1, 1, 1] 2
        dsimp only [pickL, pickR, nthH, delH, dropH, List.cons_append, List.nil_append] at h
        exact ⟨now_6, list_3, p_12, list_3.length, c_9, now_7, b_12, r_30, r_31, r_32, r_33, r_34, r_35, r_36, r_37, m_5, p_13, m_6, hd_2, rfl, rfl, rfl, rfl, rfl, rfl, rfl, rfl, hp, h⟩
      replace hp := hp.2
      refine newL (o := [Value.int .i64 0, Value.int .i64 0, Value.int .i64 0, Value.int .i64 0, Value.int .u64 0, Value.int .i64 0, Value.int .i64 0, Value.int .u32 0]) h ?_
      intro b_13 w h
      refine ⟨(h.sel [5, 5] 7), ?_⟩
      refine pcp_Ask_ok h hp ?_
      rintro rs_5 p_14 n_10 c_10 w rfl h hp
      have cpp_14 := rowCap h 0 rfl
      refine ⟨_, _, _, rfl, ?_⟩
      refine ⟨(h.sel [6, 6] 8), ?_⟩
      replace h := h.pick [2, 2, 2, 5, 5]
      dsimp only [pickL, pickR, nthH, delH, dropH, List.cons_append, List.nil_append] at h
      refine gate_Gate_Hear_ok (FL := row enc5 5 1 p_14 c_10 rs_5 :: cel b_13 41 [Value.int .i64 0, Value.int .i64 0, Value.int .i64 0, Value.int .i64 0, Value.int .u64 0, Value.int .i64 0, Value.int .i64 0, Value.int .u32 0] :: cel b_3 50 [Value.int .u16 how_x, Value.int .u16 how_x_1] :: cel b_2 25 [Value.int .u32 from_Host, Value.int .i64 from_Port] :: cel b_1 41 [Value.int .i64 ask_Ver, Value.int .i64 ask_Inside, Value.int .i64 ask_Port, Value.int .i64 ask_Secs, Value.int .u64 ask_Nonce, Value.int .i64 ask_Result, Value.int .i64 ask_Epoch, Value.int .u32 ask_Host] :: FL) (fun w h => (rowRd h 0 encL5 rfl)) rfl cpp_14 h hp ?_
      rintro rs_6 now_8 list_4 now_9 m_7 m_8 p_15 n_11 c_11 p_16 n_12 c_12 p_17 hd_3 w rfl rfl h hp
      have cpp_15 := rowCap h 0 rfl
      have cpp_16 := rowCap h 3 rfl
      refine ⟨_, _, _, rfl, ?_⟩
      refine pcp_ReadAnswer_ok (FL := row enc5 5 1 p_15 c_11 rs_6 :: cel b_7 75 [Value.pointer (some (Addr.mk b_4 0 none)), Value.bool g_1, Value.bool g_2, Value.int .i64 g_3, Value.int .i64 boot, Value.int .i64 now_8, Value.map (some b_8)] :: cel b_4 71 [Value.int .u32 box, Value.int .i64 box_1, Value.int .i64 box_2, Value.int .i64 box_3, Value.int .i64 box_4, Value.int .i64 box_5, Value.int .i64 box_6, Value.slice p_16 list_4.length c_12, Value.int .i64 now_9] :: row enc82 82 1 p_16 c_12 list_4 :: mapQ b_8 va25 va111 p_17 m_7 :: stoP stoE85 hd_3 m_8 :: row enc5 5 1 p_14 c_10 rs_5 :: cel b_13 41 [Value.int .i64 0, Value.int .i64 0, Value.int .i64 0, Value.int .i64 0, Value.int .u64 0, Value.int .i64 0, Value.int .i64 0, Value.int .u32 0] :: cel b_3 50 [Value.int .u16 how_x, Value.int .u16 how_x_1] :: cel b_2 25 [Value.int .u32 from_Host, Value.int .i64 from_Port] :: cel b_1 41 [Value.int .i64 ask_Ver, Value.int .i64 ask_Inside, Value.int .i64 ask_Port, Value.int .i64 ask_Secs, Value.int .u64 ask_Nonce, Value.int .i64 ask_Result, Value.int .i64 ask_Epoch, Value.int .u32 ask_Host] :: FL) (fun w h => (rowRd h 0 encL5 rfl)) rfl cpp_15 h hp ?_
      intro r_39 r_40 r_41 r_42 r_43 r_44 r_45 r_46 r_47 w h hp
      refine ⟨_, _, _, _, _, _, _, _, _, rfl, ?_⟩
      refine ⟨_, _, _, _, _, _, _, _, rfl, ?_⟩
      refine ⟨_, rfl, ?_⟩
      refine storeL (ys := [Value.int .i64 r_39, Value.int .i64 r_40, Value.int .i64 r_41, Value.int .i64 r_42, Value.int .u64 r_43, Value.int .i64 r_44, Value.int .i64 r_45, Value.int .u32 r_46]) h 7 0 rfl rfl rfl sz41 rfl rfl ?_
      intro w h
      dsimp only [setH, setVs, setV] at h
      replace h := h.sel [1, 1, 1, 5, 5, 5, 1, 1, 2] 2
      dsimp only [pickL, pickR, nthH, delH, dropH, List.cons_append, List.nil_append] at h
      exact ⟨now_8, list_4, p_16, list_4.length, c_12, now_9, b_13, r_39, r_40, r_41, r_42, r_43, r_44, r_45, r_46, m_7, p_17, m_8, hd_3, rfl, rfl, rfl, rfl, rfl, rfl, rfl, rfl, hp, h⟩
    clear hq
    refine eqlPtrNil undP34 ?_
    refine ⟨_, rfl, ?_⟩
    refine cond_ff ?_
    replace h := h.sel [0, 1, 1, 1, 1, 1, 0, 0] 0
    dsimp only [pickL, pickR, nthH, delH, dropH, List.cons_append, List.nil_append] at h
    exact ⟨rfl, rfl, rfl, rfl, rfl, rfl, hp, h⟩
  clear hq
  refine eqlPtrNil undP27 ?_
  refine ⟨_, rfl, ?_⟩
  refine cond_ff ?_
  exact ⟨rfl, rfl, rfl, rfl, rfl, hp, h⟩
end Go.Proofs.Ytnmdnkmemjfoeaa
