/- Each function over plain data (printed by a program of this claim's author). -/
import Derived.Test.YtnmdnkmemjfoeaaL4
namespace Go.Proofs.Ytnmdnkmemjfoeaa
open Go Go.Eng Go.Proofs
set_option maxRecDepth 100000
set_option maxHeartbeats 2000000
def law_GateGrants_wp (ask_Ver ask_Inside ask_Port ask_Secs ask_Nonce ask_Result ask_Epoch ask_Host from_Host from_Port : Int) (script : List (Int × Int × Int × Int × Int × Int × (List (Int)) × Int × Int × Int × Int × Int × Int × Int × Int × Int)) (K : Bool → Prop) : Prop :=
  law_awake_wp (fun (r : Bool) => cond (!r) (K false) (l8_Box_wp 8 (fun (r_1 r_2 r_3 r_4 r_5 r_6 r_7 : Int) => nat_New_wp r_1 r_2 r_3 r_4 r_5 r_6 r_7 (fun (r_8 : Int) => joinP1 (fun (t41 : Bool) => cond t41 (K false) (False)) (fun (Q : Bool → Prop) => Q true)) (fun (r_9 box box_1 box_2 box_3 box_4 box_5 box_6 : Int) (list : List (Option Nat)) (now : Int) => joinP1 (fun (t41_1 : Bool) => cond t41_1 (K false) (gate_New_wp box box_1 box_2 box_3 box_4 box_5 box_6 now true true 100 0 (fun (r_10 : Int) => joinP1 (fun (t53 : Bool) => cond t53 (K false) (joinP0 ((pmp_Ask_wp 0 ask_Inside ask_Port ask_Secs 0 0 0 0 false (fun (rs_1 : List (Int)) => (False) ∧ (False))) ∧ (pmp_Ask_wp 0 ask_Inside ask_Port ask_Secs 0 0 0 0 false (fun (rs_2 : List (Int)) => False))) (fun (Q_3 : Prop) => ∃ (I : Nat → Int → Prop), (∃ (n_6 : Nat), I n_6 0) ∧ ∀ (n_3 : Nat) (i11 : Int), I n_3 i11 → (joinP1 (fun (t61 : Bool) => cond t61 (0 ≤ i11 ∧ (i11 : Int) < ((script.length : Nat) : Int) ∧ (∀ (x_1 : Int × Int × Int × Int × Int × Int × (List (Int)) × Int × Int × Int × Int × Int × Int × Int × Int × Int), script[Int.toNat i11]? = some x_1 → (cond ((x_1.2.2.1 : Int) != from_Host) (0 ≤ i11 ∧ (i11 : Int) < ((script.length : Nat) : Int) ∧ (∀ (x_3 : Int × Int × Int × Int × Int × Int × (List (Int)) × Int × Int × Int × Int × Int × Int × Int × Int × Int), script[Int.toNat i11]? = some x_3 → (0 ≤ i11 ∧ (i11 : Int) < ((script.length : Nat) : Int) ∧ (∀ (x_4 : Int × Int × Int × Int × Int × Int × (List (Int)) × Int × Int × Int × Int × Int × Int × Int × Int × Int), script[Int.toNat i11]? = some x_4 → (pmp_Ask_wp x_4.2.2.2.2.2.2.2.1 x_4.2.2.2.2.2.2.2.2.1 x_4.2.2.2.2.2.2.2.2.2.1 x_4.2.2.2.2.2.2.2.2.2.2.1 x_4.2.2.2.2.2.2.2.2.2.2.2.1 x_4.2.2.2.2.2.2.2.2.2.2.2.2.1 x_4.2.2.2.2.2.2.2.2.2.2.2.2.2.1 x_4.2.2.2.2.2.2.2.2.2.2.2.2.2.2.1 false (fun (rs : List (Int)) => False)))))) (∃ (n_5 : Nat), n_5 < n_3 ∧ I n_5 (IntKind.wrap .i64 (i11 + 1)))))) (Q_3 )) (fun (Q_4 : Bool → Prop) => cond (decide (i11 < ((script.length : Nat) : Int))) (Q_4 (decide (i11 < 60))) (Q_4 false)))))) (fun (Q_2 : Bool → Prop) => Q_2 true)) (fun (r_11 : Int) (g_1 g_2 : Bool) (g_3 boot now_1 : Int) (by_ : BYX) => joinP1 (fun (t53_1 : Bool) => cond t53_1 (K false) (joinP5 (fun (now_2 : Int) (list_1 : List (Option Nat)) (now_3 : Int) (m_1 : BYX) (m_2 : SBX) => joinP14 (fun (now_8 : Int) (list_4 : List (Option Nat)) (now_9 Ver Inside Port Secs Nonce Result_ Epoch Host h14_1 : Int) (m_7 : BYX) (m_8 : SBX) => joinP1 (fun (t113 : Bool) => cond t113 (K true) (nN_In_wp box box_1 box_2 box_3 box_4 box_5 box_6 list_4 now_9 (IntKind.wrap .i64 ((IntKind.wrap .i64 (2 + Secs)) - 1)) Port 77 77 m_8 (fun (r_52 r_53 r_54 : Int) (list_8 : List (Option Nat)) (now_16 : Int) (m_15 : SBX) => joinP14 (fun (list_9 : List (Option Nat)) (now_17 now_18 Ver_1 Inside_1 Port_1 Secs_1 Nonce_1 Result__1 Epoch_1 Host_1 j21 : Int) (m_16 : SBX) (m_17 : BYX) => nN_In_wp box box_1 box_2 box_3 box_4 box_5 box_6 list_9 now_17 (IntKind.wrap .i64 ((IntKind.wrap .i64 (2 + Secs)) + 8)) Port 78 1 m_16 (fun (r_95 r_96 r_97 : Int) (list_13 : List (Option Nat)) (now_25 : Int) (m_24 : SBX) => joinP14 (fun (list_14 : List (Option Nat)) (now_26 now_27 Ver_2 Inside_2 Port_2 Secs_2 Nonce_2 Result__2 Epoch_2 Host_2 p26 : Int) (m_25 : SBX) (m_26 : BYX) => nN_In_wp box box_1 box_2 box_3 box_4 box_5 box_6 list_14 now_26 (IntKind.wrap .i64 ((IntKind.wrap .i64 (2 + Secs)) + 8)) Port 78 1 m_25 (fun (r_138 r_139 r_140 : Int) (list_18 : List (Option Nat)) (now_34 : Int) (m_33 : SBX) => joinP1 (fun (t215 : Bool) => cond t215 (K false) (cond (r_97 == 0) (cond ((r_95 == from_Host) && ((r_96 == Inside) && true)) (cond (p26 == 0) (cond (Secs_2 == 0) (cond (Port_2 == 0) (cond (Result__2 == 0) (K (r_140 == 8)) (K false)) (K false)) (K false)) (K false)) (K false)) (K false))) (fun (Q_13 : Bool → Prop) => cond (decide (Secs > 100)) (Q_13 true) (cond (Secs != (if (100 : Int) < ask_Secs then 100 else ask_Secs)) (Q_13 true) (cond (r_54 != 0) (Q_13 true) (cond (!((r_52 == from_Host) && ((r_53 == Inside) && true))) (Q_13 true) (cond (j21 != 0) (Q_13 true) (cond (Port_1 != Port) (Q_13 true) (Q_13 (Secs_1 != 10)))))))))) (fun (Q_12 : List (Option Nat) → Int → Int → Int → Int → Int → Int → Int → Int → Int → Int → Int → SBX → BYX → Prop) => (pmp_Ask_wp 0 ask_Inside 0 0 0 0 0 0 false (fun (rs_15 : List (Int)) => (gG_Hear_wp box box_1 box_2 box_3 box_4 box_5 box_6 list_13 now_25 g_1 g_2 g_3 boot now_18 m_17 (IntKind.wrap .i64 ((IntKind.wrap .i64 (2 + Secs)) + 8)) from_Host from_Port rs_15 m_24 (fun (rs_16 : List (Int)) (now_28 : Int) (list_15 : List (Option Nat)) (now_29 : Int) (m_27 : BYX) (m_28 : SBX) => (pmp_ReadAnswer_wp rs_16 (fun (r_98 r_99 r_100 r_101 r_102 r_103 r_104 r_105 : Int) (r_106 : Bool) (r_107 : Int) => Q_12 list_15 now_29 now_28 r_98 r_99 r_100 r_101 r_102 r_103 r_104 r_105 r_107 m_28 m_27)) ∧ (pmp_ReadAnswer_wp rs_16 (fun (r_108 r_109 r_110 r_111 r_112 r_113 r_114 r_115 : Int) (r_116 : Bool) (r_117 : Int) => Q_12 list_15 now_29 now_28 r_108 r_109 r_110 r_111 r_112 r_113 r_114 r_115 r_117 m_28 m_27)))) ∧ (gG_Hear_wp box box_1 box_2 box_3 box_4 box_5 box_6 list_13 now_25 g_1 g_2 g_3 boot now_18 m_17 (IntKind.wrap .i64 ((IntKind.wrap .i64 (2 + Secs)) + 8)) from_Host from_Port rs_15 m_24 (fun (rs_17 : List (Int)) (now_30 : Int) (list_16 : List (Option Nat)) (now_31 : Int) (m_29 : BYX) (m_30 : SBX) => pmp_ReadAnswer_wp rs_17 (fun (r_118 r_119 r_120 r_121 r_122 r_123 r_124 r_125 : Int) (r_126 : Bool) (r_127 : Int) => Q_12 list_16 now_31 now_30 r_118 r_119 r_120 r_121 r_122 r_123 r_124 r_125 r_127 m_30 m_29))))) ∧ (pmp_Ask_wp 0 ask_Inside 0 0 0 0 0 0 false (fun (rs_18 : List (Int)) => gG_Hear_wp box box_1 box_2 box_3 box_4 box_5 box_6 list_13 now_25 g_1 g_2 g_3 boot now_18 m_17 (IntKind.wrap .i64 ((IntKind.wrap .i64 (2 + Secs)) + 8)) from_Host from_Port rs_18 m_24 (fun (rs_19 : List (Int)) (now_32 : Int) (list_17 : List (Option Nat)) (now_33 : Int) (m_31 : BYX) (m_32 : SBX) => pmp_ReadAnswer_wp rs_19 (fun (r_128 r_129 r_130 r_131 r_132 r_133 r_134 r_135 : Int) (r_136 : Bool) (r_137 : Int) => Q_12 list_17 now_33 now_32 r_128 r_129 r_130 r_131 r_132 r_133 r_134 r_135 r_137 m_32 m_31))))))) (fun (Q_11 : List (Option Nat) → Int → Int → Int → Int → Int → Int → Int → Int → Int → Int → Int → SBX → BYX → Prop) => (pmp_Ask_wp 0 ask_Inside 1 10 0 0 0 0 false (fun (rs_10 : List (Int)) => (gG_Hear_wp box box_1 box_2 box_3 box_4 box_5 box_6 list_8 now_16 g_1 g_2 g_3 boot now_8 m_7 (IntKind.wrap .i64 ((IntKind.wrap .i64 (2 + Secs)) - 1)) from_Host from_Port rs_10 m_15 (fun (rs_11 : List (Int)) (now_19 : Int) (list_10 : List (Option Nat)) (now_20 : Int) (m_18 : BYX) (m_19 : SBX) => (pmp_ReadAnswer_wp rs_11 (fun (r_55 r_56 r_57 r_58 r_59 r_60 r_61 r_62 : Int) (r_63 : Bool) (r_64 : Int) => Q_11 list_10 now_20 now_19 r_55 r_56 r_57 r_58 r_59 r_60 r_61 r_62 r_64 m_19 m_18)) ∧ (pmp_ReadAnswer_wp rs_11 (fun (r_65 r_66 r_67 r_68 r_69 r_70 r_71 r_72 : Int) (r_73 : Bool) (r_74 : Int) => Q_11 list_10 now_20 now_19 r_65 r_66 r_67 r_68 r_69 r_70 r_71 r_72 r_74 m_19 m_18)))) ∧ (gG_Hear_wp box box_1 box_2 box_3 box_4 box_5 box_6 list_8 now_16 g_1 g_2 g_3 boot now_8 m_7 (IntKind.wrap .i64 ((IntKind.wrap .i64 (2 + Secs)) - 1)) from_Host from_Port rs_10 m_15 (fun (rs_12 : List (Int)) (now_21 : Int) (list_11 : List (Option Nat)) (now_22 : Int) (m_20 : BYX) (m_21 : SBX) => pmp_ReadAnswer_wp rs_12 (fun (r_75 r_76 r_77 r_78 r_79 r_80 r_81 r_82 : Int) (r_83 : Bool) (r_84 : Int) => Q_11 list_11 now_22 now_21 r_75 r_76 r_77 r_78 r_79 r_80 r_81 r_82 r_84 m_21 m_20))))) ∧ (pmp_Ask_wp 0 ask_Inside 1 10 0 0 0 0 false (fun (rs_13 : List (Int)) => gG_Hear_wp box box_1 box_2 box_3 box_4 box_5 box_6 list_8 now_16 g_1 g_2 g_3 boot now_8 m_7 (IntKind.wrap .i64 ((IntKind.wrap .i64 (2 + Secs)) - 1)) from_Host from_Port rs_13 m_15 (fun (rs_14 : List (Int)) (now_23 : Int) (list_12 : List (Option Nat)) (now_24 : Int) (m_22 : BYX) (m_23 : SBX) => pmp_ReadAnswer_wp rs_14 (fun (r_85 r_86 r_87 r_88 r_89 r_90 r_91 r_92 : Int) (r_93 : Bool) (r_94 : Int) => Q_11 list_12 now_24 now_23 r_85 r_86 r_87 r_88 r_89 r_90 r_91 r_92 r_94 m_23 m_22)))))))) (fun (Q_10 : Bool → Prop) => cond (h14_1 != 0) (Q_10 true) (cond (Result_ != 0) (Q_10 true) (Q_10 (Secs == 0))))) (fun (Q_9 : Int → List (Option Nat) → Int → Int → Int → Int → Int → Int → Int → Int → Int → Int → BYX → SBX → Prop) => (pmp_Ask_wp 0 ask_Inside ask_Port ask_Secs 0 0 0 0 false (fun (rs_5 : List (Int)) => (gG_Hear_wp box box_1 box_2 box_3 box_4 box_5 box_6 list_1 now_3 g_1 g_2 g_3 boot now_2 m_1 2 from_Host from_Port rs_5 m_2 (fun (rs_6 : List (Int)) (now_10 : Int) (list_5 : List (Option Nat)) (now_11 : Int) (m_9 : BYX) (m_10 : SBX) => (pmp_ReadAnswer_wp rs_6 (fun (r_12 r_13 r_14 r_15 r_16 r_17 r_18 r_19 : Int) (r_20 : Bool) (r_21 : Int) => Q_9 now_10 list_5 now_11 r_12 r_13 r_14 r_15 r_16 r_17 r_18 r_19 r_21 m_9 m_10)) ∧ (pmp_ReadAnswer_wp rs_6 (fun (r_22 r_23 r_24 r_25 r_26 r_27 r_28 r_29 : Int) (r_30 : Bool) (r_31 : Int) => Q_9 now_10 list_5 now_11 r_22 r_23 r_24 r_25 r_26 r_27 r_28 r_29 r_31 m_9 m_10)))) ∧ (gG_Hear_wp box box_1 box_2 box_3 box_4 box_5 box_6 list_1 now_3 g_1 g_2 g_3 boot now_2 m_1 2 from_Host from_Port rs_5 m_2 (fun (rs_7 : List (Int)) (now_12 : Int) (list_6 : List (Option Nat)) (now_13 : Int) (m_11 : BYX) (m_12 : SBX) => pmp_ReadAnswer_wp rs_7 (fun (r_32 r_33 r_34 r_35 r_36 r_37 r_38 r_39 : Int) (r_40 : Bool) (r_41 : Int) => Q_9 now_12 list_6 now_13 r_32 r_33 r_34 r_35 r_36 r_37 r_38 r_39 r_41 m_11 m_12))))) ∧ (pmp_Ask_wp 0 ask_Inside ask_Port ask_Secs 0 0 0 0 false (fun (rs_8 : List (Int)) => gG_Hear_wp box box_1 box_2 box_3 box_4 box_5 box_6 list_1 now_3 g_1 g_2 g_3 boot now_2 m_1 2 from_Host from_Port rs_8 m_2 (fun (rs_9 : List (Int)) (now_14 : Int) (list_7 : List (Option Nat)) (now_15 : Int) (m_13 : BYX) (m_14 : SBX) => pmp_ReadAnswer_wp rs_9 (fun (r_42 r_43 r_44 r_45 r_46 r_47 r_48 r_49 : Int) (r_50 : Bool) (r_51 : Int) => Q_9 now_14 list_7 now_15 r_42 r_43 r_44 r_45 r_46 r_47 r_48 r_49 r_51 m_13 m_14)))))) (fun (Q_7 : Int → List (Option Nat) → Int → BYX → SBX → Prop) => ∃ (I_1 : Nat → Int → List (Option Nat) → Int → Int → BYX → SBX → Prop), (∃ (n_17 : Nat), I_1 n_17 now_1 list now 0 by_ ([] : SBX)) ∧ ∀ (n_11 : Nat) (now_4 : Int) (list_2 : List (Option Nat)) (now_5 i11_2 : Int) (m_3 : BYX) (m_4 : SBX), I_1 n_11 now_4 list_2 now_5 i11_2 m_3 m_4 → (joinP1 (fun (t61_1 : Bool) => cond t61_1 (0 ≤ i11_2 ∧ (i11_2 : Int) < ((script.length : Nat) : Int) ∧ (∀ (x_5 : Int × Int × Int × Int × Int × Int × (List (Int)) × Int × Int × Int × Int × Int × Int × Int × Int × Int), script[Int.toNat i11_2]? = some x_5 → (cond ((x_5.2.2.1 : Int) != from_Host) (0 ≤ i11_2 ∧ (i11_2 : Int) < ((script.length : Nat) : Int) ∧ (∀ (x_7 : Int × Int × Int × Int × Int × Int × (List (Int)) × Int × Int × Int × Int × Int × Int × Int × Int × Int), script[Int.toNat i11_2]? = some x_7 → (0 ≤ i11_2 ∧ (i11_2 : Int) < ((script.length : Nat) : Int) ∧ (∀ (x_8 : Int × Int × Int × Int × Int × Int × (List (Int)) × Int × Int × Int × Int × Int × Int × Int × Int × Int), script[Int.toNat i11_2]? = some x_8 → (pmp_Ask_wp x_8.2.2.2.2.2.2.2.1 x_8.2.2.2.2.2.2.2.2.1 x_8.2.2.2.2.2.2.2.2.2.1 x_8.2.2.2.2.2.2.2.2.2.2.1 x_8.2.2.2.2.2.2.2.2.2.2.2.1 x_8.2.2.2.2.2.2.2.2.2.2.2.2.1 x_8.2.2.2.2.2.2.2.2.2.2.2.2.2.1 x_8.2.2.2.2.2.2.2.2.2.2.2.2.2.2.1 false (fun (rs_3 : List (Int)) => gG_Hear_wp box box_1 box_2 box_3 box_4 box_5 box_6 list_2 now_5 g_1 g_2 g_3 boot now_4 m_3 1 x_7.2.2.1 x_7.2.2.2.1 rs_3 m_4 (fun (rs_4 : List (Int)) (now_6 : Int) (list_3 : List (Option Nat)) (now_7 : Int) (m_5 : BYX) (m_6 : SBX) => ∃ (n_15 : Nat), n_15 < n_11 ∧ I_1 n_15 now_6 list_3 now_7 (IntKind.wrap .i64 (i11_2 + 1)) m_5 m_6))))))) (∃ (n_16 : Nat), n_16 < n_11 ∧ I_1 n_16 now_4 list_2 now_5 (IntKind.wrap .i64 (i11_2 + 1)) m_3 m_4)))) (Q_7 now_4 list_2 now_5 m_3 m_4)) (fun (Q_8 : Bool → Prop) => cond (decide (i11_2 < ((script.length : Nat) : Int))) (Q_8 (decide (i11_2 < 60))) (Q_8 false)))))) (fun (Q_6 : Bool → Prop) => Q_6 (r_11 != 0))))) (fun (Q_1 : Bool → Prop) => Q_1 (r_9 != 0))))))
theorem law_GateGrants_ok {p_1 : Option Addr} {n_1 c_1 : Nat} {ask_Ver ask_Inside ask_Port ask_Secs ask_Nonce ask_Result ask_Epoch ask_Host from_Host from_Port : Int} {script : List (Int × Int × Int × Int × Int × Int × (List (Int)) × Int × Int × Int × Int × Int × Int × Int × Int × Int)} {FL : List HP} {w : World} {K : Bool → Prop} {R : Value → World → Prop}
  (hF_script : ∀ w, Mem FL w → RdD w 16 p_1 (encR63 FL) script) (hl_script : n_1 = script.length) (hc_script : n_1 ≤ c_1)
  (h : Mem (FL) w) (hp : law_GateGrants_wp ask_Ver ask_Inside ask_Port ask_Secs ask_Nonce ask_Result ask_Epoch ask_Host from_Host from_Port script K)
  (hR : ∀ (r : Bool) (w : World), Mem (FL) w → K r → R (Value.bool r) w) :
  CallV Try.prog 6 #[(Value.agg #[Value.int .i64 ask_Ver, Value.int .i64 ask_Inside, Value.int .i64 ask_Port, Value.int .i64 ask_Secs, Value.int .u64 ask_Nonce, Value.int .i64 ask_Result, Value.int .i64 ask_Epoch, Value.int .u32 ask_Host]), (Value.agg #[Value.int .u32 from_Host, Value.int .i64 from_Port]), Value.slice p_1 n_1 c_1] w R := by
  refine law_GateGrants_call ?_
  unfold law_GateGrants
  unfold law_GateGrants_wp at hp
  subst hl_script
  replace h := stoNil stoE85 (fun _ => default) h
  refine newL (o := [Value.int .i64 ask_Ver, Value.int .i64 ask_Inside, Value.int .i64 ask_Port, Value.int .i64 ask_Secs, Value.int .u64 ask_Nonce, Value.int .i64 ask_Result, Value.int .i64 ask_Epoch, Value.int .u32 ask_Host]) h ?_
  intro b_1 w h
  refine newL (o := [Value.int .u32 from_Host, Value.int .i64 from_Port]) h ?_
  intro b_2 w h
  refine law_awake_ok h hp ?_
  intro r w h hp
  refine ⟨_, rfl, ?_⟩
  refine cond_both hp (fun hp => ?_) (fun hp => ?_)
  · replace h := h.sel [] 3
    dsimp only [pickL, pickR, nthH, delH, dropH, List.cons_append, List.nil_append] at h
    exact hR false _ h hp
  refine l8_Box_ok h hp ?_
  intro r_1 r_2 r_3 r_4 r_5 r_6 r_7 w h hp
  refine ⟨_, _, _, _, _, _, _, rfl, ?_⟩
  refine nat_New_ok h hp ?_ ?_
  · intro r_8 w h hp
    refine ⟨_, _, rfl, ?_⟩
    refine ⟨_, rfl, ?_⟩
    refine ⟨_, rfl, ?_⟩
    obtain ⟨Q, hq, hp⟩ := hp
    refine ⟨fun script2p script2l script2c ask3 from4 n7 t41 w => p_1 = script2p ∧ script.length = script2l ∧ c_1 = script2c ∧ (Addr.mk b_1 0 none) = ask3 ∧ (Addr.mk b_2 0 none) = from4 ∧ none = n7 ∧ Q t41 ∧ Mem (cel b_2 25 [Value.int .u32 from_Host, Value.int .i64 from_Port] :: cel b_1 41 [Value.int .i64 ask_Ver, Value.int .i64 ask_Inside, Value.int .i64 ask_Port, Value.int .i64 ask_Secs, Value.int .u64 ask_Nonce, Value.int .i64 ask_Result, Value.int .i64 ask_Epoch, Value.int .u32 ask_Host] :: stoP stoE85 (fun _ => default) ([] : SBX) :: FL) w, ?_, ?_⟩
    · rintro script2p script2l script2c ask3 from4 n7 t41 w ⟨rfl, rfl, rfl, rfl, rfl, rfl, hp, h⟩
      replace hp := hq t41 hp
      unfold law_GateGrants_j1
      refine cond_both' hp (fun hp => ?_) (fun hp => ?_)
      · exact hp.elim
      replace h := h.sel [] 3
      dsimp only [pickL, pickR, nthH, delH, dropH, List.cons_append, List.nil_append] at h
      exact hR false _ h hp
    clear hq
    refine eqlPtrNN undP27 ?_
    refine ⟨_, rfl, ?_⟩
    refine cond_tt ?_
    exact ⟨rfl, rfl, rfl, rfl, rfl, rfl, hp, h⟩
  rintro r_9 box box_1 box_2 box_3 box_4 box_5 box_6 list now b_3 p_2 n_2 c_2 w rfl h hp
  have cpp_2 := rowCap h 1 rfl
  refine ⟨_, _, rfl, ?_⟩
  refine ⟨_, rfl, ?_⟩
  refine ⟨_, rfl, ?_⟩
  obtain ⟨Q_1, hq, hp⟩ := hp
  refine ⟨fun script2_1p script2_1l script2_1c ask3_1 from4_1 n7_1 t41_1 w => p_1 = script2_1p ∧ script.length = script2_1l ∧ c_1 = script2_1c ∧ (Addr.mk b_1 0 none) = ask3_1 ∧ (Addr.mk b_2 0 none) = from4_1 ∧ (some (Addr.mk b_3 0 none)) = n7_1 ∧ Q_1 t41_1 ∧ Mem (cel b_3 71 [Value.int .u32 box, Value.int .i64 box_1, Value.int .i64 box_2, Value.int .i64 box_3, Value.int .i64 box_4, Value.int .i64 box_5, Value.int .i64 box_6, Value.slice p_2 list.length c_2, Value.int .i64 now] :: row enc82 82 1 p_2 c_2 list :: cel b_2 25 [Value.int .u32 from_Host, Value.int .i64 from_Port] :: cel b_1 41 [Value.int .i64 ask_Ver, Value.int .i64 ask_Inside, Value.int .i64 ask_Port, Value.int .i64 ask_Secs, Value.int .u64 ask_Nonce, Value.int .i64 ask_Result, Value.int .i64 ask_Epoch, Value.int .u32 ask_Host] :: stoP stoE85 (fun _ => default) ([] : SBX) :: FL) w, ?_, ?_⟩
  · rintro script2_1p script2_1l script2_1c ask3_1 from4_1 n7_1 t41_1 w ⟨rfl, rfl, rfl, rfl, rfl, rfl, hp, h⟩
    replace hp := hq t41_1 hp
    unfold law_GateGrants_j1
    refine cond_both hp (fun hp => ?_) (fun hp => ?_)
    · replace h := h.sel [] 5
      dsimp only [pickL, pickR, nthH, delH, dropH, List.cons_append, List.nil_append] at h
      exact hR false _ h hp
    refine gate_New_ok h hp ?_ ?_
    · intro r_10 w h hp
      refine ⟨_, _, rfl, ?_⟩
      refine ⟨_, rfl, ?_⟩
      refine ⟨_, rfl, ?_⟩
      obtain ⟨Q_2, hq, hp⟩ := hp
      refine ⟨fun script2_2p script2_2l script2_2c ask3_2 from4_2 n7_2 g9 t53 w => p_1 = script2_2p ∧ script.length = script2_2l ∧ c_1 = script2_2c ∧ (Addr.mk b_1 0 none) = ask3_2 ∧ (Addr.mk b_2 0 none) = from4_2 ∧ (some (Addr.mk b_3 0 none)) = n7_2 ∧ none = g9 ∧ Q_2 t53 ∧ Mem (cel b_3 71 [Value.int .u32 box, Value.int .i64 box_1, Value.int .i64 box_2, Value.int .i64 box_3, Value.int .i64 box_4, Value.int .i64 box_5, Value.int .i64 box_6, Value.slice p_2 list.length c_2, Value.int .i64 now] :: row enc82 82 1 p_2 c_2 list :: cel b_2 25 [Value.int .u32 from_Host, Value.int .i64 from_Port] :: cel b_1 41 [Value.int .i64 ask_Ver, Value.int .i64 ask_Inside, Value.int .i64 ask_Port, Value.int .i64 ask_Secs, Value.int .u64 ask_Nonce, Value.int .i64 ask_Result, Value.int .i64 ask_Epoch, Value.int .u32 ask_Host] :: stoP stoE85 (fun _ => default) ([] : SBX) :: FL) w, ?_, ?_⟩
      · rintro script2_2p script2_2l script2_2c ask3_2 from4_2 n7_2 g9 t53 w ⟨rfl, rfl, rfl, rfl, rfl, rfl, rfl, hp, h⟩
        replace hp := hq t53 hp
        unfold law_GateGrants_j2
        refine cond_both hp (fun hp => ?_) (fun hp => ?_)
        · replace h := h.sel [] 5
          dsimp only [pickL, pickR, nthH, delH, dropH, List.cons_append, List.nil_append] at h
          exact hR false _ h hp
        obtain ⟨Q_3, hq, hp⟩ := hp
        refine ⟨fun ask3_3 from4_3 n7_3 g9_1 w => (Addr.mk b_1 0 none) = ask3_3 ∧ (Addr.mk b_2 0 none) = from4_3 ∧ (some (Addr.mk b_3 0 none)) = n7_3 ∧ none = g9_1 ∧ Q_3 ∧ Mem (cel b_3 71 [Value.int .u32 box, Value.int .i64 box_1, Value.int .i64 box_2, Value.int .i64 box_3, Value.int .i64 box_4, Value.int .i64 box_5, Value.int .i64 box_6, Value.slice p_2 list.length c_2, Value.int .i64 now] :: row enc82 82 1 p_2 c_2 list :: cel b_2 25 [Value.int .u32 from_Host, Value.int .i64 from_Port] :: cel b_1 41 [Value.int .i64 ask_Ver, Value.int .i64 ask_Inside, Value.int .i64 ask_Port, Value.int .i64 ask_Secs, Value.int .u64 ask_Nonce, Value.int .i64 ask_Result, Value.int .i64 ask_Epoch, Value.int .u32 ask_Host] :: stoP stoE85 (fun _ => default) ([] : SBX) :: FL) w, ?_, ?_⟩
        · rintro ask3_3 from4_3 n7_3 g9_1 w ⟨rfl, rfl, rfl, rfl, hp, h⟩
          replace hp := hq  hp
          unfold law_GateGrants_j3
          refine ⟨fun ask3_6 from4_6 n7_6 g9_4 l12 h14 w => (False), ?_, ?_⟩
          · rintro ask3_6 from4_6 n7_6 g9_4 l12 h14 w (hF)
            · exact hF.elim
          replace h := h.drew
          refine ⟨fun w => Mem (cel b_2 25 [Value.int .u32 from_Host, Value.int .i64 from_Port] :: cel b_1 41 [Value.int .i64 ask_Ver, Value.int .i64 ask_Inside, Value.int .i64 ask_Port, Value.int .i64 ask_Secs, Value.int .u64 ask_Nonce, Value.int .i64 ask_Result, Value.int .i64 ask_Epoch, Value.int .u32 ask_Host] :: FL) w, (h.sel [2, 2] 3), ?_⟩
          refine ⟨_, cellL h 2 0 rfl rfl rfl, _, cellL h 2 1 rfl rfl rfl, ?_⟩
          refine ⟨?_, ?_⟩
          · intro w h
            change Mem _ _ at h
            refine ⟨_, cellL h 0 0 rfl rfl rfl, _, cellL h 0 1 rfl rfl rfl, ?_⟩
            exact ⟨rfl, rfl⟩
          refine ⟨_, cellL h 3 1 rfl rfl rfl, ?_⟩
          refine ⟨?_, ?_⟩
          · intro w h
            change Mem _ _ at h
            refine ⟨_, cellL h 1 1 rfl rfl rfl, ?_⟩
            exact ⟨rfl, rfl⟩
          refine ⟨_, cellL h 3 2 rfl rfl rfl, ?_⟩
          refine ⟨?_, ?_⟩
          · intro w h
            change Mem _ _ at h
            refine ⟨_, cellL h 1 2 rfl rfl rfl, ?_⟩
            exact ⟨rfl, rfl⟩
          refine ⟨_, cellL h 3 3 rfl rfl rfl, ?_⟩
          refine ⟨?_, ?_⟩
          · intro w h
            change Mem _ _ at h
            refine ⟨_, cellL h 1 3 rfl rfl rfl, ?_⟩
            exact ⟨rfl, rfl⟩
          refine ⟨?_, ?_⟩
          · replace hp := hp.1
            refine pmp_Ask_ok h hp ?_
            rintro rs_1 p_4 n_7 c_4 w rfl h hp
            have cpp_4 := rowCap h 0 rfl
            refine ⟨_, _, _, rfl, ?_⟩
            refine ⟨(h.sel [3, 3] 4), ?_⟩
            refine ⟨?_, ?_⟩
            · replace hp := hp.1
              exact hp.elim
            replace hp := hp.2
            refine newL (o := [Value.int .i64 0, Value.int .i64 0, Value.int .i64 0, Value.int .i64 0, Value.int .u64 0, Value.int .i64 0, Value.int .i64 0, Value.int .u32 0]) h ?_
            intro b_4 w h
            refine ⟨(h.sel [4, 4] 5), ?_⟩
            exact hp.elim
          replace hp := hp.2
          refine newL (o := [Value.int .i64 0, Value.int .i64 0, Value.int .i64 0, Value.int .i64 0, Value.int .u64 0, Value.int .i64 0, Value.int .i64 0, Value.int .u32 0]) h ?_
          intro b_5 w h
          refine ⟨(h.sel [3, 3] 4), ?_⟩
          refine pmp_Ask_ok h hp ?_
          rintro rs_2 p_5 n_8 c_5 w rfl h hp
          have cpp_5 := rowCap h 0 rfl
          refine ⟨_, _, _, rfl, ?_⟩
          refine ⟨(h.sel [4, 4] 5), ?_⟩
          exact hp.elim
        clear hq
        obtain ⟨I, ⟨n_6, h0⟩, hq⟩ := hp
        refine ⟨fun n_3 script2_3p script2_3l script2_3c ask3_4 from4_4 n7_4 g9_2 i11 w => p_1 = script2_3p ∧ script.length = script2_3l ∧ c_1 = script2_3c ∧ (Addr.mk b_1 0 none) = ask3_4 ∧ (Addr.mk b_2 0 none) = from4_4 ∧ (some (Addr.mk b_3 0 none)) = n7_4 ∧ none = g9_2 ∧ I n_3 i11 ∧ Mem (cel b_3 71 [Value.int .u32 box, Value.int .i64 box_1, Value.int .i64 box_2, Value.int .i64 box_3, Value.int .i64 box_4, Value.int .i64 box_5, Value.int .i64 box_6, Value.slice p_2 list.length c_2, Value.int .i64 now] :: row enc82 82 1 p_2 c_2 list :: cel b_2 25 [Value.int .u32 from_Host, Value.int .i64 from_Port] :: cel b_1 41 [Value.int .i64 ask_Ver, Value.int .i64 ask_Inside, Value.int .i64 ask_Port, Value.int .i64 ask_Secs, Value.int .u64 ask_Nonce, Value.int .i64 ask_Result, Value.int .i64 ask_Epoch, Value.int .u32 ask_Host] :: stoP stoE85 (fun _ => default) ([] : SBX) :: FL) w, ⟨n_6, rfl, rfl, rfl, rfl, rfl, rfl, rfl, h0, h⟩, ?_⟩
        clear h0 h
        rintro n_3 script2_3p script2_3l script2_3c ask3_4 from4_4 n7_4 g9_2 i11 w ⟨rfl, rfl, rfl, rfl, rfl, rfl, rfl, hp, h⟩
        replace hp := hq n_3 i11 hp
        clear hq
        unfold law_GateGrants_l9
        obtain ⟨Q_4, hq, hp⟩ := hp
        refine ⟨fun script2_4p script2_4l script2_4c ask3_5 from4_5 n7_5 g9_3 i11_1 t61 w => p_1 = script2_4p ∧ script.length = script2_4l ∧ c_1 = script2_4c ∧ (Addr.mk b_1 0 none) = ask3_5 ∧ (Addr.mk b_2 0 none) = from4_5 ∧ (some (Addr.mk b_3 0 none)) = n7_5 ∧ none = g9_3 ∧ i11 = i11_1 ∧ Q_4 t61 ∧ Mem (cel b_3 71 [Value.int .u32 box, Value.int .i64 box_1, Value.int .i64 box_2, Value.int .i64 box_3, Value.int .i64 box_4, Value.int .i64 box_5, Value.int .i64 box_6, Value.slice p_2 list.length c_2, Value.int .i64 now] :: row enc82 82 1 p_2 c_2 list :: cel b_2 25 [Value.int .u32 from_Host, Value.int .i64 from_Port] :: cel b_1 41 [Value.int .i64 ask_Ver, Value.int .i64 ask_Inside, Value.int .i64 ask_Port, Value.int .i64 ask_Secs, Value.int .u64 ask_Nonce, Value.int .i64 ask_Result, Value.int .i64 ask_Epoch, Value.int .u32 ask_Host] :: stoP stoE85 (fun _ => default) ([] : SBX) :: FL) w, ?_, ?_⟩
        · rintro script2_4p script2_4l script2_4c ask3_5 from4_5 n7_5 g9_3 i11_1 t61 w ⟨rfl, rfl, rfl, rfl, rfl, rfl, rfl, rfl, hp, h⟩
          replace hp := hq t61 hp
          unfold law_GateGrants_j10
          refine cond_both' hp (fun hp => ?_) (fun hp => ?_)
          · exact ⟨rfl, rfl, rfl, rfl, hp, h⟩
          replace h := h.drew
          obtain ⟨ia_1, ja_1, hp⟩ := hp
          obtain ⟨a_1, ha_1⟩ := rdAddrD (hF_script _ (h.drop 5)) rfl ia_1 ja_1
          refine ⟨a_1, ha_1, ia_1, ja_1, ?_⟩
          obtain ⟨x_1, hx_1, cs, hR, hc0, hc1, hc2⟩ := rdCellD (hF_script _ (h.drop 5)) ha_1 rfl ia_1 ja_1
          replace hp := hp x_1 hx_1
          obtain ⟨qp6, qn6, qc6, rfl, rfl, hc_qp6, hF_qp6⟩ := hR
          refine ⟨_, hc2 2 0 _ rfl, ?_⟩
          refine ⟨_, cellL h 2 0 rfl rfl rfl, ?_⟩
          refine cond_both' hp (fun hp => ?_) (fun hp => ?_)
          · obtain ⟨n_5, hn, hp⟩ := hp
            exact ⟨n_5, hn, rfl, rfl, rfl, rfl, rfl, rfl, rfl, hp, h⟩
          replace h := h.drew
          refine ⟨fun w => Mem (FL) w, (h.sel [] 5), ?_⟩
          obtain ⟨ia_2, ja_2, hp⟩ := hp
          obtain ⟨a_2, ha_2⟩ := rdAddrD (hF_script _ (h.drop 5)) rfl ia_2 ja_2
          refine ⟨a_2, ha_2, ia_2, ja_2, ?_⟩
          obtain ⟨x_3, hx_3, cs, hR, hc0, hc1, hc2⟩ := rdCellD (hF_script _ (h.drop 5)) ha_2 rfl ia_2 ja_2
          replace hp := hp x_3 hx_3
          obtain ⟨q_2p6, q_2n6, q_2c6, rfl, rfl, hc_q_2p6, hF_q_2p6⟩ := hR
          refine ⟨_, hc2 2 0 _ rfl, _, hc2 2 1 _ rfl, ?_⟩
          refine ⟨?_, ?_⟩
          · intro w h
            change Mem _ _ at h
            obtain ⟨x_2, hx_2, cs, hR, hc0, hc1, hc2⟩ := rdCellD (hF_script _ (h.drop 0)) ha_2 rfl ia_2 ja_2
            obtain rfl : x_2 = x_3 := Option.some.inj (hx_2.symm.trans hx_3)
            obtain ⟨q_1p6, q_1n6, q_1c6, rfl, rfl, hc_q_1p6, hF_q_1p6⟩ := hR
            refine ⟨_, hc2 2 0 _ rfl, _, hc2 2 1 _ rfl, ?_⟩
            exact ⟨rfl, rfl⟩
          obtain ⟨ia_3, ja_3, hp⟩ := hp
          obtain ⟨a_3, ha_3⟩ := rdAddrD (hF_script _ (h.drop 5)) rfl ia_3 ja_3
          refine ⟨a_3, ha_3, ia_3, ja_3, ?_⟩
          obtain ⟨x_4, hx_4, cs, hR, hc0, hc1, hc2⟩ := rdCellD (hF_script _ (h.drop 5)) ha_3 rfl ia_3 ja_3
          replace hp := hp x_4 hx_4
          obtain ⟨q_3p6, q_3n6, q_3c6, rfl, rfl, hc_q_3p6, hF_q_3p6⟩ := hR
          refine ⟨_, hc2 7 0 _ rfl, _, hc2 7 1 _ rfl, _, hc2 7 2 _ rfl, _, hc2 7 3 _ rfl, _, hc2 7 4 _ rfl, _, hc2 7 5 _ rfl, _, hc2 7 6 _ rfl, _, hc2 7 7 _ rfl, ?_⟩
          refine pmp_Ask_ok h hp ?_
          rintro rs p_3 n_4 c_3 w rfl h hp
          have cpp_3 := rowCap h 0 rfl
          refine ⟨_, _, _, rfl, ?_⟩
          refine ⟨(h.sel [] 6), ?_⟩
          exact hp.elim
        clear hq
        refine cond_both hp (fun hp => ?_) (fun hp => ?_)
        · exact ⟨rfl, rfl, rfl, rfl, rfl, rfl, rfl, rfl, hp, h⟩
        exact ⟨rfl, rfl, rfl, rfl, rfl, rfl, rfl, rfl, hp, h⟩
      clear hq
      refine eqlPtrNN undP34 ?_
      refine ⟨_, rfl, ?_⟩
      refine cond_tt ?_
      exact ⟨rfl, rfl, rfl, rfl, rfl, rfl, rfl, hp, h⟩
    intro r_11 g_1 g_2 g_3 boot now_1 by_ b_6 b_7 p_6 w h hp
    refine ⟨_, _, rfl, ?_⟩
    refine ⟨_, rfl, ?_⟩
    refine ⟨_, rfl, ?_⟩
    obtain ⟨Q_6, hq, hp⟩ := hp
    refine ⟨fun script2_5p script2_5l script2_5c ask3_7 from4_7 n7_7 g9_5 t53_1 w => p_1 = script2_5p ∧ script.length = script2_5l ∧ c_1 = script2_5c ∧ (Addr.mk b_1 0 none) = ask3_7 ∧ (Addr.mk b_2 0 none) = from4_7 ∧ (some (Addr.mk b_3 0 none)) = n7_7 ∧ (some (Addr.mk b_6 0 none)) = g9_5 ∧ Q_6 t53_1 ∧ Mem (cel b_6 75 [Value.pointer (some (Addr.mk b_3 0 none)), Value.bool g_1, Value.bool g_2, Value.int .i64 g_3, Value.int .i64 boot, Value.int .i64 now_1, Value.map (some b_7)] :: cel b_3 71 [Value.int .u32 box, Value.int .i64 box_1, Value.int .i64 box_2, Value.int .i64 box_3, Value.int .i64 box_4, Value.int .i64 box_5, Value.int .i64 box_6, Value.slice p_2 list.length c_2, Value.int .i64 now] :: row enc82 82 1 p_2 c_2 list :: cel b_2 25 [Value.int .u32 from_Host, Value.int .i64 from_Port] :: cel b_1 41 [Value.int .i64 ask_Ver, Value.int .i64 ask_Inside, Value.int .i64 ask_Port, Value.int .i64 ask_Secs, Value.int .u64 ask_Nonce, Value.int .i64 ask_Result, Value.int .i64 ask_Epoch, Value.int .u32 ask_Host] :: mapQ b_7 va25 va111 p_6 by_ :: stoP stoE85 (fun _ => default) ([] : SBX) :: FL) w, ?_, ?_⟩
    · rintro script2_5p script2_5l script2_5c ask3_7 from4_7 n7_7 g9_5 t53_1 w ⟨rfl, rfl, rfl, rfl, rfl, rfl, rfl, hp, h⟩
      replace hp := hq t53_1 hp
      unfold law_GateGrants_j2
      refine cond_both hp (fun hp => ?_) (fun hp => ?_)
      · replace h := h.sel [] 7
        dsimp only [pickL, pickR, nthH, delH, dropH, List.cons_append, List.nil_append] at h
        exact hR false _ h hp
      obtain ⟨Q_7, hq, hp⟩ := hp
      refine ⟨fun ask3_8 from4_8 n7_8 g9_6 w => ∃ (now_2 : Int), ∃ (list_1 : List (Option Nat)), ∃ (p_7 : Option Addr), ∃ (n_9 : Nat), ∃ (c_6 : Nat), ∃ (now_3 : Int), ∃ (m_1 : BYX), ∃ (p_8 : List MapEntry × Nat), ∃ (m_2 : SBX), ∃ (hd : Nat → Option Addr × Nat), (Addr.mk b_1 0 none) = ask3_8 ∧ (Addr.mk b_2 0 none) = from4_8 ∧ (some (Addr.mk b_3 0 none)) = n7_8 ∧ (some (Addr.mk b_6 0 none)) = g9_6 ∧ n_9 = list_1.length ∧ Q_7 now_2 list_1 now_3 m_1 m_2 ∧ Mem (cel b_6 75 [Value.pointer (some (Addr.mk b_3 0 none)), Value.bool g_1, Value.bool g_2, Value.int .i64 g_3, Value.int .i64 boot, Value.int .i64 now_2, Value.map (some b_7)] :: cel b_3 71 [Value.int .u32 box, Value.int .i64 box_1, Value.int .i64 box_2, Value.int .i64 box_3, Value.int .i64 box_4, Value.int .i64 box_5, Value.int .i64 box_6, Value.slice p_7 n_9 c_6, Value.int .i64 now_3] :: row enc82 82 1 p_7 c_6 list_1 :: cel b_2 25 [Value.int .u32 from_Host, Value.int .i64 from_Port] :: cel b_1 41 [Value.int .i64 ask_Ver, Value.int .i64 ask_Inside, Value.int .i64 ask_Port, Value.int .i64 ask_Secs, Value.int .u64 ask_Nonce, Value.int .i64 ask_Result, Value.int .i64 ask_Epoch, Value.int .u32 ask_Host] :: mapQ b_7 va25 va111 p_8 m_1 :: stoP stoE85 hd m_2 :: FL) w, ?_, ?_⟩
      · rintro ask3_8 from4_8 n7_8 g9_6 w ⟨now_2, list_1, p_7, n_9, c_6, now_3, m_1, p_8, m_2, hd, rfl, rfl, rfl, rfl, rfl, hp, h⟩
        replace hp := hq now_2 list_1 now_3 m_1 m_2 hp
        unfold law_GateGrants_j3
        have cpp_7 := rowCap h 2 rfl
        obtain ⟨Q_9, hq, hp⟩ := hp
        refine ⟨fun ask3_11 from4_11 n7_11 g9_9 l12_1 h14_1 w => ∃ (now_8 : Int), ∃ (list_4 : List (Option Nat)), ∃ (p_15 : Option Addr), ∃ (n_18 : Nat), ∃ (c_11 : Nat), ∃ (now_9 : Int), ∃ (b_8 : Nat), ∃ (Ver : Int), ∃ (Inside : Int), ∃ (Port : Int), ∃ (Secs : Int), ∃ (Nonce : Int), ∃ (Result_ : Int), ∃ (Epoch : Int), ∃ (Host : Int), ∃ (m_7 : BYX), ∃ (p_16 : List MapEntry × Nat), ∃ (m_8 : SBX), ∃ (hd_3 : Nat → Option Addr × Nat), (Addr.mk b_1 0 none) = ask3_11 ∧ (Addr.mk b_2 0 none) = from4_11 ∧ (some (Addr.mk b_3 0 none)) = n7_11 ∧ (some (Addr.mk b_6 0 none)) = g9_9 ∧ (Addr.mk b_8 0 none) = l12_1 ∧ n_18 = list_4.length ∧ Q_9 now_8 list_4 now_9 Ver Inside Port Secs Nonce Result_ Epoch Host h14_1 m_7 m_8 ∧ Mem (cel b_6 75 [Value.pointer (some (Addr.mk b_3 0 none)), Value.bool g_1, Value.bool g_2, Value.int .i64 g_3, Value.int .i64 boot, Value.int .i64 now_8, Value.map (some b_7)] :: cel b_3 71 [Value.int .u32 box, Value.int .i64 box_1, Value.int .i64 box_2, Value.int .i64 box_3, Value.int .i64 box_4, Value.int .i64 box_5, Value.int .i64 box_6, Value.slice p_15 n_18 c_11, Value.int .i64 now_9] :: row enc82 82 1 p_15 c_11 list_4 :: cel b_2 25 [Value.int .u32 from_Host, Value.int .i64 from_Port] :: cel b_1 41 [Value.int .i64 ask_Ver, Value.int .i64 ask_Inside, Value.int .i64 ask_Port, Value.int .i64 ask_Secs, Value.int .u64 ask_Nonce, Value.int .i64 ask_Result, Value.int .i64 ask_Epoch, Value.int .u32 ask_Host] :: mapQ b_7 va25 va111 p_16 m_7 :: stoP stoE85 hd_3 m_8 :: cel b_8 41 [Value.int .i64 Ver, Value.int .i64 Inside, Value.int .i64 Port, Value.int .i64 Secs, Value.int .u64 Nonce, Value.int .i64 Result_, Value.int .i64 Epoch, Value.int .u32 Host] :: FL) w, ?_, ?_⟩
        · rintro ask3_11 from4_11 n7_11 g9_9 l12_1 h14_1 w ⟨now_8, list_4, p_15, n_18, c_11, now_9, b_8, Ver, Inside, Port, Secs, Nonce, Result_, Epoch, Host, m_7, p_16, m_8, hd_3, rfl, rfl, rfl, rfl, rfl, rfl, hp, h⟩
          replace hp := hq now_8 list_4 now_9 Ver Inside Port Secs Nonce Result_ Epoch Host h14_1 m_7 m_8 hp
          unfold law_GateGrants_j4
          have cpp_15 := rowCap h 2 rfl
          obtain ⟨Q_10, hq, hp⟩ := hp
          refine ⟨fun ask3_12 from4_12 n7_12 g9_10 l12_2 t113 w => (Addr.mk b_1 0 none) = ask3_12 ∧ (Addr.mk b_2 0 none) = from4_12 ∧ (some (Addr.mk b_3 0 none)) = n7_12 ∧ (some (Addr.mk b_6 0 none)) = g9_10 ∧ (Addr.mk b_8 0 none) = l12_2 ∧ Q_10 t113 ∧ Mem (cel b_6 75 [Value.pointer (some (Addr.mk b_3 0 none)), Value.bool g_1, Value.bool g_2, Value.int .i64 g_3, Value.int .i64 boot, Value.int .i64 now_8, Value.map (some b_7)] :: cel b_3 71 [Value.int .u32 box, Value.int .i64 box_1, Value.int .i64 box_2, Value.int .i64 box_3, Value.int .i64 box_4, Value.int .i64 box_5, Value.int .i64 box_6, Value.slice p_15 list_4.length c_11, Value.int .i64 now_9] :: row enc82 82 1 p_15 c_11 list_4 :: cel b_2 25 [Value.int .u32 from_Host, Value.int .i64 from_Port] :: cel b_1 41 [Value.int .i64 ask_Ver, Value.int .i64 ask_Inside, Value.int .i64 ask_Port, Value.int .i64 ask_Secs, Value.int .u64 ask_Nonce, Value.int .i64 ask_Result, Value.int .i64 ask_Epoch, Value.int .u32 ask_Host] :: cel b_8 41 [Value.int .i64 Ver, Value.int .i64 Inside, Value.int .i64 Port, Value.int .i64 Secs, Value.int .u64 Nonce, Value.int .i64 Result_, Value.int .i64 Epoch, Value.int .u32 Host] :: mapQ b_7 va25 va111 p_16 m_7 :: stoP stoE85 hd_3 m_8 :: FL) w, ?_, ?_⟩
          · rintro ask3_12 from4_12 n7_12 g9_10 l12_2 t113 w ⟨rfl, rfl, rfl, rfl, rfl, hp, h⟩
            replace hp := hq t113 hp
            unfold law_GateGrants_j5
            refine cond_both hp (fun hp => ?_) (fun hp => ?_)
            · replace h := h.sel [] 8
              dsimp only [pickL, pickR, nthH, delH, dropH, List.cons_append, List.nil_append] at h
              exact hR true _ h hp
            refine ⟨_, cellL h 3 0 rfl rfl rfl, ?_⟩
            refine ⟨_, cellL h 5 1 rfl rfl rfl, ?_⟩
            refine newL (o := [Value.int .u32 0, Value.int .i64 0]) h ?_
            intro b_13 w h
            refine storeL (ys := [Value.int .u32 from_Host, Value.int .i64 Inside]) h 0 0 rfl rfl rfl sz25 rfl rfl ?_
            intro w h
            dsimp only [setH, setVs, setV] at h
            refine ⟨_, cellL h 6 3 rfl rfl rfl, ?_⟩
            refine ⟨_, cellL h 6 2 rfl rfl rfl, ?_⟩
            replace h := h.pick [2, 2, 6]
            dsimp only [pickL, pickR, nthH, delH, dropH, List.cons_append, List.nil_append] at h
            refine nN_In_ok h hp ?_
            rintro r_52 r_53 r_54 list_8 now_16 m_15 p_28 n_27 c_20 hd_7 w rfl h hp
            have cpp_28 := rowCap h 1 rfl
            refine ⟨_, _, _, rfl, ?_⟩
            refine ⟨_, _, rfl, ?_⟩
            refine ⟨_, rfl, ?_⟩
            refine newL (o := [Value.int .u32 0, Value.int .i64 0]) h ?_
            intro b_14 w h
            refine storeL (ys := [Value.int .u32 r_52, Value.int .i64 r_53]) h 0 0 rfl rfl rfl sz25 rfl rfl ?_
            intro w h
            dsimp only [setH, setVs, setV] at h
            obtain ⟨Q_11, hq, hp⟩ := hp
            refine ⟨fun ask3_13 from4_13 n7_13 g9_11 l12_3 in15 until16 a17 i18 m19 j21 w => ∃ (list_9 : List (Option Nat)), ∃ (p_29 : Option Addr), ∃ (n_28 : Nat), ∃ (c_21 : Nat), ∃ (now_17 : Int), ∃ (now_18 : Int), ∃ (b_15 : Nat), ∃ (Ver_1 : Int), ∃ (Inside_1 : Int), ∃ (Port_1 : Int), ∃ (Secs_1 : Int), ∃ (Nonce_1 : Int), ∃ (Result__1 : Int), ∃ (Epoch_1 : Int), ∃ (Host_1 : Int), ∃ (m_16 : SBX), ∃ (hd_8 : Nat → Option Addr × Nat), ∃ (m_17 : BYX), ∃ (p_30 : List MapEntry × Nat), (Addr.mk b_1 0 none) = ask3_13 ∧ (Addr.mk b_2 0 none) = from4_13 ∧ (some (Addr.mk b_3 0 none)) = n7_13 ∧ (some (Addr.mk b_6 0 none)) = g9_11 ∧ (Addr.mk b_8 0 none) = l12_3 ∧ (Addr.mk b_13 0 none) = in15 ∧ (IntKind.wrap .i64 (2 + Secs)) = until16 ∧ (Addr.mk b_14 0 none) = a17 ∧ r_54 = i18 ∧ (Addr.mk b_15 0 none) = m19 ∧ n_28 = list_9.length ∧ Q_11 list_9 now_17 now_18 Ver_1 Inside_1 Port_1 Secs_1 Nonce_1 Result__1 Epoch_1 Host_1 j21 m_16 m_17 ∧ Mem (cel b_14 25 [Value.int .u32 r_52, Value.int .i64 r_53] :: cel b_3 71 [Value.int .u32 box, Value.int .i64 box_1, Value.int .i64 box_2, Value.int .i64 box_3, Value.int .i64 box_4, Value.int .i64 box_5, Value.int .i64 box_6, Value.slice p_29 n_28 c_21, Value.int .i64 now_17] :: row enc82 82 1 p_29 c_21 list_9 :: cel b_13 25 [Value.int .u32 from_Host, Value.int .i64 Inside] :: cel b_6 75 [Value.pointer (some (Addr.mk b_3 0 none)), Value.bool g_1, Value.bool g_2, Value.int .i64 g_3, Value.int .i64 boot, Value.int .i64 now_18, Value.map (some b_7)] :: cel b_2 25 [Value.int .u32 from_Host, Value.int .i64 from_Port] :: cel b_1 41 [Value.int .i64 ask_Ver, Value.int .i64 ask_Inside, Value.int .i64 ask_Port, Value.int .i64 ask_Secs, Value.int .u64 ask_Nonce, Value.int .i64 ask_Result, Value.int .i64 ask_Epoch, Value.int .u32 ask_Host] :: cel b_8 41 [Value.int .i64 Ver, Value.int .i64 Inside, Value.int .i64 Port, Value.int .i64 Secs, Value.int .u64 Nonce, Value.int .i64 Result_, Value.int .i64 Epoch, Value.int .u32 Host] :: stoP stoE85 hd_8 m_16 :: mapQ b_7 va25 va111 p_30 m_17 :: cel b_15 41 [Value.int .i64 Ver_1, Value.int .i64 Inside_1, Value.int .i64 Port_1, Value.int .i64 Secs_1, Value.int .u64 Nonce_1, Value.int .i64 Result__1, Value.int .i64 Epoch_1, Value.int .u32 Host_1] :: FL) w, ?_, ?_⟩
            · rintro ask3_13 from4_13 n7_13 g9_11 l12_3 in15 until16 a17 i18 m19 j21 w ⟨list_9, p_29, n_28, c_21, now_17, now_18, b_15, Ver_1, Inside_1, Port_1, Secs_1, Nonce_1, Result__1, Epoch_1, Host_1, m_16, hd_8, m_17, p_30, rfl, rfl, rfl, rfl, rfl, rfl, rfl, rfl, rfl, rfl, rfl, hp, h⟩
              replace hp := hq list_9 now_17 now_18 Ver_1 Inside_1 Port_1 Secs_1 Nonce_1 Result__1 Epoch_1 Host_1 j21 m_16 m_17 hp
              unfold law_GateGrants_j6
              have cpp_29 := rowCap h 2 rfl
              refine ⟨_, cellL h 7 2 rfl rfl rfl, ?_⟩
              replace h := h.pick [1, 1, 6]
              dsimp only [pickL, pickR, nthH, delH, dropH, List.cons_append, List.nil_append] at h
              refine nN_In_ok h hp ?_
              rintro r_95 r_96 r_97 list_13 now_25 m_24 p_42 n_37 c_30 hd_12 w rfl h hp
              have cpp_42 := rowCap h 1 rfl
              refine ⟨_, _, _, rfl, ?_⟩
              refine ⟨_, _, rfl, ?_⟩
              refine ⟨_, rfl, ?_⟩
              refine newL (o := [Value.int .u32 0, Value.int .i64 0]) h ?_
              intro b_20 w h
              refine storeL (ys := [Value.int .u32 r_95, Value.int .i64 r_96]) h 0 0 rfl rfl rfl sz25 rfl rfl ?_
              intro w h
              dsimp only [setH, setVs, setV] at h
              obtain ⟨Q_12, hq, hp⟩ := hp
              refine ⟨fun ask3_14 n7_14 l12_4 in15_1 until16_1 a17_1 i18_1 m19_1 j21_1 b22 k23 o24 p26 w => ∃ (list_14 : List (Option Nat)), ∃ (p_43 : Option Addr), ∃ (n_38 : Nat), ∃ (c_31 : Nat), ∃ (now_26 : Int), ∃ (now_27 : Int), ∃ (b_21 : Nat), ∃ (Ver_2 : Int), ∃ (Inside_2 : Int), ∃ (Port_2 : Int), ∃ (Secs_2 : Int), ∃ (Nonce_2 : Int), ∃ (Result__2 : Int), ∃ (Epoch_2 : Int), ∃ (Host_2 : Int), ∃ (m_25 : SBX), ∃ (hd_13 : Nat → Option Addr × Nat), ∃ (m_26 : BYX), ∃ (p_44 : List MapEntry × Nat), (Addr.mk b_1 0 none) = ask3_14 ∧ (some (Addr.mk b_3 0 none)) = n7_14 ∧ (Addr.mk b_8 0 none) = l12_4 ∧ (Addr.mk b_13 0 none) = in15_1 ∧ (IntKind.wrap .i64 (2 + Secs)) = until16_1 ∧ (Addr.mk b_14 0 none) = a17_1 ∧ r_54 = i18_1 ∧ (Addr.mk b_15 0 none) = m19_1 ∧ j21 = j21_1 ∧ (Addr.mk b_20 0 none) = b22 ∧ r_97 = k23 ∧ (Addr.mk b_21 0 none) = o24 ∧ n_38 = list_14.length ∧ Q_12 list_14 now_26 now_27 Ver_2 Inside_2 Port_2 Secs_2 Nonce_2 Result__2 Epoch_2 Host_2 p26 m_25 m_26 ∧ Mem (cel b_20 25 [Value.int .u32 r_95, Value.int .i64 r_96] :: cel b_3 71 [Value.int .u32 box, Value.int .i64 box_1, Value.int .i64 box_2, Value.int .i64 box_3, Value.int .i64 box_4, Value.int .i64 box_5, Value.int .i64 box_6, Value.slice p_43 n_38 c_31, Value.int .i64 now_26] :: row enc82 82 1 p_43 c_31 list_14 :: cel b_14 25 [Value.int .u32 r_52, Value.int .i64 r_53] :: cel b_13 25 [Value.int .u32 from_Host, Value.int .i64 Inside] :: cel b_6 75 [Value.pointer (some (Addr.mk b_3 0 none)), Value.bool g_1, Value.bool g_2, Value.int .i64 g_3, Value.int .i64 boot, Value.int .i64 now_27, Value.map (some b_7)] :: cel b_2 25 [Value.int .u32 from_Host, Value.int .i64 from_Port] :: cel b_1 41 [Value.int .i64 ask_Ver, Value.int .i64 ask_Inside, Value.int .i64 ask_Port, Value.int .i64 ask_Secs, Value.int .u64 ask_Nonce, Value.int .i64 ask_Result, Value.int .i64 ask_Epoch, Value.int .u32 ask_Host] :: cel b_8 41 [Value.int .i64 Ver, Value.int .i64 Inside, Value.int .i64 Port, Value.int .i64 Secs, Value.int .u64 Nonce, Value.int .i64 Result_, Value.int .i64 Epoch, Value.int .u32 Host] :: cel b_15 41 [Value.int .i64 Ver_1, Value.int .i64 Inside_1, Value.int .i64 Port_1, Value.int .i64 Secs_1, Value.int .u64 Nonce_1, Value.int .i64 Result__1, Value.int .i64 Epoch_1, Value.int .u32 Host_1] :: stoP stoE85 hd_13 m_25 :: mapQ b_7 va25 va111 p_44 m_26 :: cel b_21 41 [Value.int .i64 Ver_2, Value.int .i64 Inside_2, Value.int .i64 Port_2, Value.int .i64 Secs_2, Value.int .u64 Nonce_2, Value.int .i64 Result__2, Value.int .i64 Epoch_2, Value.int .u32 Host_2] :: FL) w, ?_, ?_⟩
              · rintro ask3_14 n7_14 l12_4 in15_1 until16_1 a17_1 i18_1 m19_1 j21_1 b22 k23 o24 p26 w ⟨list_14, p_43, n_38, c_31, now_26, now_27, b_21, Ver_2, Inside_2, Port_2, Secs_2, Nonce_2, Result__2, Epoch_2, Host_2, m_25, hd_13, m_26, p_44, rfl, rfl, rfl, rfl, rfl, rfl, rfl, rfl, rfl, rfl, rfl, rfl, rfl, hp, h⟩
                replace hp := hq list_14 now_26 now_27 Ver_2 Inside_2 Port_2 Secs_2 Nonce_2 Result__2 Epoch_2 Host_2 p26 m_25 m_26 hp
                unfold law_GateGrants_j7
                have cpp_43 := rowCap h 2 rfl
                refine ⟨_, cellL h 8 2 rfl rfl rfl, ?_⟩
                replace h := h.pick [1, 1, 8]
                dsimp only [pickL, pickR, nthH, delH, dropH, List.cons_append, List.nil_append] at h
                refine nN_In_ok h hp ?_
                rintro r_138 r_139 r_140 list_18 now_34 m_33 p_56 n_47 c_40 hd_17 w rfl h hp
                have cpp_56 := rowCap h 1 rfl
                refine ⟨_, _, _, rfl, ?_⟩
                refine ⟨_, _, rfl, ?_⟩
                refine ⟨_, rfl, ?_⟩
                refine newL (o := [Value.int .u32 0, Value.int .i64 0]) h ?_
                intro b_26 w h
                refine storeL (ys := [Value.int .u32 r_138, Value.int .i64 r_139]) h 0 0 rfl rfl rfl sz25 rfl rfl ?_
                intro w h
                dsimp only [setH, setVs, setV] at h
                obtain ⟨Q_13, hq, hp⟩ := hp
                refine ⟨fun in15_2 b22_1 k23_1 o24_1 p26_1 q28 t215 w => (Addr.mk b_13 0 none) = in15_2 ∧ (Addr.mk b_20 0 none) = b22_1 ∧ r_97 = k23_1 ∧ (Addr.mk b_21 0 none) = o24_1 ∧ p26 = p26_1 ∧ r_140 = q28 ∧ Q_13 t215 ∧ Mem (cel b_26 25 [Value.int .u32 r_138, Value.int .i64 r_139] :: cel b_3 71 [Value.int .u32 box, Value.int .i64 box_1, Value.int .i64 box_2, Value.int .i64 box_3, Value.int .i64 box_4, Value.int .i64 box_5, Value.int .i64 box_6, Value.slice p_56 list_18.length c_40, Value.int .i64 now_34] :: row enc82 82 1 p_56 c_40 list_18 :: cel b_20 25 [Value.int .u32 r_95, Value.int .i64 r_96] :: cel b_14 25 [Value.int .u32 r_52, Value.int .i64 r_53] :: cel b_13 25 [Value.int .u32 from_Host, Value.int .i64 Inside] :: cel b_6 75 [Value.pointer (some (Addr.mk b_3 0 none)), Value.bool g_1, Value.bool g_2, Value.int .i64 g_3, Value.int .i64 boot, Value.int .i64 now_27, Value.map (some b_7)] :: cel b_2 25 [Value.int .u32 from_Host, Value.int .i64 from_Port] :: cel b_1 41 [Value.int .i64 ask_Ver, Value.int .i64 ask_Inside, Value.int .i64 ask_Port, Value.int .i64 ask_Secs, Value.int .u64 ask_Nonce, Value.int .i64 ask_Result, Value.int .i64 ask_Epoch, Value.int .u32 ask_Host] :: cel b_8 41 [Value.int .i64 Ver, Value.int .i64 Inside, Value.int .i64 Port, Value.int .i64 Secs, Value.int .u64 Nonce, Value.int .i64 Result_, Value.int .i64 Epoch, Value.int .u32 Host] :: cel b_15 41 [Value.int .i64 Ver_1, Value.int .i64 Inside_1, Value.int .i64 Port_1, Value.int .i64 Secs_1, Value.int .u64 Nonce_1, Value.int .i64 Result__1, Value.int .i64 Epoch_1, Value.int .u32 Host_1] :: cel b_21 41 [Value.int .i64 Ver_2, Value.int .i64 Inside_2, Value.int .i64 Port_2, Value.int .i64 Secs_2, Value.int .u64 Nonce_2, Value.int .i64 Result__2, Value.int .i64 Epoch_2, Value.int .u32 Host_2] :: stoP stoE85 hd_17 m_33 :: mapQ b_7 va25 va111 p_44 m_26 :: FL) w, ?_, ?_⟩
                · rintro in15_2 b22_1 k23_1 o24_1 p26_1 q28 t215 w ⟨rfl, rfl, rfl, rfl, rfl, rfl, hp, h⟩
                  replace hp := hq t215 hp
                  unfold law_GateGrants_j8
                  refine cond_both hp (fun hp => ?_) (fun hp => ?_)
                  · replace h := h.sel [] 14
                    dsimp only [pickL, pickR, nthH, delH, dropH, List.cons_append, List.nil_append] at h
                    exact hR false _ h hp
                  refine cond_both' hp (fun hp => ?_) (fun hp => ?_)
                  · replace h := h.sel [] 14
                    dsimp only [pickL, pickR, nthH, delH, dropH, List.cons_append, List.nil_append] at h
                    exact hR false _ h hp
                  refine ⟨_, cellL h 3 0 rfl rfl rfl, _, cellL h 3 1 rfl rfl rfl, ?_⟩
                  refine ⟨_, cellL h 5 0 rfl rfl rfl, _, cellL h 5 1 rfl rfl rfl, ?_⟩
                  refine eqlAgg (xs := [Value.int .u32 r_95, Value.int .i64 r_96]) (ys := [Value.int .u32 from_Host, Value.int .i64 Inside]) eqG25 eqA25 (eqT25 r_95 r_96 from_Host Inside) ?_
                  refine ⟨_, rfl, ?_⟩
                  refine cond_both' hp (fun hp => ?_) (fun hp => ?_)
                  · replace h := h.sel [] 14
                    dsimp only [pickL, pickR, nthH, delH, dropH, List.cons_append, List.nil_append] at h
                    exact hR false _ h hp
                  refine cond_both' hp (fun hp => ?_) (fun hp => ?_)
                  · replace h := h.sel [] 14
                    dsimp only [pickL, pickR, nthH, delH, dropH, List.cons_append, List.nil_append] at h
                    exact hR false _ h hp
                  refine ⟨_, cellL h 11 3 rfl rfl rfl, ?_⟩
                  refine cond_both' hp (fun hp => ?_) (fun hp => ?_)
                  · replace h := h.sel [] 14
                    dsimp only [pickL, pickR, nthH, delH, dropH, List.cons_append, List.nil_append] at h
                    exact hR false _ h hp
                  refine ⟨_, cellL h 11 2 rfl rfl rfl, ?_⟩
                  refine cond_both' hp (fun hp => ?_) (fun hp => ?_)
                  · replace h := h.sel [] 14
                    dsimp only [pickL, pickR, nthH, delH, dropH, List.cons_append, List.nil_append] at h
                    exact hR false _ h hp
                  refine ⟨_, cellL h 11 5 rfl rfl rfl, ?_⟩
                  refine cond_both hp (fun hp => ?_) (fun hp => ?_)
                  · replace h := h.sel [] 14
                    dsimp only [pickL, pickR, nthH, delH, dropH, List.cons_append, List.nil_append] at h
                    exact hR (r_140 == 8) _ h hp
                  replace h := h.sel [] 14
                  dsimp only [pickL, pickR, nthH, delH, dropH, List.cons_append, List.nil_append] at h
                  exact hR false _ h hp
                clear hq
                refine ⟨_, cellL h 10 3 rfl rfl rfl, ?_⟩
                refine cond_both hp (fun hp => ?_) (fun hp => ?_)
                · replace h := h.sel [0, 0, 0, 1, 1, 1, 1, 1, 1, 1, 1, 2, 0, 0] 0
                  dsimp only [pickL, pickR, nthH, delH, dropH, List.cons_append, List.nil_append] at h
                  exact ⟨rfl, rfl, rfl, rfl, rfl, rfl, hp, h⟩
                refine ⟨_, cellL h 10 3 rfl rfl rfl, ?_⟩
                refine ⟨_, cellL h 9 3 rfl rfl rfl, ?_⟩
                refine cond_both hp (fun hp => ?_) (fun hp => ?_)
                · replace h := h.sel [0, 0, 0, 1, 1, 1, 1, 1, 1, 1, 1, 2, 0, 0] 0
                  dsimp only [pickL, pickR, nthH, delH, dropH, List.cons_append, List.nil_append] at h
                  exact ⟨rfl, rfl, rfl, rfl, rfl, rfl, hp, h⟩
                refine cond_both hp (fun hp => ?_) (fun hp => ?_)
                · replace h := h.sel [0, 0, 0, 1, 1, 1, 1, 1, 1, 1, 1, 2, 0, 0] 0
                  dsimp only [pickL, pickR, nthH, delH, dropH, List.cons_append, List.nil_append] at h
                  exact ⟨rfl, rfl, rfl, rfl, rfl, rfl, hp, h⟩
                refine ⟨_, cellL h 5 0 rfl rfl rfl, _, cellL h 5 1 rfl rfl rfl, ?_⟩
                refine ⟨_, cellL h 6 0 rfl rfl rfl, _, cellL h 6 1 rfl rfl rfl, ?_⟩
                refine neqAgg (xs := [Value.int .u32 r_52, Value.int .i64 r_53]) (ys := [Value.int .u32 from_Host, Value.int .i64 Inside]) eqG25 eqA25 (eqT25 r_52 r_53 from_Host Inside) ?_
                refine ⟨_, rfl, ?_⟩
                refine cond_both hp (fun hp => ?_) (fun hp => ?_)
                · replace h := h.sel [0, 0, 0, 1, 1, 1, 1, 1, 1, 1, 1, 2, 0, 0] 0
                  dsimp only [pickL, pickR, nthH, delH, dropH, List.cons_append, List.nil_append] at h
                  exact ⟨rfl, rfl, rfl, rfl, rfl, rfl, hp, h⟩
                refine cond_both hp (fun hp => ?_) (fun hp => ?_)
                · replace h := h.sel [0, 0, 0, 1, 1, 1, 1, 1, 1, 1, 1, 2, 0, 0] 0
                  dsimp only [pickL, pickR, nthH, delH, dropH, List.cons_append, List.nil_append] at h
                  exact ⟨rfl, rfl, rfl, rfl, rfl, rfl, hp, h⟩
                refine ⟨_, cellL h 11 2 rfl rfl rfl, ?_⟩
                refine ⟨_, cellL h 10 2 rfl rfl rfl, ?_⟩
                refine cond_both hp (fun hp => ?_) (fun hp => ?_)
                · replace h := h.sel [0, 0, 0, 1, 1, 1, 1, 1, 1, 1, 1, 2, 0, 0] 0
                  dsimp only [pickL, pickR, nthH, delH, dropH, List.cons_append, List.nil_append] at h
                  exact ⟨rfl, rfl, rfl, rfl, rfl, rfl, hp, h⟩
                refine ⟨_, cellL h 11 3 rfl rfl rfl, ?_⟩
                replace h := h.sel [0, 0, 0, 1, 1, 1, 1, 1, 1, 1, 1, 2, 0, 0] 0
                dsimp only [pickL, pickR, nthH, delH, dropH, List.cons_append, List.nil_append] at h
                exact ⟨rfl, rfl, rfl, rfl, rfl, rfl, hp, h⟩
              clear hq
              replace h := h.drew
              refine ⟨fun w => Mem (cel b_2 25 [Value.int .u32 from_Host, Value.int .i64 from_Port] :: cel b_1 41 [Value.int .i64 ask_Ver, Value.int .i64 ask_Inside, Value.int .i64 ask_Port, Value.int .i64 ask_Secs, Value.int .u64 ask_Nonce, Value.int .i64 ask_Result, Value.int .i64 ask_Epoch, Value.int .u32 ask_Host] :: FL) w, (h.sel [7, 7] 10), ?_⟩
              refine ⟨_, cellL h 7 0 rfl rfl rfl, _, cellL h 7 1 rfl rfl rfl, ?_⟩
              refine ⟨?_, ?_⟩
              · intro w h
                change Mem _ _ at h
                refine ⟨_, cellL h 0 0 rfl rfl rfl, _, cellL h 0 1 rfl rfl rfl, ?_⟩
                exact ⟨rfl, rfl⟩
              refine ⟨_, cellL h 8 1 rfl rfl rfl, ?_⟩
              refine ⟨?_, ?_⟩
              · intro w h
                change Mem _ _ at h
                refine ⟨_, cellL h 1 1 rfl rfl rfl, ?_⟩
                exact ⟨rfl, rfl⟩
              refine ⟨?_, ?_⟩
              · replace hp := hp.1
                refine pmp_Ask_ok h hp ?_
                rintro rs_15 p_45 n_39 c_32 w rfl h hp
                have cpp_45 := rowCap h 0 rfl
                refine ⟨_, _, _, rfl, ?_⟩
                refine ⟨(h.sel [8, 8] 11), ?_⟩
                refine ⟨?_, ?_⟩
                · replace hp := hp.1
                  replace h := h.pick [7, 2, 2, 8, 2]
                  dsimp only [pickL, pickR, nthH, delH, dropH, List.cons_append, List.nil_append] at h
                  refine gG_Hear_ok (FL := row enc5 5 1 p_45 c_32 rs_15 :: cel b_20 25 [Value.int .u32 r_95, Value.int .i64 r_96] :: cel b_14 25 [Value.int .u32 r_52, Value.int .i64 r_53] :: cel b_13 25 [Value.int .u32 from_Host, Value.int .i64 Inside] :: cel b_2 25 [Value.int .u32 from_Host, Value.int .i64 from_Port] :: cel b_1 41 [Value.int .i64 ask_Ver, Value.int .i64 ask_Inside, Value.int .i64 ask_Port, Value.int .i64 ask_Secs, Value.int .u64 ask_Nonce, Value.int .i64 ask_Result, Value.int .i64 ask_Epoch, Value.int .u32 ask_Host] :: cel b_8 41 [Value.int .i64 Ver, Value.int .i64 Inside, Value.int .i64 Port, Value.int .i64 Secs, Value.int .u64 Nonce, Value.int .i64 Result_, Value.int .i64 Epoch, Value.int .u32 Host] :: cel b_15 41 [Value.int .i64 Ver_1, Value.int .i64 Inside_1, Value.int .i64 Port_1, Value.int .i64 Secs_1, Value.int .u64 Nonce_1, Value.int .i64 Result__1, Value.int .i64 Epoch_1, Value.int .u32 Host_1] :: FL) (fun w h => (rowRd h 0 encL5 rfl)) rfl cpp_45 h hp ?_
                  rintro rs_16 now_28 list_15 now_29 m_27 m_28 p_46 n_40 c_33 p_47 n_41 c_34 p_48 hd_14 w rfl rfl h hp
                  have cpp_46 := rowCap h 0 rfl
                  have cpp_47 := rowCap h 3 rfl
                  refine ⟨_, _, _, rfl, ?_⟩
                  refine ⟨?_, ?_⟩
                  · replace hp := hp.1
                    refine pmp_ReadAnswer_ok (FL := row enc5 5 1 p_46 c_33 rs_16 :: cel b_6 75 [Value.pointer (some (Addr.mk b_3 0 none)), Value.bool g_1, Value.bool g_2, Value.int .i64 g_3, Value.int .i64 boot, Value.int .i64 now_28, Value.map (some b_7)] :: cel b_3 71 [Value.int .u32 box, Value.int .i64 box_1, Value.int .i64 box_2, Value.int .i64 box_3, Value.int .i64 box_4, Value.int .i64 box_5, Value.int .i64 box_6, Value.slice p_47 list_15.length c_34, Value.int .i64 now_29] :: row enc82 82 1 p_47 c_34 list_15 :: mapQ b_7 va25 va111 p_48 m_27 :: stoP stoE85 hd_14 m_28 :: row enc5 5 1 p_45 c_32 rs_15 :: cel b_20 25 [Value.int .u32 r_95, Value.int .i64 r_96] :: cel b_14 25 [Value.int .u32 r_52, Value.int .i64 r_53] :: cel b_13 25 [Value.int .u32 from_Host, Value.int .i64 Inside] :: cel b_2 25 [Value.int .u32 from_Host, Value.int .i64 from_Port] :: cel b_1 41 [Value.int .i64 ask_Ver, Value.int .i64 ask_Inside, Value.int .i64 ask_Port, Value.int .i64 ask_Secs, Value.int .u64 ask_Nonce, Value.int .i64 ask_Result, Value.int .i64 ask_Epoch, Value.int .u32 ask_Host] :: cel b_8 41 [Value.int .i64 Ver, Value.int .i64 Inside, Value.int .i64 Port, Value.int .i64 Secs, Value.int .u64 Nonce, Value.int .i64 Result_, Value.int .i64 Epoch, Value.int .u32 Host] :: cel b_15 41 [Value.int .i64 Ver_1, Value.int .i64 Inside_1, Value.int .i64 Port_1, Value.int .i64 Secs_1, Value.int .u64 Nonce_1, Value.int .i64 Result__1, Value.int .i64 Epoch_1, Value.int .u32 Host_1] :: FL) (fun w h => (rowRd h 0 encL5 rfl)) rfl cpp_46 h hp ?_
                    intro r_98 r_99 r_100 r_101 r_102 r_103 r_104 r_105 r_106 r_107 w h hp
                    refine ⟨_, _, _, _, _, _, _, _, _, _, rfl, ?_⟩
                    refine ⟨_, _, _, _, _, _, _, _, rfl, ?_⟩
                    refine ⟨_, rfl, ?_⟩
                    refine newL (o := [Value.int .i64 0, Value.int .i64 0, Value.int .i64 0, Value.int .i64 0, Value.int .u64 0, Value.int .i64 0, Value.int .i64 0, Value.int .u32 0]) h ?_
                    intro b_22 w h
                    refine ⟨(h.sel [11, 11] 13), ?_⟩
                    refine storeL (ys := [Value.int .i64 r_98, Value.int .i64 r_99, Value.int .i64 r_100, Value.int .i64 r_101, Value.int .u64 r_102, Value.int .i64 r_103, Value.int .i64 r_104, Value.int .u32 r_105]) h 0 0 rfl rfl rfl sz41 rfl rfl ?_
                    intro w h
                    dsimp only [setH, setVs, setV] at h
                    replace h := h.sel [8, 3, 3, 6, 6, 2, 5, 5, 5, 5, 3, 2, 0] 2
                    dsimp only [pickL, pickR, nthH, delH, dropH, List.cons_append, List.nil_append] at h
                    exact ⟨list_15, p_47, list_15.length, c_34, now_29, now_28, b_22, r_98, r_99, r_100, r_101, r_102, r_103, r_104, r_105, m_28, hd_14, m_27, p_48, rfl, rfl, rfl, rfl, rfl, rfl, rfl, rfl, rfl, rfl, rfl, rfl, rfl, hp, h⟩
                  replace hp := hp.2
                  refine newL (o := [Value.int .i64 0, Value.int .i64 0, Value.int .i64 0, Value.int .i64 0, Value.int .u64 0, Value.int .i64 0, Value.int .i64 0, Value.int .u32 0]) h ?_
                  intro b_23 w h
                  refine ⟨(h.sel [11, 11] 13), ?_⟩
                  refine pmp_ReadAnswer_ok (FL := cel b_23 41 [Value.int .i64 0, Value.int .i64 0, Value.int .i64 0, Value.int .i64 0, Value.int .u64 0, Value.int .i64 0, Value.int .i64 0, Value.int .u32 0] :: row enc5 5 1 p_46 c_33 rs_16 :: cel b_6 75 [Value.pointer (some (Addr.mk b_3 0 none)), Value.bool g_1, Value.bool g_2, Value.int .i64 g_3, Value.int .i64 boot, Value.int .i64 now_28, Value.map (some b_7)] :: cel b_3 71 [Value.int .u32 box, Value.int .i64 box_1, Value.int .i64 box_2, Value.int .i64 box_3, Value.int .i64 box_4, Value.int .i64 box_5, Value.int .i64 box_6, Value.slice p_47 list_15.length c_34, Value.int .i64 now_29] :: row enc82 82 1 p_47 c_34 list_15 :: mapQ b_7 va25 va111 p_48 m_27 :: stoP stoE85 hd_14 m_28 :: row enc5 5 1 p_45 c_32 rs_15 :: cel b_20 25 [Value.int .u32 r_95, Value.int .i64 r_96] :: cel b_14 25 [Value.int .u32 r_52, Value.int .i64 r_53] :: cel b_13 25 [Value.int .u32 from_Host, Value.int .i64 Inside] :: cel b_2 25 [Value.int .u32 from_Host, Value.int .i64 from_Port] :: cel b_1 41 [Value.int .i64 ask_Ver, Value.int .i64 ask_Inside, Value.int .i64 ask_Port, Value.int .i64 ask_Secs, Value.int .u64 ask_Nonce, Value.int .i64 ask_Result, Value.int .i64 ask_Epoch, Value.int .u32 ask_Host] :: cel b_8 41 [Value.int .i64 Ver, Value.int .i64 Inside, Value.int .i64 Port, Value.int .i64 Secs, Value.int .u64 Nonce, Value.int .i64 Result_, Value.int .i64 Epoch, Value.int .u32 Host] :: cel b_15 41 [Value.int .i64 Ver_1, Value.int .i64 Inside_1, Value.int .i64 Port_1, Value.int .i64 Secs_1, Value.int .u64 Nonce_1, Value.int .i64 Result__1, Value.int .i64 Epoch_1, Value.int .u32 Host_1] :: FL) (fun w h => (rowRd h 1 encL5 rfl)) rfl cpp_46 h hp ?_
                  intro r_108 r_109 r_110 r_111 r_112 r_113 r_114 r_115 r_116 r_117 w h hp
                  refine ⟨_, _, _, _, _, _, _, _, _, _, rfl, ?_⟩
                  refine ⟨_, _, _, _, _, _, _, _, rfl, ?_⟩
                  refine ⟨_, rfl, ?_⟩
                  refine storeL (ys := [Value.int .i64 r_108, Value.int .i64 r_109, Value.int .i64 r_110, Value.int .i64 r_111, Value.int .u64 r_112, Value.int .i64 r_113, Value.int .i64 r_114, Value.int .u32 r_115]) h 0 0 rfl rfl rfl sz41 rfl rfl ?_
                  intro w h
                  dsimp only [setH, setVs, setV] at h
                  replace h := h.sel [8, 3, 3, 6, 6, 2, 5, 5, 5, 5, 3, 2, 0] 2
                  dsimp only [pickL, pickR, nthH, delH, dropH, List.cons_append, List.nil_append] at h
                  exact ⟨list_15, p_47, list_15.length, c_34, now_29, now_28, b_23, r_108, r_109, r_110, r_111, r_112, r_113, r_114, r_115, m_28, hd_14, m_27, p_48, rfl, rfl, rfl, rfl, rfl, rfl, rfl, rfl, rfl, rfl, rfl, rfl, rfl, hp, h⟩
                replace hp := hp.2
                refine newL (o := [Value.int .i64 0, Value.int .i64 0, Value.int .i64 0, Value.int .i64 0, Value.int .u64 0, Value.int .i64 0, Value.int .i64 0, Value.int .u32 0]) h ?_
                intro b_24 w h
                refine ⟨(h.sel [9, 9] 12), ?_⟩
                replace h := h.pick [8, 3, 3, 9, 3]
                dsimp only [pickL, pickR, nthH, delH, dropH, List.cons_append, List.nil_append] at h
                refine gG_Hear_ok (FL := cel b_24 41 [Value.int .i64 0, Value.int .i64 0, Value.int .i64 0, Value.int .i64 0, Value.int .u64 0, Value.int .i64 0, Value.int .i64 0, Value.int .u32 0] :: row enc5 5 1 p_45 c_32 rs_15 :: cel b_20 25 [Value.int .u32 r_95, Value.int .i64 r_96] :: cel b_14 25 [Value.int .u32 r_52, Value.int .i64 r_53] :: cel b_13 25 [Value.int .u32 from_Host, Value.int .i64 Inside] :: cel b_2 25 [Value.int .u32 from_Host, Value.int .i64 from_Port] :: cel b_1 41 [Value.int .i64 ask_Ver, Value.int .i64 ask_Inside, Value.int .i64 ask_Port, Value.int .i64 ask_Secs, Value.int .u64 ask_Nonce, Value.int .i64 ask_Result, Value.int .i64 ask_Epoch, Value.int .u32 ask_Host] :: cel b_8 41 [Value.int .i64 Ver, Value.int .i64 Inside, Value.int .i64 Port, Value.int .i64 Secs, Value.int .u64 Nonce, Value.int .i64 Result_, Value.int .i64 Epoch, Value.int .u32 Host] :: cel b_15 41 [Value.int .i64 Ver_1, Value.int .i64 Inside_1, Value.int .i64 Port_1, Value.int .i64 Secs_1, Value.int .u64 Nonce_1, Value.int .i64 Result__1, Value.int .i64 Epoch_1, Value.int .u32 Host_1] :: FL) (fun w h => (rowRd h 1 encL5 rfl)) rfl cpp_45 h hp ?_
                rintro rs_17 now_30 list_16 now_31 m_29 m_30 p_49 n_42 c_35 p_50 n_43 c_36 p_51 hd_15 w rfl rfl h hp
                have cpp_49 := rowCap h 0 rfl
                have cpp_50 := rowCap h 3 rfl
                refine ⟨_, _, _, rfl, ?_⟩
                refine pmp_ReadAnswer_ok (FL := row enc5 5 1 p_49 c_35 rs_17 :: cel b_6 75 [Value.pointer (some (Addr.mk b_3 0 none)), Value.bool g_1, Value.bool g_2, Value.int .i64 g_3, Value.int .i64 boot, Value.int .i64 now_30, Value.map (some b_7)] :: cel b_3 71 [Value.int .u32 box, Value.int .i64 box_1, Value.int .i64 box_2, Value.int .i64 box_3, Value.int .i64 box_4, Value.int .i64 box_5, Value.int .i64 box_6, Value.slice p_50 list_16.length c_36, Value.int .i64 now_31] :: row enc82 82 1 p_50 c_36 list_16 :: mapQ b_7 va25 va111 p_51 m_29 :: stoP stoE85 hd_15 m_30 :: cel b_24 41 [Value.int .i64 0, Value.int .i64 0, Value.int .i64 0, Value.int .i64 0, Value.int .u64 0, Value.int .i64 0, Value.int .i64 0, Value.int .u32 0] :: row enc5 5 1 p_45 c_32 rs_15 :: cel b_20 25 [Value.int .u32 r_95, Value.int .i64 r_96] :: cel b_14 25 [Value.int .u32 r_52, Value.int .i64 r_53] :: cel b_13 25 [Value.int .u32 from_Host, Value.int .i64 Inside] :: cel b_2 25 [Value.int .u32 from_Host, Value.int .i64 from_Port] :: cel b_1 41 [Value.int .i64 ask_Ver, Value.int .i64 ask_Inside, Value.int .i64 ask_Port, Value.int .i64 ask_Secs, Value.int .u64 ask_Nonce, Value.int .i64 ask_Result, Value.int .i64 ask_Epoch, Value.int .u32 ask_Host] :: cel b_8 41 [Value.int .i64 Ver, Value.int .i64 Inside, Value.int .i64 Port, Value.int .i64 Secs, Value.int .u64 Nonce, Value.int .i64 Result_, Value.int .i64 Epoch, Value.int .u32 Host] :: cel b_15 41 [Value.int .i64 Ver_1, Value.int .i64 Inside_1, Value.int .i64 Port_1, Value.int .i64 Secs_1, Value.int .u64 Nonce_1, Value.int .i64 Result__1, Value.int .i64 Epoch_1, Value.int .u32 Host_1] :: FL) (fun w h => (rowRd h 0 encL5 rfl)) rfl cpp_49 h hp ?_
                intro r_118 r_119 r_120 r_121 r_122 r_123 r_124 r_125 r_126 r_127 w h hp
                refine ⟨_, _, _, _, _, _, _, _, _, _, rfl, ?_⟩
                refine ⟨_, _, _, _, _, _, _, _, rfl, ?_⟩
                refine ⟨_, rfl, ?_⟩
                refine storeL (ys := [Value.int .i64 r_118, Value.int .i64 r_119, Value.int .i64 r_120, Value.int .i64 r_121, Value.int .u64 r_122, Value.int .i64 r_123, Value.int .i64 r_124, Value.int .u32 r_125]) h 6 0 rfl rfl rfl sz41 rfl rfl ?_
                intro w h
                dsimp only [setH, setVs, setV] at h
                replace h := h.sel [8, 2, 2, 6, 6, 1, 5, 5, 5, 5, 2, 1, 1] 2
                dsimp only [pickL, pickR, nthH, delH, dropH, List.cons_append, List.nil_append] at h
                exact ⟨list_16, p_50, list_16.length, c_36, now_31, now_30, b_24, r_118, r_119, r_120, r_121, r_122, r_123, r_124, r_125, m_30, hd_15, m_29, p_51, rfl, rfl, rfl, rfl, rfl, rfl, rfl, rfl, rfl, rfl, rfl, rfl, rfl, hp, h⟩
              replace hp := hp.2
              refine newL (o := [Value.int .i64 0, Value.int .i64 0, Value.int .i64 0, Value.int .i64 0, Value.int .u64 0, Value.int .i64 0, Value.int .i64 0, Value.int .u32 0]) h ?_
              intro b_25 w h
              refine ⟨(h.sel [8, 8] 11), ?_⟩
              refine pmp_Ask_ok h hp ?_
              rintro rs_18 p_52 n_44 c_37 w rfl h hp
              have cpp_52 := rowCap h 0 rfl
              refine ⟨_, _, _, rfl, ?_⟩
              refine ⟨(h.sel [9, 9] 12), ?_⟩
              replace h := h.pick [8, 3, 3, 9, 3]
              dsimp only [pickL, pickR, nthH, delH, dropH, List.cons_append, List.nil_append] at h
              refine gG_Hear_ok (FL := row enc5 5 1 p_52 c_37 rs_18 :: cel b_25 41 [Value.int .i64 0, Value.int .i64 0, Value.int .i64 0, Value.int .i64 0, Value.int .u64 0, Value.int .i64 0, Value.int .i64 0, Value.int .u32 0] :: cel b_20 25 [Value.int .u32 r_95, Value.int .i64 r_96] :: cel b_14 25 [Value.int .u32 r_52, Value.int .i64 r_53] :: cel b_13 25 [Value.int .u32 from_Host, Value.int .i64 Inside] :: cel b_2 25 [Value.int .u32 from_Host, Value.int .i64 from_Port] :: cel b_1 41 [Value.int .i64 ask_Ver, Value.int .i64 ask_Inside, Value.int .i64 ask_Port, Value.int .i64 ask_Secs, Value.int .u64 ask_Nonce, Value.int .i64 ask_Result, Value.int .i64 ask_Epoch, Value.int .u32 ask_Host] :: cel b_8 41 [Value.int .i64 Ver, Value.int .i64 Inside, Value.int .i64 Port, Value.int .i64 Secs, Value.int .u64 Nonce, Value.int .i64 Result_, Value.int .i64 Epoch, Value.int .u32 Host] :: cel b_15 41 [Value.int .i64 Ver_1, Value.int .i64 Inside_1, Value.int .i64 Port_1, Value.int .i64 Secs_1, Value.int .u64 Nonce_1, Value.int .i64 Result__1, Value.int .i64 Epoch_1, Value.int .u32 Host_1] :: FL) (fun w h => (rowRd h 0 encL5 rfl)) rfl cpp_52 h hp ?_
              rintro rs_19 now_32 list_17 now_33 m_31 m_32 p_53 n_45 c_38 p_54 n_46 c_39 p_55 hd_16 w rfl rfl h hp
              have cpp_53 := rowCap h 0 rfl
              have cpp_54 := rowCap h 3 rfl
              refine ⟨_, _, _, rfl, ?_⟩
              refine pmp_ReadAnswer_ok (FL := row enc5 5 1 p_53 c_38 rs_19 :: cel b_6 75 [Value.pointer (some (Addr.mk b_3 0 none)), Value.bool g_1, Value.bool g_2, Value.int .i64 g_3, Value.int .i64 boot, Value.int .i64 now_32, Value.map (some b_7)] :: cel b_3 71 [Value.int .u32 box, Value.int .i64 box_1, Value.int .i64 box_2, Value.int .i64 box_3, Value.int .i64 box_4, Value.int .i64 box_5, Value.int .i64 box_6, Value.slice p_54 list_17.length c_39, Value.int .i64 now_33] :: row enc82 82 1 p_54 c_39 list_17 :: mapQ b_7 va25 va111 p_55 m_31 :: stoP stoE85 hd_16 m_32 :: row enc5 5 1 p_52 c_37 rs_18 :: cel b_25 41 [Value.int .i64 0, Value.int .i64 0, Value.int .i64 0, Value.int .i64 0, Value.int .u64 0, Value.int .i64 0, Value.int .i64 0, Value.int .u32 0] :: cel b_20 25 [Value.int .u32 r_95, Value.int .i64 r_96] :: cel b_14 25 [Value.int .u32 r_52, Value.int .i64 r_53] :: cel b_13 25 [Value.int .u32 from_Host, Value.int .i64 Inside] :: cel b_2 25 [Value.int .u32 from_Host, Value.int .i64 from_Port] :: cel b_1 41 [Value.int .i64 ask_Ver, Value.int .i64 ask_Inside, Value.int .i64 ask_Port, Value.int .i64 ask_Secs, Value.int .u64 ask_Nonce, Value.int .i64 ask_Result, Value.int .i64 ask_Epoch, Value.int .u32 ask_Host] :: cel b_8 41 [Value.int .i64 Ver, Value.int .i64 Inside, Value.int .i64 Port, Value.int .i64 Secs, Value.int .u64 Nonce, Value.int .i64 Result_, Value.int .i64 Epoch, Value.int .u32 Host] :: cel b_15 41 [Value.int .i64 Ver_1, Value.int .i64 Inside_1, Value.int .i64 Port_1, Value.int .i64 Secs_1, Value.int .u64 Nonce_1, Value.int .i64 Result__1, Value.int .i64 Epoch_1, Value.int .u32 Host_1] :: FL) (fun w h => (rowRd h 0 encL5 rfl)) rfl cpp_53 h hp ?_
              intro r_128 r_129 r_130 r_131 r_132 r_133 r_134 r_135 r_136 r_137 w h hp
              refine ⟨_, _, _, _, _, _, _, _, _, _, rfl, ?_⟩
              refine ⟨_, _, _, _, _, _, _, _, rfl, ?_⟩
              refine ⟨_, rfl, ?_⟩
              refine storeL (ys := [Value.int .i64 r_128, Value.int .i64 r_129, Value.int .i64 r_130, Value.int .i64 r_131, Value.int .u64 r_132, Value.int .i64 r_133, Value.int .i64 r_134, Value.int .u32 r_135]) h 7 0 rfl rfl rfl sz41 rfl rfl ?_
              intro w h
              dsimp only [setH, setVs, setV] at h
              replace h := h.sel [8, 2, 2, 6, 6, 1, 5, 5, 5, 5, 2, 1, 2] 2
              dsimp only [pickL, pickR, nthH, delH, dropH, List.cons_append, List.nil_append] at h
              exact ⟨list_17, p_54, list_17.length, c_39, now_33, now_32, b_25, r_128, r_129, r_130, r_131, r_132, r_133, r_134, r_135, m_32, hd_16, m_31, p_55, rfl, rfl, rfl, rfl, rfl, rfl, rfl, rfl, rfl, rfl, rfl, rfl, rfl, hp, h⟩
            clear hq
            replace h := h.drew
            refine ⟨fun w => Mem (cel b_2 25 [Value.int .u32 from_Host, Value.int .i64 from_Port] :: cel b_1 41 [Value.int .i64 ask_Ver, Value.int .i64 ask_Inside, Value.int .i64 ask_Port, Value.int .i64 ask_Secs, Value.int .u64 ask_Nonce, Value.int .i64 ask_Result, Value.int .i64 ask_Epoch, Value.int .u32 ask_Host] :: FL) w, (h.sel [6, 6] 8), ?_⟩
            refine ⟨_, cellL h 6 0 rfl rfl rfl, _, cellL h 6 1 rfl rfl rfl, ?_⟩
            refine ⟨?_, ?_⟩
            · intro w h
              change Mem _ _ at h
              refine ⟨_, cellL h 0 0 rfl rfl rfl, _, cellL h 0 1 rfl rfl rfl, ?_⟩
              exact ⟨rfl, rfl⟩
            refine ⟨_, cellL h 7 1 rfl rfl rfl, ?_⟩
            refine ⟨?_, ?_⟩
            · intro w h
              change Mem _ _ at h
              refine ⟨_, cellL h 1 1 rfl rfl rfl, ?_⟩
              exact ⟨rfl, rfl⟩
            refine ⟨?_, ?_⟩
            · replace hp := hp.1
              refine pmp_Ask_ok h hp ?_
              rintro rs_10 p_31 n_29 c_22 w rfl h hp
              have cpp_31 := rowCap h 0 rfl
              refine ⟨_, _, _, rfl, ?_⟩
              refine ⟨(h.sel [7, 7] 9), ?_⟩
              refine ⟨?_, ?_⟩
              · replace hp := hp.1
                replace h := h.pick [6, 2, 2, 7, 2]
                dsimp only [pickL, pickR, nthH, delH, dropH, List.cons_append, List.nil_append] at h
                refine gG_Hear_ok (FL := row enc5 5 1 p_31 c_22 rs_10 :: cel b_14 25 [Value.int .u32 r_52, Value.int .i64 r_53] :: cel b_13 25 [Value.int .u32 from_Host, Value.int .i64 Inside] :: cel b_2 25 [Value.int .u32 from_Host, Value.int .i64 from_Port] :: cel b_1 41 [Value.int .i64 ask_Ver, Value.int .i64 ask_Inside, Value.int .i64 ask_Port, Value.int .i64 ask_Secs, Value.int .u64 ask_Nonce, Value.int .i64 ask_Result, Value.int .i64 ask_Epoch, Value.int .u32 ask_Host] :: cel b_8 41 [Value.int .i64 Ver, Value.int .i64 Inside, Value.int .i64 Port, Value.int .i64 Secs, Value.int .u64 Nonce, Value.int .i64 Result_, Value.int .i64 Epoch, Value.int .u32 Host] :: FL) (fun w h => (rowRd h 0 encL5 rfl)) rfl cpp_31 h hp ?_
                rintro rs_11 now_19 list_10 now_20 m_18 m_19 p_32 n_30 c_23 p_33 n_31 c_24 p_34 hd_9 w rfl rfl h hp
                have cpp_32 := rowCap h 0 rfl
                have cpp_33 := rowCap h 3 rfl
                refine ⟨_, _, _, rfl, ?_⟩
                refine ⟨?_, ?_⟩
                · replace hp := hp.1
                  refine pmp_ReadAnswer_ok (FL := row enc5 5 1 p_32 c_23 rs_11 :: cel b_6 75 [Value.pointer (some (Addr.mk b_3 0 none)), Value.bool g_1, Value.bool g_2, Value.int .i64 g_3, Value.int .i64 boot, Value.int .i64 now_19, Value.map (some b_7)] :: cel b_3 71 [Value.int .u32 box, Value.int .i64 box_1, Value.int .i64 box_2, Value.int .i64 box_3, Value.int .i64 box_4, Value.int .i64 box_5, Value.int .i64 box_6, Value.slice p_33 list_10.length c_24, Value.int .i64 now_20] :: row enc82 82 1 p_33 c_24 list_10 :: mapQ b_7 va25 va111 p_34 m_18 :: stoP stoE85 hd_9 m_19 :: row enc5 5 1 p_31 c_22 rs_10 :: cel b_14 25 [Value.int .u32 r_52, Value.int .i64 r_53] :: cel b_13 25 [Value.int .u32 from_Host, Value.int .i64 Inside] :: cel b_2 25 [Value.int .u32 from_Host, Value.int .i64 from_Port] :: cel b_1 41 [Value.int .i64 ask_Ver, Value.int .i64 ask_Inside, Value.int .i64 ask_Port, Value.int .i64 ask_Secs, Value.int .u64 ask_Nonce, Value.int .i64 ask_Result, Value.int .i64 ask_Epoch, Value.int .u32 ask_Host] :: cel b_8 41 [Value.int .i64 Ver, Value.int .i64 Inside, Value.int .i64 Port, Value.int .i64 Secs, Value.int .u64 Nonce, Value.int .i64 Result_, Value.int .i64 Epoch, Value.int .u32 Host] :: FL) (fun w h => (rowRd h 0 encL5 rfl)) rfl cpp_32 h hp ?_
                  intro r_55 r_56 r_57 r_58 r_59 r_60 r_61 r_62 r_63 r_64 w h hp
                  refine ⟨_, _, _, _, _, _, _, _, _, _, rfl, ?_⟩
                  refine ⟨_, _, _, _, _, _, _, _, rfl, ?_⟩
                  refine ⟨_, rfl, ?_⟩
                  refine newL (o := [Value.int .i64 0, Value.int .i64 0, Value.int .i64 0, Value.int .i64 0, Value.int .u64 0, Value.int .i64 0, Value.int .i64 0, Value.int .u32 0]) h ?_
                  intro b_16 w h
                  refine ⟨(h.sel [10, 10] 11), ?_⟩
                  refine storeL (ys := [Value.int .i64 r_55, Value.int .i64 r_56, Value.int .i64 r_57, Value.int .i64 r_58, Value.int .u64 r_59, Value.int .i64 r_60, Value.int .i64 r_61, Value.int .u32 r_62]) h 0 0 rfl rfl rfl sz41 rfl rfl ?_
                  intro w h
                  dsimp only [setH, setVs, setV] at h
                  replace h := h.sel [8, 3, 3, 6, 2, 5, 5, 5, 3, 2, 0] 2
                  dsimp only [pickL, pickR, nthH, delH, dropH, List.cons_append, List.nil_append] at h
                  exact ⟨list_10, p_33, list_10.length, c_24, now_20, now_19, b_16, r_55, r_56, r_57, r_58, r_59, r_60, r_61, r_62, m_19, hd_9, m_18, p_34, rfl, rfl, rfl, rfl, rfl, rfl, rfl, rfl, rfl, rfl, rfl, hp, h⟩
                replace hp := hp.2
                refine newL (o := [Value.int .i64 0, Value.int .i64 0, Value.int .i64 0, Value.int .i64 0, Value.int .u64 0, Value.int .i64 0, Value.int .i64 0, Value.int .u32 0]) h ?_
                intro b_17 w h
                refine ⟨(h.sel [10, 10] 11), ?_⟩
                refine pmp_ReadAnswer_ok (FL := cel b_17 41 [Value.int .i64 0, Value.int .i64 0, Value.int .i64 0, Value.int .i64 0, Value.int .u64 0, Value.int .i64 0, Value.int .i64 0, Value.int .u32 0] :: row enc5 5 1 p_32 c_23 rs_11 :: cel b_6 75 [Value.pointer (some (Addr.mk b_3 0 none)), Value.bool g_1, Value.bool g_2, Value.int .i64 g_3, Value.int .i64 boot, Value.int .i64 now_19, Value.map (some b_7)] :: cel b_3 71 [Value.int .u32 box, Value.int .i64 box_1, Value.int .i64 box_2, Value.int .i64 box_3, Value.int .i64 box_4, Value.int .i64 box_5, Value.int .i64 box_6, Value.slice p_33 list_10.length c_24, Value.int .i64 now_20] :: row enc82 82 1 p_33 c_24 list_10 :: mapQ b_7 va25 va111 p_34 m_18 :: stoP stoE85 hd_9 m_19 :: row enc5 5 1 p_31 c_22 rs_10 :: cel b_14 25 [Value.int .u32 r_52, Value.int .i64 r_53] :: cel b_13 25 [Value.int .u32 from_Host, Value.int .i64 Inside] :: cel b_2 25 [Value.int .u32 from_Host, Value.int .i64 from_Port] :: cel b_1 41 [Value.int .i64 ask_Ver, Value.int .i64 ask_Inside, Value.int .i64 ask_Port, Value.int .i64 ask_Secs, Value.int .u64 ask_Nonce, Value.int .i64 ask_Result, Value.int .i64 ask_Epoch, Value.int .u32 ask_Host] :: cel b_8 41 [Value.int .i64 Ver, Value.int .i64 Inside, Value.int .i64 Port, Value.int .i64 Secs, Value.int .u64 Nonce, Value.int .i64 Result_, Value.int .i64 Epoch, Value.int .u32 Host] :: FL) (fun w h => (rowRd h 1 encL5 rfl)) rfl cpp_32 h hp ?_
                intro r_65 r_66 r_67 r_68 r_69 r_70 r_71 r_72 r_73 r_74 w h hp
                refine ⟨_, _, _, _, _, _, _, _, _, _, rfl, ?_⟩
                refine ⟨_, _, _, _, _, _, _, _, rfl, ?_⟩
                refine ⟨_, rfl, ?_⟩
                refine storeL (ys := [Value.int .i64 r_65, Value.int .i64 r_66, Value.int .i64 r_67, Value.int .i64 r_68, Value.int .u64 r_69, Value.int .i64 r_70, Value.int .i64 r_71, Value.int .u32 r_72]) h 0 0 rfl rfl rfl sz41 rfl rfl ?_
                intro w h
                dsimp only [setH, setVs, setV] at h
                replace h := h.sel [8, 3, 3, 6, 2, 5, 5, 5, 3, 2, 0] 2
                dsimp only [pickL, pickR, nthH, delH, dropH, List.cons_append, List.nil_append] at h
                exact ⟨list_10, p_33, list_10.length, c_24, now_20, now_19, b_17, r_65, r_66, r_67, r_68, r_69, r_70, r_71, r_72, m_19, hd_9, m_18, p_34, rfl, rfl, rfl, rfl, rfl, rfl, rfl, rfl, rfl, rfl, rfl, hp, h⟩
              replace hp := hp.2
              refine newL (o := [Value.int .i64 0, Value.int .i64 0, Value.int .i64 0, Value.int .i64 0, Value.int .u64 0, Value.int .i64 0, Value.int .i64 0, Value.int .u32 0]) h ?_
              intro b_18 w h
              refine ⟨(h.sel [8, 8] 10), ?_⟩
              replace h := h.pick [7, 3, 3, 8, 3]
              dsimp only [pickL, pickR, nthH, delH, dropH, List.cons_append, List.nil_append] at h
              refine gG_Hear_ok (FL := cel b_18 41 [Value.int .i64 0, Value.int .i64 0, Value.int .i64 0, Value.int .i64 0, Value.int .u64 0, Value.int .i64 0, Value.int .i64 0, Value.int .u32 0] :: row enc5 5 1 p_31 c_22 rs_10 :: cel b_14 25 [Value.int .u32 r_52, Value.int .i64 r_53] :: cel b_13 25 [Value.int .u32 from_Host, Value.int .i64 Inside] :: cel b_2 25 [Value.int .u32 from_Host, Value.int .i64 from_Port] :: cel b_1 41 [Value.int .i64 ask_Ver, Value.int .i64 ask_Inside, Value.int .i64 ask_Port, Value.int .i64 ask_Secs, Value.int .u64 ask_Nonce, Value.int .i64 ask_Result, Value.int .i64 ask_Epoch, Value.int .u32 ask_Host] :: cel b_8 41 [Value.int .i64 Ver, Value.int .i64 Inside, Value.int .i64 Port, Value.int .i64 Secs, Value.int .u64 Nonce, Value.int .i64 Result_, Value.int .i64 Epoch, Value.int .u32 Host] :: FL) (fun w h => (rowRd h 1 encL5 rfl)) rfl cpp_31 h hp ?_
              rintro rs_12 now_21 list_11 now_22 m_20 m_21 p_35 n_32 c_25 p_36 n_33 c_26 p_37 hd_10 w rfl rfl h hp
              have cpp_35 := rowCap h 0 rfl
              have cpp_36 := rowCap h 3 rfl
              refine ⟨_, _, _, rfl, ?_⟩
              refine pmp_ReadAnswer_ok (FL := row enc5 5 1 p_35 c_25 rs_12 :: cel b_6 75 [Value.pointer (some (Addr.mk b_3 0 none)), Value.bool g_1, Value.bool g_2, Value.int .i64 g_3, Value.int .i64 boot, Value.int .i64 now_21, Value.map (some b_7)] :: cel b_3 71 [Value.int .u32 box, Value.int .i64 box_1, Value.int .i64 box_2, Value.int .i64 box_3, Value.int .i64 box_4, Value.int .i64 box_5, Value.int .i64 box_6, Value.slice p_36 list_11.length c_26, Value.int .i64 now_22] :: row enc82 82 1 p_36 c_26 list_11 :: mapQ b_7 va25 va111 p_37 m_20 :: stoP stoE85 hd_10 m_21 :: cel b_18 41 [Value.int .i64 0, Value.int .i64 0, Value.int .i64 0, Value.int .i64 0, Value.int .u64 0, Value.int .i64 0, Value.int .i64 0, Value.int .u32 0] :: row enc5 5 1 p_31 c_22 rs_10 :: cel b_14 25 [Value.int .u32 r_52, Value.int .i64 r_53] :: cel b_13 25 [Value.int .u32 from_Host, Value.int .i64 Inside] :: cel b_2 25 [Value.int .u32 from_Host, Value.int .i64 from_Port] :: cel b_1 41 [Value.int .i64 ask_Ver, Value.int .i64 ask_Inside, Value.int .i64 ask_Port, Value.int .i64 ask_Secs, Value.int .u64 ask_Nonce, Value.int .i64 ask_Result, Value.int .i64 ask_Epoch, Value.int .u32 ask_Host] :: cel b_8 41 [Value.int .i64 Ver, Value.int .i64 Inside, Value.int .i64 Port, Value.int .i64 Secs, Value.int .u64 Nonce, Value.int .i64 Result_, Value.int .i64 Epoch, Value.int .u32 Host] :: FL) (fun w h => (rowRd h 0 encL5 rfl)) rfl cpp_35 h hp ?_
              intro r_75 r_76 r_77 r_78 r_79 r_80 r_81 r_82 r_83 r_84 w h hp
              refine ⟨_, _, _, _, _, _, _, _, _, _, rfl, ?_⟩
              refine ⟨_, _, _, _, _, _, _, _, rfl, ?_⟩
              refine ⟨_, rfl, ?_⟩
              refine storeL (ys := [Value.int .i64 r_75, Value.int .i64 r_76, Value.int .i64 r_77, Value.int .i64 r_78, Value.int .u64 r_79, Value.int .i64 r_80, Value.int .i64 r_81, Value.int .u32 r_82]) h 6 0 rfl rfl rfl sz41 rfl rfl ?_
              intro w h
              dsimp only [setH, setVs, setV] at h
              replace h := h.sel [8, 2, 2, 6, 1, 5, 5, 5, 2, 1, 1] 2
              dsimp only [pickL, pickR, nthH, delH, dropH, List.cons_append, List.nil_append] at h
              exact ⟨list_11, p_36, list_11.length, c_26, now_22, now_21, b_18, r_75, r_76, r_77, r_78, r_79, r_80, r_81, r_82, m_21, hd_10, m_20, p_37, rfl, rfl, rfl, rfl, rfl, rfl, rfl, rfl, rfl, rfl, rfl, hp, h⟩
            replace hp := hp.2
            refine newL (o := [Value.int .i64 0, Value.int .i64 0, Value.int .i64 0, Value.int .i64 0, Value.int .u64 0, Value.int .i64 0, Value.int .i64 0, Value.int .u32 0]) h ?_
            intro b_19 w h
            refine ⟨(h.sel [7, 7] 9), ?_⟩
            refine pmp_Ask_ok h hp ?_
            rintro rs_13 p_38 n_34 c_27 w rfl h hp
            have cpp_38 := rowCap h 0 rfl
            refine ⟨_, _, _, rfl, ?_⟩
            refine ⟨(h.sel [8, 8] 10), ?_⟩
            replace h := h.pick [7, 3, 3, 8, 3]
            dsimp only [pickL, pickR, nthH, delH, dropH, List.cons_append, List.nil_append] at h
            refine gG_Hear_ok (FL := row enc5 5 1 p_38 c_27 rs_13 :: cel b_19 41 [Value.int .i64 0, Value.int .i64 0, Value.int .i64 0, Value.int .i64 0, Value.int .u64 0, Value.int .i64 0, Value.int .i64 0, Value.int .u32 0] :: cel b_14 25 [Value.int .u32 r_52, Value.int .i64 r_53] :: cel b_13 25 [Value.int .u32 from_Host, Value.int .i64 Inside] :: cel b_2 25 [Value.int .u32 from_Host, Value.int .i64 from_Port] :: cel b_1 41 [Value.int .i64 ask_Ver, Value.int .i64 ask_Inside, Value.int .i64 ask_Port, Value.int .i64 ask_Secs, Value.int .u64 ask_Nonce, Value.int .i64 ask_Result, Value.int .i64 ask_Epoch, Value.int .u32 ask_Host] :: cel b_8 41 [Value.int .i64 Ver, Value.int .i64 Inside, Value.int .i64 Port, Value.int .i64 Secs, Value.int .u64 Nonce, Value.int .i64 Result_, Value.int .i64 Epoch, Value.int .u32 Host] :: FL) (fun w h => (rowRd h 0 encL5 rfl)) rfl cpp_38 h hp ?_
            rintro rs_14 now_23 list_12 now_24 m_22 m_23 p_39 n_35 c_28 p_40 n_36 c_29 p_41 hd_11 w rfl rfl h hp
            have cpp_39 := rowCap h 0 rfl
            have cpp_40 := rowCap h 3 rfl
            refine ⟨_, _, _, rfl, ?_⟩
            refine pmp_ReadAnswer_ok (FL := row enc5 5 1 p_39 c_28 rs_14 :: cel b_6 75 [Value.pointer (some (Addr.mk b_3 0 none)), Value.bool g_1, Value.bool g_2, Value.int .i64 g_3, Value.int .i64 boot, Value.int .i64 now_23, Value.map (some b_7)] :: cel b_3 71 [Value.int .u32 box, Value.int .i64 box_1, Value.int .i64 box_2, Value.int .i64 box_3, Value.int .i64 box_4, Value.int .i64 box_5, Value.int .i64 box_6, Value.slice p_40 list_12.length c_29, Value.int .i64 now_24] :: row enc82 82 1 p_40 c_29 list_12 :: mapQ b_7 va25 va111 p_41 m_22 :: stoP stoE85 hd_11 m_23 :: row enc5 5 1 p_38 c_27 rs_13 :: cel b_19 41 [Value.int .i64 0, Value.int .i64 0, Value.int .i64 0, Value.int .i64 0, Value.int .u64 0, Value.int .i64 0, Value.int .i64 0, Value.int .u32 0] :: cel b_14 25 [Value.int .u32 r_52, Value.int .i64 r_53] :: cel b_13 25 [Value.int .u32 from_Host, Value.int .i64 Inside] :: cel b_2 25 [Value.int .u32 from_Host, Value.int .i64 from_Port] :: cel b_1 41 [Value.int .i64 ask_Ver, Value.int .i64 ask_Inside, Value.int .i64 ask_Port, Value.int .i64 ask_Secs, Value.int .u64 ask_Nonce, Value.int .i64 ask_Result, Value.int .i64 ask_Epoch, Value.int .u32 ask_Host] :: cel b_8 41 [Value.int .i64 Ver, Value.int .i64 Inside, Value.int .i64 Port, Value.int .i64 Secs, Value.int .u64 Nonce, Value.int .i64 Result_, Value.int .i64 Epoch, Value.int .u32 Host] :: FL) (fun w h => (rowRd h 0 encL5 rfl)) rfl cpp_39 h hp ?_
            intro r_85 r_86 r_87 r_88 r_89 r_90 r_91 r_92 r_93 r_94 w h hp
            refine ⟨_, _, _, _, _, _, _, _, _, _, rfl, ?_⟩
            refine ⟨_, _, _, _, _, _, _, _, rfl, ?_⟩
            refine ⟨_, rfl, ?_⟩
            refine storeL (ys := [Value.int .i64 r_85, Value.int .i64 r_86, Value.int .i64 r_87, Value.int .i64 r_88, Value.int .u64 r_89, Value.int .i64 r_90, Value.int .i64 r_91, Value.int .u32 r_92]) h 7 0 rfl rfl rfl sz41 rfl rfl ?_
            intro w h
            dsimp only [setH, setVs, setV] at h
            replace h := h.sel [8, 2, 2, 6, 1, 5, 5, 5, 2, 1, 2] 2
            dsimp only [pickL, pickR, nthH, delH, dropH, List.cons_append, List.nil_append] at h
            exact ⟨list_12, p_40, list_12.length, c_29, now_24, now_23, b_19, r_85, r_86, r_87, r_88, r_89, r_90, r_91, r_92, m_23, hd_11, m_22, p_41, rfl, rfl, rfl, rfl, rfl, rfl, rfl, rfl, rfl, rfl, rfl, hp, h⟩
          clear hq
          refine cond_both hp (fun hp => ?_) (fun hp => ?_)
          · replace h := h.sel [0, 0, 0, 0, 0, 2, 0, 0] 0
            dsimp only [pickL, pickR, nthH, delH, dropH, List.cons_append, List.nil_append] at h
            exact ⟨rfl, rfl, rfl, rfl, rfl, hp, h⟩
          refine ⟨_, cellL h 7 5 rfl rfl rfl, ?_⟩
          refine cond_both hp (fun hp => ?_) (fun hp => ?_)
          · replace h := h.sel [0, 0, 0, 0, 0, 2, 0, 0] 0
            dsimp only [pickL, pickR, nthH, delH, dropH, List.cons_append, List.nil_append] at h
            exact ⟨rfl, rfl, rfl, rfl, rfl, hp, h⟩
          refine ⟨_, cellL h 7 3 rfl rfl rfl, ?_⟩
          replace h := h.sel [0, 0, 0, 0, 0, 2, 0, 0] 0
          dsimp only [pickL, pickR, nthH, delH, dropH, List.cons_append, List.nil_append] at h
          exact ⟨rfl, rfl, rfl, rfl, rfl, hp, h⟩
        clear hq
        replace h := h.drew
        refine ⟨fun w => Mem (cel b_2 25 [Value.int .u32 from_Host, Value.int .i64 from_Port] :: cel b_1 41 [Value.int .i64 ask_Ver, Value.int .i64 ask_Inside, Value.int .i64 ask_Port, Value.int .i64 ask_Secs, Value.int .u64 ask_Nonce, Value.int .i64 ask_Result, Value.int .i64 ask_Epoch, Value.int .u32 ask_Host] :: FL) w, (h.sel [3, 3] 5), ?_⟩
        refine ⟨_, cellL h 3 0 rfl rfl rfl, _, cellL h 3 1 rfl rfl rfl, ?_⟩
        refine ⟨?_, ?_⟩
        · intro w h
          change Mem _ _ at h
          refine ⟨_, cellL h 0 0 rfl rfl rfl, _, cellL h 0 1 rfl rfl rfl, ?_⟩
          exact ⟨rfl, rfl⟩
        refine ⟨_, cellL h 4 1 rfl rfl rfl, ?_⟩
        refine ⟨?_, ?_⟩
        · intro w h
          change Mem _ _ at h
          refine ⟨_, cellL h 1 1 rfl rfl rfl, ?_⟩
          exact ⟨rfl, rfl⟩
        refine ⟨_, cellL h 4 2 rfl rfl rfl, ?_⟩
        refine ⟨?_, ?_⟩
        · intro w h
          change Mem _ _ at h
          refine ⟨_, cellL h 1 2 rfl rfl rfl, ?_⟩
          exact ⟨rfl, rfl⟩
        refine ⟨_, cellL h 4 3 rfl rfl rfl, ?_⟩
        refine ⟨?_, ?_⟩
        · intro w h
          change Mem _ _ at h
          refine ⟨_, cellL h 1 3 rfl rfl rfl, ?_⟩
          exact ⟨rfl, rfl⟩
        refine ⟨?_, ?_⟩
        · replace hp := hp.1
          refine pmp_Ask_ok h hp ?_
          rintro rs_5 p_17 n_19 c_12 w rfl h hp
          have cpp_17 := rowCap h 0 rfl
          refine ⟨_, _, _, rfl, ?_⟩
          refine ⟨(h.sel [4, 4] 6), ?_⟩
          refine ⟨?_, ?_⟩
          · replace hp := hp.1
            replace h := h.pick [1, 1, 1, 3, 3]
            dsimp only [pickL, pickR, nthH, delH, dropH, List.cons_append, List.nil_append] at h
            refine gG_Hear_ok (FL := row enc5 5 1 p_17 c_12 rs_5 :: cel b_2 25 [Value.int .u32 from_Host, Value.int .i64 from_Port] :: cel b_1 41 [Value.int .i64 ask_Ver, Value.int .i64 ask_Inside, Value.int .i64 ask_Port, Value.int .i64 ask_Secs, Value.int .u64 ask_Nonce, Value.int .i64 ask_Result, Value.int .i64 ask_Epoch, Value.int .u32 ask_Host] :: FL) (fun w h => (rowRd h 0 encL5 rfl)) rfl cpp_17 h hp ?_
            rintro rs_6 now_10 list_5 now_11 m_9 m_10 p_18 n_20 c_13 p_19 n_21 c_14 p_20 hd_4 w rfl rfl h hp
            have cpp_18 := rowCap h 0 rfl
            have cpp_19 := rowCap h 3 rfl
            refine ⟨_, _, _, rfl, ?_⟩
            refine ⟨?_, ?_⟩
            · replace hp := hp.1
              refine pmp_ReadAnswer_ok (FL := row enc5 5 1 p_18 c_13 rs_6 :: cel b_6 75 [Value.pointer (some (Addr.mk b_3 0 none)), Value.bool g_1, Value.bool g_2, Value.int .i64 g_3, Value.int .i64 boot, Value.int .i64 now_10, Value.map (some b_7)] :: cel b_3 71 [Value.int .u32 box, Value.int .i64 box_1, Value.int .i64 box_2, Value.int .i64 box_3, Value.int .i64 box_4, Value.int .i64 box_5, Value.int .i64 box_6, Value.slice p_19 list_5.length c_14, Value.int .i64 now_11] :: row enc82 82 1 p_19 c_14 list_5 :: mapQ b_7 va25 va111 p_20 m_9 :: stoP stoE85 hd_4 m_10 :: row enc5 5 1 p_17 c_12 rs_5 :: cel b_2 25 [Value.int .u32 from_Host, Value.int .i64 from_Port] :: cel b_1 41 [Value.int .i64 ask_Ver, Value.int .i64 ask_Inside, Value.int .i64 ask_Port, Value.int .i64 ask_Secs, Value.int .u64 ask_Nonce, Value.int .i64 ask_Result, Value.int .i64 ask_Epoch, Value.int .u32 ask_Host] :: FL) (fun w h => (rowRd h 0 encL5 rfl)) rfl cpp_18 h hp ?_
              intro r_12 r_13 r_14 r_15 r_16 r_17 r_18 r_19 r_20 r_21 w h hp
              refine ⟨_, _, _, _, _, _, _, _, _, _, rfl, ?_⟩
              refine ⟨_, _, _, _, _, _, _, _, rfl, ?_⟩
              refine ⟨_, rfl, ?_⟩
              refine newL (o := [Value.int .i64 0, Value.int .i64 0, Value.int .i64 0, Value.int .i64 0, Value.int .u64 0, Value.int .i64 0, Value.int .i64 0, Value.int .u32 0]) h ?_
              intro b_9 w h
              refine ⟨(h.sel [8, 8] 8), ?_⟩
              refine storeL (ys := [Value.int .i64 r_12, Value.int .i64 r_13, Value.int .i64 r_14, Value.int .i64 r_15, Value.int .u64 r_16, Value.int .i64 r_17, Value.int .i64 r_18, Value.int .u32 r_19]) h 0 0 rfl rfl rfl sz41 rfl rfl ?_
              intro w h
              dsimp only [setH, setVs, setV] at h
              replace h := h.sel [2, 2, 2, 5, 5, 2, 2, 0] 2
              dsimp only [pickL, pickR, nthH, delH, dropH, List.cons_append, List.nil_append] at h
              exact ⟨now_10, list_5, p_19, list_5.length, c_14, now_11, b_9, r_12, r_13, r_14, r_15, r_16, r_17, r_18, r_19, m_9, p_20, m_10, hd_4, rfl, rfl, rfl, rfl, rfl, rfl, hp, h⟩
            replace hp := hp.2
            refine newL (o := [Value.int .i64 0, Value.int .i64 0, Value.int .i64 0, Value.int .i64 0, Value.int .u64 0, Value.int .i64 0, Value.int .i64 0, Value.int .u32 0]) h ?_
            intro b_10 w h
            refine ⟨(h.sel [8, 8] 8), ?_⟩
            refine pmp_ReadAnswer_ok (FL := cel b_10 41 [Value.int .i64 0, Value.int .i64 0, Value.int .i64 0, Value.int .i64 0, Value.int .u64 0, Value.int .i64 0, Value.int .i64 0, Value.int .u32 0] :: row enc5 5 1 p_18 c_13 rs_6 :: cel b_6 75 [Value.pointer (some (Addr.mk b_3 0 none)), Value.bool g_1, Value.bool g_2, Value.int .i64 g_3, Value.int .i64 boot, Value.int .i64 now_10, Value.map (some b_7)] :: cel b_3 71 [Value.int .u32 box, Value.int .i64 box_1, Value.int .i64 box_2, Value.int .i64 box_3, Value.int .i64 box_4, Value.int .i64 box_5, Value.int .i64 box_6, Value.slice p_19 list_5.length c_14, Value.int .i64 now_11] :: row enc82 82 1 p_19 c_14 list_5 :: mapQ b_7 va25 va111 p_20 m_9 :: stoP stoE85 hd_4 m_10 :: row enc5 5 1 p_17 c_12 rs_5 :: cel b_2 25 [Value.int .u32 from_Host, Value.int .i64 from_Port] :: cel b_1 41 [Value.int .i64 ask_Ver, Value.int .i64 ask_Inside, Value.int .i64 ask_Port, Value.int .i64 ask_Secs, Value.int .u64 ask_Nonce, Value.int .i64 ask_Result, Value.int .i64 ask_Epoch, Value.int .u32 ask_Host] :: FL) (fun w h => (rowRd h 1 encL5 rfl)) rfl cpp_18 h hp ?_
            intro r_22 r_23 r_24 r_25 r_26 r_27 r_28 r_29 r_30 r_31 w h hp
            refine ⟨_, _, _, _, _, _, _, _, _, _, rfl, ?_⟩
            refine ⟨_, _, _, _, _, _, _, _, rfl, ?_⟩
            refine ⟨_, rfl, ?_⟩
            refine storeL (ys := [Value.int .i64 r_22, Value.int .i64 r_23, Value.int .i64 r_24, Value.int .i64 r_25, Value.int .u64 r_26, Value.int .i64 r_27, Value.int .i64 r_28, Value.int .u32 r_29]) h 0 0 rfl rfl rfl sz41 rfl rfl ?_
            intro w h
            dsimp only [setH, setVs, setV] at h
            replace h := h.sel [2, 2, 2, 5, 5, 2, 2, 0] 2
            dsimp only [pickL, pickR, nthH, delH, dropH, List.cons_append, List.nil_append] at h
            exact ⟨now_10, list_5, p_19, list_5.length, c_14, now_11, b_10, r_22, r_23, r_24, r_25, r_26, r_27, r_28, r_29, m_9, p_20, m_10, hd_4, rfl, rfl, rfl, rfl, rfl, rfl, hp, h⟩
          replace hp := hp.2
          refine newL (o := [Value.int .i64 0, Value.int .i64 0, Value.int .i64 0, Value.int .i64 0, Value.int .u64 0, Value.int .i64 0, Value.int .i64 0, Value.int .u32 0]) h ?_
          intro b_11 w h
          refine ⟨(h.sel [5, 5] 7), ?_⟩
          replace h := h.pick [2, 2, 2, 4, 4]
          dsimp only [pickL, pickR, nthH, delH, dropH, List.cons_append, List.nil_append] at h
          refine gG_Hear_ok (FL := cel b_11 41 [Value.int .i64 0, Value.int .i64 0, Value.int .i64 0, Value.int .i64 0, Value.int .u64 0, Value.int .i64 0, Value.int .i64 0, Value.int .u32 0] :: row enc5 5 1 p_17 c_12 rs_5 :: cel b_2 25 [Value.int .u32 from_Host, Value.int .i64 from_Port] :: cel b_1 41 [Value.int .i64 ask_Ver, Value.int .i64 ask_Inside, Value.int .i64 ask_Port, Value.int .i64 ask_Secs, Value.int .u64 ask_Nonce, Value.int .i64 ask_Result, Value.int .i64 ask_Epoch, Value.int .u32 ask_Host] :: FL) (fun w h => (rowRd h 1 encL5 rfl)) rfl cpp_17 h hp ?_
          rintro rs_7 now_12 list_6 now_13 m_11 m_12 p_21 n_22 c_15 p_22 n_23 c_16 p_23 hd_5 w rfl rfl h hp
          have cpp_21 := rowCap h 0 rfl
          have cpp_22 := rowCap h 3 rfl
          refine ⟨_, _, _, rfl, ?_⟩
          refine pmp_ReadAnswer_ok (FL := row enc5 5 1 p_21 c_15 rs_7 :: cel b_6 75 [Value.pointer (some (Addr.mk b_3 0 none)), Value.bool g_1, Value.bool g_2, Value.int .i64 g_3, Value.int .i64 boot, Value.int .i64 now_12, Value.map (some b_7)] :: cel b_3 71 [Value.int .u32 box, Value.int .i64 box_1, Value.int .i64 box_2, Value.int .i64 box_3, Value.int .i64 box_4, Value.int .i64 box_5, Value.int .i64 box_6, Value.slice p_22 list_6.length c_16, Value.int .i64 now_13] :: row enc82 82 1 p_22 c_16 list_6 :: mapQ b_7 va25 va111 p_23 m_11 :: stoP stoE85 hd_5 m_12 :: cel b_11 41 [Value.int .i64 0, Value.int .i64 0, Value.int .i64 0, Value.int .i64 0, Value.int .u64 0, Value.int .i64 0, Value.int .i64 0, Value.int .u32 0] :: row enc5 5 1 p_17 c_12 rs_5 :: cel b_2 25 [Value.int .u32 from_Host, Value.int .i64 from_Port] :: cel b_1 41 [Value.int .i64 ask_Ver, Value.int .i64 ask_Inside, Value.int .i64 ask_Port, Value.int .i64 ask_Secs, Value.int .u64 ask_Nonce, Value.int .i64 ask_Result, Value.int .i64 ask_Epoch, Value.int .u32 ask_Host] :: FL) (fun w h => (rowRd h 0 encL5 rfl)) rfl cpp_21 h hp ?_
          intro r_32 r_33 r_34 r_35 r_36 r_37 r_38 r_39 r_40 r_41 w h hp
          refine ⟨_, _, _, _, _, _, _, _, _, _, rfl, ?_⟩
          refine ⟨_, _, _, _, _, _, _, _, rfl, ?_⟩
          refine ⟨_, rfl, ?_⟩
          refine storeL (ys := [Value.int .i64 r_32, Value.int .i64 r_33, Value.int .i64 r_34, Value.int .i64 r_35, Value.int .u64 r_36, Value.int .i64 r_37, Value.int .i64 r_38, Value.int .u32 r_39]) h 6 0 rfl rfl rfl sz41 rfl rfl ?_
          intro w h
          dsimp only [setH, setVs, setV] at h
          replace h := h.sel [1, 1, 1, 5, 5, 1, 1, 1] 2
          dsimp only [pickL, pickR, nthH, delH, dropH, List.cons_append, List.nil_append] at h
          exact ⟨now_12, list_6, p_22, list_6.length, c_16, now_13, b_11, r_32, r_33, r_34, r_35, r_36, r_37, r_38, r_39, m_11, p_23, m_12, hd_5, rfl, rfl, rfl, rfl, rfl, rfl, hp, h⟩
        replace hp := hp.2
        refine newL (o := [Value.int .i64 0, Value.int .i64 0, Value.int .i64 0, Value.int .i64 0, Value.int .u64 0, Value.int .i64 0, Value.int .i64 0, Value.int .u32 0]) h ?_
        intro b_12 w h
        refine ⟨(h.sel [4, 4] 6), ?_⟩
        refine pmp_Ask_ok h hp ?_
        rintro rs_8 p_24 n_24 c_17 w rfl h hp
        have cpp_24 := rowCap h 0 rfl
        refine ⟨_, _, _, rfl, ?_⟩
        refine ⟨(h.sel [5, 5] 7), ?_⟩
        replace h := h.pick [2, 2, 2, 4, 4]
        dsimp only [pickL, pickR, nthH, delH, dropH, List.cons_append, List.nil_append] at h
        refine gG_Hear_ok (FL := row enc5 5 1 p_24 c_17 rs_8 :: cel b_12 41 [Value.int .i64 0, Value.int .i64 0, Value.int .i64 0, Value.int .i64 0, Value.int .u64 0, Value.int .i64 0, Value.int .i64 0, Value.int .u32 0] :: cel b_2 25 [Value.int .u32 from_Host, Value.int .i64 from_Port] :: cel b_1 41 [Value.int .i64 ask_Ver, Value.int .i64 ask_Inside, Value.int .i64 ask_Port, Value.int .i64 ask_Secs, Value.int .u64 ask_Nonce, Value.int .i64 ask_Result, Value.int .i64 ask_Epoch, Value.int .u32 ask_Host] :: FL) (fun w h => (rowRd h 0 encL5 rfl)) rfl cpp_24 h hp ?_
        rintro rs_9 now_14 list_7 now_15 m_13 m_14 p_25 n_25 c_18 p_26 n_26 c_19 p_27 hd_6 w rfl rfl h hp
        have cpp_25 := rowCap h 0 rfl
        have cpp_26 := rowCap h 3 rfl
        refine ⟨_, _, _, rfl, ?_⟩
        refine pmp_ReadAnswer_ok (FL := row enc5 5 1 p_25 c_18 rs_9 :: cel b_6 75 [Value.pointer (some (Addr.mk b_3 0 none)), Value.bool g_1, Value.bool g_2, Value.int .i64 g_3, Value.int .i64 boot, Value.int .i64 now_14, Value.map (some b_7)] :: cel b_3 71 [Value.int .u32 box, Value.int .i64 box_1, Value.int .i64 box_2, Value.int .i64 box_3, Value.int .i64 box_4, Value.int .i64 box_5, Value.int .i64 box_6, Value.slice p_26 list_7.length c_19, Value.int .i64 now_15] :: row enc82 82 1 p_26 c_19 list_7 :: mapQ b_7 va25 va111 p_27 m_13 :: stoP stoE85 hd_6 m_14 :: row enc5 5 1 p_24 c_17 rs_8 :: cel b_12 41 [Value.int .i64 0, Value.int .i64 0, Value.int .i64 0, Value.int .i64 0, Value.int .u64 0, Value.int .i64 0, Value.int .i64 0, Value.int .u32 0] :: cel b_2 25 [Value.int .u32 from_Host, Value.int .i64 from_Port] :: cel b_1 41 [Value.int .i64 ask_Ver, Value.int .i64 ask_Inside, Value.int .i64 ask_Port, Value.int .i64 ask_Secs, Value.int .u64 ask_Nonce, Value.int .i64 ask_Result, Value.int .i64 ask_Epoch, Value.int .u32 ask_Host] :: FL) (fun w h => (rowRd h 0 encL5 rfl)) rfl cpp_25 h hp ?_
        intro r_42 r_43 r_44 r_45 r_46 r_47 r_48 r_49 r_50 r_51 w h hp
        refine ⟨_, _, _, _, _, _, _, _, _, _, rfl, ?_⟩
        refine ⟨_, _, _, _, _, _, _, _, rfl, ?_⟩
        refine ⟨_, rfl, ?_⟩
        refine storeL (ys := [Value.int .i64 r_42, Value.int .i64 r_43, Value.int .i64 r_44, Value.int .i64 r_45, Value.int .u64 r_46, Value.int .i64 r_47, Value.int .i64 r_48, Value.int .u32 r_49]) h 7 0 rfl rfl rfl sz41 rfl rfl ?_
        intro w h
        dsimp only [setH, setVs, setV] at h
        replace h := h.sel [1, 1, 1, 5, 5, 1, 1, 2] 2
        dsimp only [pickL, pickR, nthH, delH, dropH, List.cons_append, List.nil_append] at h
        exact ⟨now_14, list_7, p_26, list_7.length, c_19, now_15, b_12, r_42, r_43, r_44, r_45, r_46, r_47, r_48, r_49, m_13, p_27, m_14, hd_6, rfl, rfl, rfl, rfl, rfl, rfl, hp, h⟩
      clear hq
      obtain ⟨I_1, ⟨n_17, h0⟩, hq⟩ := hp
      refine ⟨fun n_11 script2_6p script2_6l script2_6c ask3_9 from4_9 n7_9 g9_7 i11_2 w => ∃ (now_4 : Int), ∃ (list_2 : List (Option Nat)), ∃ (p_9 : Option Addr), ∃ (n_10 : Nat), ∃ (c_7 : Nat), ∃ (now_5 : Int), ∃ (m_3 : BYX), ∃ (p_10 : List MapEntry × Nat), ∃ (m_4 : SBX), ∃ (hd_1 : Nat → Option Addr × Nat), p_1 = script2_6p ∧ script.length = script2_6l ∧ c_1 = script2_6c ∧ (Addr.mk b_1 0 none) = ask3_9 ∧ (Addr.mk b_2 0 none) = from4_9 ∧ (some (Addr.mk b_3 0 none)) = n7_9 ∧ (some (Addr.mk b_6 0 none)) = g9_7 ∧ n_10 = list_2.length ∧ I_1 n_11 now_4 list_2 now_5 i11_2 m_3 m_4 ∧ Mem (cel b_6 75 [Value.pointer (some (Addr.mk b_3 0 none)), Value.bool g_1, Value.bool g_2, Value.int .i64 g_3, Value.int .i64 boot, Value.int .i64 now_4, Value.map (some b_7)] :: cel b_3 71 [Value.int .u32 box, Value.int .i64 box_1, Value.int .i64 box_2, Value.int .i64 box_3, Value.int .i64 box_4, Value.int .i64 box_5, Value.int .i64 box_6, Value.slice p_9 n_10 c_7, Value.int .i64 now_5] :: row enc82 82 1 p_9 c_7 list_2 :: cel b_2 25 [Value.int .u32 from_Host, Value.int .i64 from_Port] :: cel b_1 41 [Value.int .i64 ask_Ver, Value.int .i64 ask_Inside, Value.int .i64 ask_Port, Value.int .i64 ask_Secs, Value.int .u64 ask_Nonce, Value.int .i64 ask_Result, Value.int .i64 ask_Epoch, Value.int .u32 ask_Host] :: mapQ b_7 va25 va111 p_10 m_3 :: stoP stoE85 hd_1 m_4 :: FL) w, ⟨n_17, now_1, list, p_2, list.length, c_2, now, by_, p_6, ([] : SBX), (fun _ => default), rfl, rfl, rfl, rfl, rfl, rfl, rfl, rfl, h0, h⟩, ?_⟩
      clear h0 h
      rintro n_11 script2_6p script2_6l script2_6c ask3_9 from4_9 n7_9 g9_7 i11_2 w ⟨now_4, list_2, p_9, n_10, c_7, now_5, m_3, p_10, m_4, hd_1, rfl, rfl, rfl, rfl, rfl, rfl, rfl, rfl, hp, h⟩
      replace hp := hq n_11 now_4 list_2 now_5 i11_2 m_3 m_4 hp
      clear hq
      unfold law_GateGrants_l9
      have cpp_9 := rowCap h 2 rfl
      obtain ⟨Q_8, hq, hp⟩ := hp
      refine ⟨fun script2_7p script2_7l script2_7c ask3_10 from4_10 n7_10 g9_8 i11_3 t61_1 w => p_1 = script2_7p ∧ script.length = script2_7l ∧ c_1 = script2_7c ∧ (Addr.mk b_1 0 none) = ask3_10 ∧ (Addr.mk b_2 0 none) = from4_10 ∧ (some (Addr.mk b_3 0 none)) = n7_10 ∧ (some (Addr.mk b_6 0 none)) = g9_8 ∧ i11_2 = i11_3 ∧ Q_8 t61_1 ∧ Mem (cel b_6 75 [Value.pointer (some (Addr.mk b_3 0 none)), Value.bool g_1, Value.bool g_2, Value.int .i64 g_3, Value.int .i64 boot, Value.int .i64 now_4, Value.map (some b_7)] :: cel b_3 71 [Value.int .u32 box, Value.int .i64 box_1, Value.int .i64 box_2, Value.int .i64 box_3, Value.int .i64 box_4, Value.int .i64 box_5, Value.int .i64 box_6, Value.slice p_9 list_2.length c_7, Value.int .i64 now_5] :: row enc82 82 1 p_9 c_7 list_2 :: cel b_2 25 [Value.int .u32 from_Host, Value.int .i64 from_Port] :: cel b_1 41 [Value.int .i64 ask_Ver, Value.int .i64 ask_Inside, Value.int .i64 ask_Port, Value.int .i64 ask_Secs, Value.int .u64 ask_Nonce, Value.int .i64 ask_Result, Value.int .i64 ask_Epoch, Value.int .u32 ask_Host] :: mapQ b_7 va25 va111 p_10 m_3 :: stoP stoE85 hd_1 m_4 :: FL) w, ?_, ?_⟩
      · rintro script2_7p script2_7l script2_7c ask3_10 from4_10 n7_10 g9_8 i11_3 t61_1 w ⟨rfl, rfl, rfl, rfl, rfl, rfl, rfl, rfl, hp, h⟩
        replace hp := hq t61_1 hp
        unfold law_GateGrants_j10
        refine cond_both' hp (fun hp => ?_) (fun hp => ?_)
        · exact ⟨now_4, list_2, p_9, list_2.length, c_7, now_5, m_3, p_10, m_4, hd_1, rfl, rfl, rfl, rfl, rfl, hp, h⟩
        replace h := h.drew
        obtain ⟨ia_4, ja_4, hp⟩ := hp
        obtain ⟨a_4, ha_4⟩ := rdAddrD (hF_script _ (h.drop 7)) rfl ia_4 ja_4
        refine ⟨a_4, ha_4, ia_4, ja_4, ?_⟩
        obtain ⟨x_5, hx_5, cs, hR, hc0, hc1, hc2⟩ := rdCellD (hF_script _ (h.drop 7)) ha_4 rfl ia_4 ja_4
        replace hp := hp x_5 hx_5
        obtain ⟨q_4p6, q_4n6, q_4c6, rfl, rfl, hc_q_4p6, hF_q_4p6⟩ := hR
        refine ⟨_, hc2 2 0 _ rfl, ?_⟩
        refine ⟨_, cellL h 3 0 rfl rfl rfl, ?_⟩
        refine cond_both' hp (fun hp => ?_) (fun hp => ?_)
        · obtain ⟨n_16, hn, hp⟩ := hp
          exact ⟨n_16, hn, now_4, list_2, p_9, list_2.length, c_7, now_5, m_3, p_10, m_4, hd_1, rfl, rfl, rfl, rfl, rfl, rfl, rfl, rfl, hp, h⟩
        replace h := h.drew
        refine ⟨fun w => Mem (FL) w, (h.sel [] 7), ?_⟩
        obtain ⟨ia_5, ja_5, hp⟩ := hp
        obtain ⟨a_5, ha_5⟩ := rdAddrD (hF_script _ (h.drop 7)) rfl ia_5 ja_5
        refine ⟨a_5, ha_5, ia_5, ja_5, ?_⟩
        obtain ⟨x_7, hx_7, cs, hR, hc0, hc1, hc2⟩ := rdCellD (hF_script _ (h.drop 7)) ha_5 rfl ia_5 ja_5
        replace hp := hp x_7 hx_7
        obtain ⟨q_6p6, q_6n6, q_6c6, rfl, rfl, hc_q_6p6, hF_q_6p6⟩ := hR
        refine ⟨_, hc2 2 0 _ rfl, _, hc2 2 1 _ rfl, ?_⟩
        refine ⟨?_, ?_⟩
        · intro w h
          change Mem _ _ at h
          obtain ⟨x_6, hx_6, cs, hR, hc0, hc1, hc2⟩ := rdCellD (hF_script _ (h.drop 0)) ha_5 rfl ia_5 ja_5
          obtain rfl : x_6 = x_7 := Option.some.inj (hx_6.symm.trans hx_7)
          obtain ⟨q_5p6, q_5n6, q_5c6, rfl, rfl, hc_q_5p6, hF_q_5p6⟩ := hR
          refine ⟨_, hc2 2 0 _ rfl, _, hc2 2 1 _ rfl, ?_⟩
          exact ⟨rfl, rfl⟩
        obtain ⟨ia_6, ja_6, hp⟩ := hp
        obtain ⟨a_6, ha_6⟩ := rdAddrD (hF_script _ (h.drop 7)) rfl ia_6 ja_6
        refine ⟨a_6, ha_6, ia_6, ja_6, ?_⟩
        obtain ⟨x_8, hx_8, cs, hR, hc0, hc1, hc2⟩ := rdCellD (hF_script _ (h.drop 7)) ha_6 rfl ia_6 ja_6
        replace hp := hp x_8 hx_8
        obtain ⟨q_7p6, q_7n6, q_7c6, rfl, rfl, hc_q_7p6, hF_q_7p6⟩ := hR
        refine ⟨_, hc2 7 0 _ rfl, _, hc2 7 1 _ rfl, _, hc2 7 2 _ rfl, _, hc2 7 3 _ rfl, _, hc2 7 4 _ rfl, _, hc2 7 5 _ rfl, _, hc2 7 6 _ rfl, _, hc2 7 7 _ rfl, ?_⟩
        refine pmp_Ask_ok h hp ?_
        rintro rs_3 p_11 n_12 c_8 w rfl h hp
        have cpp_11 := rowCap h 0 rfl
        refine ⟨_, _, _, rfl, ?_⟩
        refine ⟨(h.sel [] 8), ?_⟩
        replace h := h.pick [1, 1, 1, 3, 3]
        dsimp only [pickL, pickR, nthH, delH, dropH, List.cons_append, List.nil_append] at h
        refine gG_Hear_ok (FL := row enc5 5 1 p_11 c_8 rs_3 :: cel b_2 25 [Value.int .u32 from_Host, Value.int .i64 from_Port] :: cel b_1 41 [Value.int .i64 ask_Ver, Value.int .i64 ask_Inside, Value.int .i64 ask_Port, Value.int .i64 ask_Secs, Value.int .u64 ask_Nonce, Value.int .i64 ask_Result, Value.int .i64 ask_Epoch, Value.int .u32 ask_Host] :: FL) (fun w h => (rowRd h 0 encL5 rfl)) rfl cpp_11 h hp ?_
        rintro rs_4 now_6 list_3 now_7 m_5 m_6 p_12 n_13 c_9 p_13 n_14 c_10 p_14 hd_2 w rfl rfl h hp
        have cpp_12 := rowCap h 0 rfl
        have cpp_13 := rowCap h 3 rfl
        refine ⟨_, _, _, rfl, ?_⟩
        replace h := h.sel [1, 1, 1, 4, 4, 1, 1] 2
        dsimp only [pickL, pickR, nthH, delH, dropH, List.cons_append, List.nil_append] at h
        obtain ⟨n_15, hn, hp⟩ := hp
        exact ⟨n_15, hn, now_6, list_3, p_13, list_3.length, c_10, now_7, m_5, p_14, m_6, hd_2, rfl, rfl, rfl, rfl, rfl, rfl, rfl, rfl, hp, h⟩
      clear hq
      refine cond_both hp (fun hp => ?_) (fun hp => ?_)
      · exact ⟨rfl, rfl, rfl, rfl, rfl, rfl, rfl, rfl, hp, h⟩
      exact ⟨rfl, rfl, rfl, rfl, rfl, rfl, rfl, rfl, hp, h⟩
    clear hq
    refine eqlPtrNil undP34 ?_
    refine ⟨_, rfl, ?_⟩
    refine cond_ff ?_
    replace h := h.sel [0, 1, 1, 1, 1, 0, 0] 0
    dsimp only [pickL, pickR, nthH, delH, dropH, List.cons_append, List.nil_append] at h
    exact ⟨rfl, rfl, rfl, rfl, rfl, rfl, rfl, hp, h⟩
  clear hq
  refine eqlPtrNil undP27 ?_
  refine ⟨_, rfl, ?_⟩
  refine cond_ff ?_
  exact ⟨rfl, rfl, rfl, rfl, rfl, rfl, hp, h⟩
end Go.Proofs.Ytnmdnkmemjfoeaa
