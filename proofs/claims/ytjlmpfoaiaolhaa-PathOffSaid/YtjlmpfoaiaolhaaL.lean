/- Each function over plain data (printed by a program of this claim's author). -/
import Derived.Test.YtjlmpfoaiaolhaaL1
namespace Go.Proofs.Ytjlmpfoaiaolhaa
open Go Go.Eng Go.Proofs
set_option maxRecDepth 100000
set_option maxHeartbeats 2000000

/-! embrasure/embrasurelaw29.PathLost (6) -/
def embrasurelaw29_PathLost_wp (own : Int) (places : List (Int × Int × Int × Bool)) (by_Host : Int) (by_Port : Int) (K : Bool → Prop) : Prop :=
  embrasurelaw29_awake_wp (fun (r : Bool) => cond (!r) (K false) (cond (decide ((((places.length : Nat) : Int) : Int) > 40)) (K true) (path_Ways_wp own places (fun (rs : List (Int × Int × Int × Bool)) => path_New_wp own places (fun (ways : List (Int × Int × Int × Bool)) (at_ : Int) (s : Int) (s_1 : Int) (s_2 : Int) (s_3 : Int) (s_4 : Bool) (s_5 : Int) => joinP1 (fun (t32 : Bool) => cond t32 (K (true)) (path_Walker_Start_wp ways at_ s s_1 s_2 s_3 s_4 s_5 0 (fun (r_1 : Int) (r_2 : Int) (r_3 : Int) (r_4 : Bool) (r_5 : Bool) (at__1 : Int) (s_6 : Int) (s_7 : Int) (s_8 : Int) (s_9 : Int) (s_10 : Bool) (s_11 : Int) => joinP7 (fun (at__2 : Int) (s_12 : Int) (s_13 : Int) (s_14 : Int) (s_15 : Int) (s_16 : Bool) (s_17 : Int) => path_Walker_Open_wp at__2 s_12 s_13 s_14 s_15 s_16 s_17 1000 (fun (r_11 : Bool) (s_30 : Int) (s_31 : Int) => cond (!r_11) (K false) (path_Walker_State_wp at__2 s_30 s_13 s_14 s_15 s_16 s_31 (fun (r_12 : Int) (r_13 : Int) (r_14 : Int) (r_15 : Int) (r_16 : Bool) (r_17 : Int) => 0 ≤ ((IntKind.wrap .i64 (((rs.length : Nat) : Int) - 1)) : Int) ∧ ((IntKind.wrap .i64 (((rs.length : Nat) : Int) - 1)) : Int) < ((rs.length : Nat) : Int) ∧ (∀ (x_1 : Int × Int × Int × Bool), rs[Int.toNat (IntKind.wrap .i64 (((rs.length : Nat) : Int) - 1))]? = some x_1 → (joinP1 (fun (t74 : Bool) => cond t74 (K false) (path_Walker_Punched_wp at__2 s_30 s_13 s_14 s_15 s_16 s_31 1001 by_Host by_Port (fun (r_18 : Bool) (s_32 : Int) (s_33 : Int) (s_34 : Int) (s_35 : Int) (s_36 : Bool) (s_37 : Int) => joinP0 (path_Walker_Lost_wp ways at__2 s_32 s_33 s_34 s_35 s_36 s_37 1002 (fun (r_67 : Int) (r_68 : Int) (r_69 : Int) (r_70 : Bool) (r_71 : Bool) (at__5 : Int) (s_38 : Int) (s_39 : Int) (s_40 : Int) (s_41 : Int) (s_42 : Bool) (s_43 : Int) => cond r_71 (0 ≤ (0 : Int) ∧ (0 : Int) < ((rs.length : Nat) : Int) ∧ (∀ (x_2 : Int × Int × Int × Bool), rs[Int.toNat 0]? = some x_2 → (cond ((((r_67 : Int) == x_2.1) && (((r_68 : Int) == x_2.2.1) && true)) && (((r_69 : Int) == x_2.2.2.1) && ((r_70 == x_2.2.2.2) && true))) (path_Walker_State_wp at__5 s_38 s_39 s_40 s_41 s_42 s_43 (fun (r_72 : Int) (r_73 : Int) (r_74 : Int) (r_75 : Int) (r_76 : Bool) (r_77 : Int) => cond ((r_72 : Int) == 1) (path_Walker_State_wp at__5 s_38 s_39 s_40 s_41 s_42 s_43 (fun (r_78 : Int) (r_79 : Int) (r_80 : Int) (r_81 : Int) (r_82 : Bool) (r_83 : Int) => K ((r_83 : Int) == 1012))) (K false))) (K false)))) (K false))) (fun (Q_3 : Prop) => joinP1 (fun (t113 : Bool) => cond t113 (K false) (Q_3 )) (fun (Q_4 : Bool → Prop) => cond (x_1.2.2.2) (cond ((by_Host : Int) != 0) (cond (decide ((by_Port : Int) ≥ 1)) (cond (!(r_18 == (decide ((by_Port : Int) ≤ 65535)))) (Q_4 true) (cond r_18 (path_Walker_State_wp at__2 s_32 s_33 s_34 s_35 s_36 s_37 (fun (r_19 : Int) (r_20 : Int) (r_21 : Int) (r_22 : Int) (r_23 : Bool) (r_24 : Int) => cond ((r_19 : Int) != 2) (Q_4 true) (path_Walker_State_wp at__2 s_32 s_33 s_34 s_35 s_36 s_37 (fun (r_25 : Int) (r_26 : Int) (r_27 : Int) (r_28 : Int) (r_29 : Bool) (r_30 : Int) => Q_4 (!(((r_26 : Int) == by_Host) && (((r_27 : Int) == by_Port) && true))))))) (Q_4 false))) (cond (!(r_18 == false)) (Q_4 true) (cond r_18 (path_Walker_State_wp at__2 s_32 s_33 s_34 s_35 s_36 s_37 (fun (r_31 : Int) (r_32 : Int) (r_33 : Int) (r_34 : Int) (r_35 : Bool) (r_36 : Int) => cond ((r_31 : Int) != 2) (Q_4 true) (path_Walker_State_wp at__2 s_32 s_33 s_34 s_35 s_36 s_37 (fun (r_37 : Int) (r_38 : Int) (r_39 : Int) (r_40 : Int) (r_41 : Bool) (r_42 : Int) => Q_4 (!(((r_38 : Int) == by_Host) && (((r_39 : Int) == by_Port) && true))))))) (Q_4 false)))) (cond (!(r_18 == false)) (Q_4 true) (cond r_18 (path_Walker_State_wp at__2 s_32 s_33 s_34 s_35 s_36 s_37 (fun (r_43 : Int) (r_44 : Int) (r_45 : Int) (r_46 : Int) (r_47 : Bool) (r_48 : Int) => cond ((r_43 : Int) != 2) (Q_4 true) (path_Walker_State_wp at__2 s_32 s_33 s_34 s_35 s_36 s_37 (fun (r_49 : Int) (r_50 : Int) (r_51 : Int) (r_52 : Int) (r_53 : Bool) (r_54 : Int) => Q_4 (!(((r_50 : Int) == by_Host) && (((r_51 : Int) == by_Port) && true))))))) (Q_4 false)))) (cond (!(r_18 == false)) (Q_4 true) (cond r_18 (path_Walker_State_wp at__2 s_32 s_33 s_34 s_35 s_36 s_37 (fun (r_55 : Int) (r_56 : Int) (r_57 : Int) (r_58 : Int) (r_59 : Bool) (r_60 : Int) => cond ((r_55 : Int) != 2) (Q_4 true) (path_Walker_State_wp at__2 s_32 s_33 s_34 s_35 s_36 s_37 (fun (r_61 : Int) (r_62 : Int) (r_63 : Int) (r_64 : Int) (r_65 : Bool) (r_66 : Int) => Q_4 (!(((r_62 : Int) == by_Host) && (((r_63 : Int) == by_Port) && true))))))) (Q_4 false)))))))) (fun (Q_2 : Bool → Prop) => cond (!((((r_13 : Int) == x_1.1) && (((r_14 : Int) == x_1.2.1) && true)) && (((r_15 : Int) == x_1.2.2.1) && ((r_16 == x_1.2.2.2) && true)))) (Q_2 true) (cond (!(((r_12 : Int) == 3) == x_1.2.2.2)) (Q_2 true) (Q_2 ((r_17 : Int) != 0)))))))))) (fun (Q_1 : Int → Int → Int → Int → Int → Bool → Int → Prop) => ∃ (I : Nat → Int → Int → Int → Int → Int → Bool → Int → Int → Prop), (∃ (n_6 : Nat), I n_6 at__1 s_6 s_7 s_8 s_9 s_10 s_11 1) ∧ ∀ (n_4 : Nat) (at__3 : Int) (s_18 : Int) (s_19 : Int) (s_20 : Int) (s_21 : Int) (s_22 : Bool) (s_23 : Int) (i9 : Int), I n_4 at__3 s_18 s_19 s_20 s_21 s_22 s_23 i9 → (cond (decide ((i9 : Int) < ((rs.length : Nat) : Int))) (path_Walker_Tick_wp ways at__3 s_18 s_19 s_20 s_21 s_22 s_23 (IntKind.wrap .i64 (10 * i9)) (fun (r_6 : Int) (r_7 : Int) (r_8 : Int) (r_9 : Bool) (r_10 : Bool) (at__4 : Int) (s_24 : Int) (s_25 : Int) (s_26 : Int) (s_27 : Int) (s_28 : Bool) (s_29 : Int) => ∃ (n_5 : Nat), n_5 < n_4 ∧ I n_5 at__4 s_24 s_25 s_26 s_27 s_28 s_29 (IntKind.wrap .i64 (i9 + 1)))) (Q_1 at__3 s_18 s_19 s_20 s_21 s_22 s_23)))))) (fun (Q : Bool → Prop) => Q ((((rs.length : Nat) : Int) : Int) == 0)))))))
theorem embrasurelaw29_PathLost_ok {p_1 : Option Addr} {n_1 : Nat} {c_1 : Nat} {own : Int} {places : List (Int × Int × Int × Bool)} {by_Host : Int} {by_Port : Int} {FL : List HP} {w : World} {K : Bool → Prop} {R : Value → World → Prop}
  (hF_places : ∀ w, Mem FL w → Rd w 4 p_1 enc31 places) (hl_places : n_1 = places.length) (hc_places : n_1 ≤ c_1)
  (h : Mem (FL) w) (hp : embrasurelaw29_PathLost_wp own places by_Host by_Port K)
  (hR : ∀ (r : Bool) (w : World), Mem (FL) w → K r → R (Value.bool r) w) :
  CallV Try.prog 6 #[(Value.int .u32 own), (Value.slice p_1 n_1 c_1), (Value.agg #[(Value.int .u32 by_Host), (Value.int .i64 by_Port)])] w R := by
  refine embrasurelaw29_PathLost_call ?_
  unfold embrasurelaw29_PathLost
  unfold embrasurelaw29_PathLost_wp at hp
  subst hl_places
  refine newL (o := [(Value.int .u32 by_Host), (Value.int .i64 by_Port)]) h ?_
  intro b_1 w h
  refine embrasurelaw29_awake_ok h hp ?_
  intro r w h hp
  refine ⟨_, rfl, ?_⟩
  refine cond_both hp (fun hp => ?_) (fun hp => ?_)
  · replace h := h.sel [] 1
    dsimp only [pickL, pickR, nthH, delH, dropH, List.cons_append, List.nil_append] at h
    exact hR false _ h hp
  refine cond_both hp (fun hp => ?_) (fun hp => ?_)
  · replace h := h.sel [] 1
    dsimp only [pickL, pickR, nthH, delH, dropH, List.cons_append, List.nil_append] at h
    exact hR true _ h hp
  refine path_Ways_ok (FL := cel b_1 29 [(Value.int .u32 by_Host), (Value.int .i64 by_Port)] :: FL) (fun w h => (hF_places _ (h.drop 1))) rfl hc_places h hp ?_
  rintro rs p_2 n_2 c_2 w rfl h hp
  have cpp_2 := rowCap h 0 rfl
  refine ⟨_, _, _, rfl, ?_⟩
  refine path_New_ok (FL := row enc31 31 4 p_2 c_2 rs :: cel b_1 29 [(Value.int .u32 by_Host), (Value.int .i64 by_Port)] :: FL) (fun w h => (hF_places _ (h.drop 2))) rfl hc_places h hp ?_
  rintro ways at_ s s_1 s_2 s_3 s_4 s_5 b_2 p_3 n_3 c_3 w rfl h hp
  have cpp_3 := rowCap h 1 rfl
  refine ⟨_, rfl, ?_⟩
  obtain ⟨Q, hq, hp⟩ := hp
  refine ⟨fun by5 l7p l7l l7c w8 t32 w => (Addr.mk b_1 0 none) = by5 ∧ p_2 = l7p ∧ rs.length = l7l ∧ c_2 = l7c ∧ (some (Addr.mk b_2 0 none)) = w8 ∧ Q t32 ∧ Mem (cel b_2 51 [(Value.slice p_3 ways.length c_3), (Value.int .i64 at_), (Value.int .i64 s), (Value.int .u32 s_1), (Value.int .i64 s_2), (Value.int .i64 s_3), (Value.bool s_4), (Value.int .i64 s_5)] :: row enc31 31 4 p_3 c_3 ways :: cel b_1 29 [(Value.int .u32 by_Host), (Value.int .i64 by_Port)] :: row enc31 31 4 p_2 c_2 rs :: FL) w, ?_, ?_⟩
  · rintro by5 l7p l7l l7c w8 t32 w ⟨rfl, rfl, rfl, rfl, rfl, hp, h⟩
    replace hp := hq t32 hp
    unfold embrasurelaw29_PathLost_j1
    refine cond_both hp (fun hp => ?_) (fun hp => ?_)
    · refine neqPtrNil undP25 ?_
      refine ⟨_, rfl, ?_⟩
      replace h := h.sel [] 4
      dsimp only [pickL, pickR, nthH, delH, dropH, List.cons_append, List.nil_append] at h
      exact hR (true) _ h hp
    refine path_Walker_Start_ok h hp ?_
    intro r_1 r_2 r_3 r_4 r_5 at__1 s_6 s_7 s_8 s_9 s_10 s_11 w h hp
    have cpp_3 := rowCap h 1 rfl
    refine ⟨_, _, _, _, _, rfl, ?_⟩
    obtain ⟨Q_1, hq, hp⟩ := hp
    refine ⟨fun by5_1 l7_1p l7_1l l7_1c w8_1 w => ∃ (at__2 : Int), ∃ (s_12 : Int), ∃ (s_13 : Int), ∃ (s_14 : Int), ∃ (s_15 : Int), ∃ (s_16 : Bool), ∃ (s_17 : Int), (Addr.mk b_1 0 none) = by5_1 ∧ p_2 = l7_1p ∧ rs.length = l7_1l ∧ c_2 = l7_1c ∧ (some (Addr.mk b_2 0 none)) = w8_1 ∧ Q_1 at__2 s_12 s_13 s_14 s_15 s_16 s_17 ∧ Mem (cel b_2 51 [(Value.slice p_3 ways.length c_3), (Value.int .i64 at__2), (Value.int .i64 s_12), (Value.int .u32 s_13), (Value.int .i64 s_14), (Value.int .i64 s_15), (Value.bool s_16), (Value.int .i64 s_17)] :: row enc31 31 4 p_3 c_3 ways :: cel b_1 29 [(Value.int .u32 by_Host), (Value.int .i64 by_Port)] :: row enc31 31 4 p_2 c_2 rs :: FL) w, ?_, ?_⟩
    · rintro by5_1 l7_1p l7_1l l7_1c w8_1 w ⟨at__2, s_12, s_13, s_14, s_15, s_16, s_17, rfl, rfl, rfl, rfl, rfl, hp, h⟩
      replace hp := hq at__2 s_12 s_13 s_14 s_15 s_16 s_17 hp
      unfold embrasurelaw29_PathLost_j2
      refine path_Walker_Open_ok h hp ?_
      intro r_11 s_30 s_31 w h hp
      refine ⟨_, rfl, ?_⟩
      refine cond_both hp (fun hp => ?_) (fun hp => ?_)
      · replace h := h.sel [] 4
        dsimp only [pickL, pickR, nthH, delH, dropH, List.cons_append, List.nil_append] at h
        exact hR false _ h hp
      refine path_Walker_State_ok h hp ?_
      intro r_12 r_13 r_14 r_15 r_16 r_17 w h hp
      refine ⟨_, _, _, _, _, _, rfl, ?_⟩
      refine newL (o := [(Value.int .i64 0), (Value.int .u32 0), (Value.int .i64 0), (Value.int .i64 0), (Value.bool false), (Value.int .i64 0)]) h ?_
      intro b_3 w h
      refine storeL (ys := [(Value.int .i64 r_12), (Value.int .u32 r_13), (Value.int .i64 r_14), (Value.int .i64 r_15), (Value.bool r_16), (Value.int .i64 r_17)]) h 0 0 rfl rfl rfl sz35 rfl rfl ?_
      intro w h
      dsimp only [setH, setVs, setV] at h
      obtain ⟨ia_1, ja_1, hp⟩ := hp
      obtain ⟨a_1, ha_1⟩ := rdAddr (rowRd h 4 encL31 rfl) rfl ia_1 ja_1
      refine ⟨a_1, ha_1, ia_1, ja_1, ?_⟩
      obtain ⟨x_1, hx_1, hc⟩ := rdCell (rowRd h 4 encL31 rfl) ha_1 rfl ia_1 ja_1
      replace hp := hp x_1 hx_1
      refine ⟨_, hc 0 _ rfl, _, hc 1 _ rfl, _, hc 2 _ rfl, _, hc 3 _ rfl, ?_⟩
      refine newL (o := [(Value.int .u32 0), (Value.int .i64 0), (Value.int .i64 0), (Value.bool false)]) h ?_
      intro b_4 w h
      refine storeL (ys := [(Value.int .u32 x_1.1), (Value.int .i64 x_1.2.1), (Value.int .i64 x_1.2.2.1), (Value.bool x_1.2.2.2)]) h 0 0 rfl rfl rfl sz31 rfl rfl ?_
      intro w h
      dsimp only [setH, setVs, setV] at h
      obtain ⟨Q_2, hq, hp⟩ := hp
      refine ⟨fun by5_3 l7_3p l7_3l l7_3c w8_3 last11 t74 w => (Addr.mk b_1 0 none) = by5_3 ∧ p_2 = l7_3p ∧ rs.length = l7_3l ∧ c_2 = l7_3c ∧ (some (Addr.mk b_2 0 none)) = w8_3 ∧ (Addr.mk b_4 0 none) = last11 ∧ Q_2 t74 ∧ Mem (cel b_4 31 [(Value.int .u32 x_1.1), (Value.int .i64 x_1.2.1), (Value.int .i64 x_1.2.2.1), (Value.bool x_1.2.2.2)] :: cel b_3 35 [(Value.int .i64 r_12), (Value.int .u32 r_13), (Value.int .i64 r_14), (Value.int .i64 r_15), (Value.bool r_16), (Value.int .i64 r_17)] :: cel b_2 51 [(Value.slice p_3 ways.length c_3), (Value.int .i64 at__2), (Value.int .i64 s_30), (Value.int .u32 s_13), (Value.int .i64 s_14), (Value.int .i64 s_15), (Value.bool s_16), (Value.int .i64 s_31)] :: row enc31 31 4 p_3 c_3 ways :: cel b_1 29 [(Value.int .u32 by_Host), (Value.int .i64 by_Port)] :: row enc31 31 4 p_2 c_2 rs :: FL) w, ?_, ?_⟩
      · rintro by5_3 l7_3p l7_3l l7_3c w8_3 last11 t74 w ⟨rfl, rfl, rfl, rfl, rfl, rfl, hp, h⟩
        replace hp := hq t74 hp
        unfold embrasurelaw29_PathLost_j3
        refine cond_both hp (fun hp => ?_) (fun hp => ?_)
        · replace h := h.sel [] 6
          dsimp only [pickL, pickR, nthH, delH, dropH, List.cons_append, List.nil_append] at h
          exact hR false _ h hp
        refine ⟨_, cellL h 4 0 rfl rfl rfl, _, cellL h 4 1 rfl rfl rfl, ?_⟩
        replace h := h.pick [2]
        dsimp only [pickL, pickR, nthH, delH, dropH, List.cons_append, List.nil_append] at h
        refine path_Walker_Punched_ok h hp ?_
        intro r_18 s_32 s_33 s_34 s_35 s_36 s_37 w h hp
        refine ⟨_, rfl, ?_⟩
        obtain ⟨Q_3, hq, hp⟩ := hp
        refine ⟨fun l7_4p l7_4l l7_4c w8_4 w => p_2 = l7_4p ∧ rs.length = l7_4l ∧ c_2 = l7_4c ∧ (some (Addr.mk b_2 0 none)) = w8_4 ∧ Q_3 ∧ Mem (cel b_2 51 [(Value.slice p_3 ways.length c_3), (Value.int .i64 at__2), (Value.int .i64 s_32), (Value.int .u32 s_33), (Value.int .i64 s_34), (Value.int .i64 s_35), (Value.bool s_36), (Value.int .i64 s_37)] :: row enc31 31 4 p_3 c_3 ways :: cel b_4 31 [(Value.int .u32 x_1.1), (Value.int .i64 x_1.2.1), (Value.int .i64 x_1.2.2.1), (Value.bool x_1.2.2.2)] :: cel b_3 35 [(Value.int .i64 r_12), (Value.int .u32 r_13), (Value.int .i64 r_14), (Value.int .i64 r_15), (Value.bool r_16), (Value.int .i64 r_17)] :: cel b_1 29 [(Value.int .u32 by_Host), (Value.int .i64 by_Port)] :: row enc31 31 4 p_2 c_2 rs :: FL) w, ?_, ?_⟩
        · rintro l7_4p l7_4l l7_4c w8_4 w ⟨rfl, rfl, rfl, rfl, hp, h⟩
          replace hp := hq  hp
          unfold embrasurelaw29_PathLost_j4
          refine path_Walker_Lost_ok h hp ?_
          intro r_67 r_68 r_69 r_70 r_71 at__5 s_38 s_39 s_40 s_41 s_42 s_43 w h hp
          have cpp_3 := rowCap h 1 rfl
          refine ⟨_, _, _, _, _, rfl, ?_⟩
          refine ⟨_, _, _, _, rfl, ?_⟩
          refine newL (o := [(Value.int .u32 0), (Value.int .i64 0), (Value.int .i64 0), (Value.bool false)]) h ?_
          intro b_5 w h
          refine storeL (ys := [(Value.int .u32 r_67), (Value.int .i64 r_68), (Value.int .i64 r_69), (Value.bool r_70)]) h 0 0 rfl rfl rfl sz31 rfl rfl ?_
          intro w h
          dsimp only [setH, setVs, setV] at h
          replace h := h.drew
          refine ⟨fun w => Mem (FL) w, (h.sel [] 7), ?_⟩
          refine cond_both' hp (fun hp => ?_) (fun hp => ?_)
          · replace h := h.sel [] 7
            dsimp only [pickL, pickR, nthH, delH, dropH, List.cons_append, List.nil_append] at h
            exact hR false _ h hp
          refine ⟨_, cellL h 0 0 rfl rfl rfl, _, cellL h 0 1 rfl rfl rfl, _, cellL h 0 2 rfl rfl rfl, _, cellL h 0 3 rfl rfl rfl, ?_⟩
          obtain ⟨ia_2, ja_2, hp⟩ := hp
          obtain ⟨a_2, ha_2⟩ := rdAddr (rowRd h 6 encL31 rfl) rfl ia_2 ja_2
          refine ⟨a_2, ha_2, ia_2, ja_2, ?_⟩
          obtain ⟨x_2, hx_2, hc⟩ := rdCell (rowRd h 6 encL31 rfl) ha_2 rfl ia_2 ja_2
          replace hp := hp x_2 hx_2
          refine ⟨_, hc 0 _ rfl, _, hc 1 _ rfl, _, hc 2 _ rfl, _, hc 3 _ rfl, ?_⟩
          refine eqlAgg (xs := [(Value.int .u32 r_67), (Value.int .i64 r_68), (Value.int .i64 r_69), (Value.bool r_70)]) (ys := [(Value.int .u32 x_2.1), (Value.int .i64 x_2.2.1), (Value.int .i64 x_2.2.2.1), (Value.bool x_2.2.2.2)]) eqG31 eqA31 (eqT31 r_67 r_68 r_69 r_70 x_2.1 x_2.2.1 x_2.2.2.1 x_2.2.2.2) ?_
          refine ⟨_, rfl, ?_⟩
          refine ⟨rfl, ?_⟩
          refine cond_both' hp (fun hp => ?_) (fun hp => ?_)
          · replace h := h.sel [] 7
            dsimp only [pickL, pickR, nthH, delH, dropH, List.cons_append, List.nil_append] at h
            exact hR false _ h hp
          replace h := h.pick [1]
          dsimp only [pickL, pickR, nthH, delH, dropH, List.cons_append, List.nil_append] at h
          refine path_Walker_State_ok h hp ?_
          intro r_72 r_73 r_74 r_75 r_76 r_77 w h hp
          refine ⟨_, _, _, _, _, _, rfl, ?_⟩
          refine ⟨(h.sel [] 7), ?_⟩
          refine cond_both' hp (fun hp => ?_) (fun hp => ?_)
          · replace h := h.sel [] 7
            dsimp only [pickL, pickR, nthH, delH, dropH, List.cons_append, List.nil_append] at h
            exact hR false _ h hp
          refine path_Walker_State_ok h hp ?_
          intro r_78 r_79 r_80 r_81 r_82 r_83 w h hp
          refine ⟨_, _, _, _, _, _, rfl, ?_⟩
          refine ⟨(h.sel [] 7), ?_⟩
          replace h := h.sel [] 7
          dsimp only [pickL, pickR, nthH, delH, dropH, List.cons_append, List.nil_append] at h
          exact hR ((r_83 : Int) == 1012) _ h hp
        clear hq
        obtain ⟨Q_4, hq, hp⟩ := hp
        refine ⟨fun l7_5p l7_5l l7_5c w8_5 t113 w => p_2 = l7_5p ∧ rs.length = l7_5l ∧ c_2 = l7_5c ∧ (some (Addr.mk b_2 0 none)) = w8_5 ∧ Q_4 t113 ∧ Mem (cel b_2 51 [(Value.slice p_3 ways.length c_3), (Value.int .i64 at__2), (Value.int .i64 s_32), (Value.int .u32 s_33), (Value.int .i64 s_34), (Value.int .i64 s_35), (Value.bool s_36), (Value.int .i64 s_37)] :: row enc31 31 4 p_3 c_3 ways :: cel b_4 31 [(Value.int .u32 x_1.1), (Value.int .i64 x_1.2.1), (Value.int .i64 x_1.2.2.1), (Value.bool x_1.2.2.2)] :: cel b_3 35 [(Value.int .i64 r_12), (Value.int .u32 r_13), (Value.int .i64 r_14), (Value.int .i64 r_15), (Value.bool r_16), (Value.int .i64 r_17)] :: cel b_1 29 [(Value.int .u32 by_Host), (Value.int .i64 by_Port)] :: row enc31 31 4 p_2 c_2 rs :: FL) w, ?_, ?_⟩
        · rintro l7_5p l7_5l l7_5c w8_5 t113 w ⟨rfl, rfl, rfl, rfl, hp, h⟩
          replace hp := hq t113 hp
          unfold embrasurelaw29_PathLost_j5
          refine cond_both' hp (fun hp => ?_) (fun hp => ?_)
          · exact ⟨rfl, rfl, rfl, rfl, hp, h⟩
          replace h := h.sel [] 6
          dsimp only [pickL, pickR, nthH, delH, dropH, List.cons_append, List.nil_append] at h
          exact hR false _ h hp
        clear hq
        replace h := h.drew
        refine ⟨fun w => Mem (cel b_1 29 [(Value.int .u32 by_Host), (Value.int .i64 by_Port)] :: FL) w, (h.sel [4] 5), ?_⟩
        refine ⟨_, cellL h 1 3 rfl rfl rfl, ?_⟩
        refine cond_both' hp (fun hp => ?_) (fun hp => ?_)
        · refine neqBool undB4 ?_
          refine ⟨_, rfl, ?_⟩
          refine ⟨rfl, ?_⟩
          refine cond_both hp (fun hp => ?_) (fun hp => ?_)
          · replace h := h.sel [0, 2, 0, 0, 0, 0] 0
            dsimp only [pickL, pickR, nthH, delH, dropH, List.cons_append, List.nil_append] at h
            exact ⟨rfl, rfl, rfl, rfl, hp, h⟩
          refine cond_both' hp (fun hp => ?_) (fun hp => ?_)
          · replace h := h.sel [0, 2, 0, 0, 0, 0] 0
            dsimp only [pickL, pickR, nthH, delH, dropH, List.cons_append, List.nil_append] at h
            exact ⟨rfl, rfl, rfl, rfl, hp, h⟩
          refine path_Walker_State_ok h hp ?_
          intro r_55 r_56 r_57 r_58 r_59 r_60 w h hp
          refine ⟨_, _, _, _, _, _, rfl, ?_⟩
          refine ⟨(h.sel [4] 5), ?_⟩
          refine cond_both hp (fun hp => ?_) (fun hp => ?_)
          · replace h := h.sel [0, 2, 0, 0, 0, 0] 0
            dsimp only [pickL, pickR, nthH, delH, dropH, List.cons_append, List.nil_append] at h
            exact ⟨rfl, rfl, rfl, rfl, hp, h⟩
          refine ⟨_, cellL h 4 0 rfl rfl rfl, _, cellL h 4 1 rfl rfl rfl, ?_⟩
          refine ⟨?_, ?_⟩
          · intro w h
            change Mem _ _ at h
            refine ⟨_, cellL h 0 0 rfl rfl rfl, _, cellL h 0 1 rfl rfl rfl, ?_⟩
            exact ⟨rfl, rfl⟩
          refine path_Walker_State_ok h hp ?_
          intro r_61 r_62 r_63 r_64 r_65 r_66 w h hp
          refine ⟨_, _, _, _, _, _, rfl, ?_⟩
          refine ⟨(h.sel [4] 5), ?_⟩
          refine neqAgg (xs := [(Value.int .u32 r_62), (Value.int .i64 r_63)]) (ys := [(Value.int .u32 by_Host), (Value.int .i64 by_Port)]) eqG29 eqA29 (eqT29 r_62 r_63 by_Host by_Port) ?_
          refine ⟨_, rfl, ?_⟩
          refine ⟨rfl, ?_⟩
          replace h := h.sel [0, 2, 0, 0, 0, 0] 0
          dsimp only [pickL, pickR, nthH, delH, dropH, List.cons_append, List.nil_append] at h
          exact ⟨rfl, rfl, rfl, rfl, hp, h⟩
        refine ⟨_, cellL h 4 0 rfl rfl rfl, ?_⟩
        refine cond_both' hp (fun hp => ?_) (fun hp => ?_)
        · refine neqBool undB4 ?_
          refine ⟨_, rfl, ?_⟩
          refine ⟨rfl, ?_⟩
          refine cond_both hp (fun hp => ?_) (fun hp => ?_)
          · replace h := h.sel [0, 2, 0, 0, 0, 0] 0
            dsimp only [pickL, pickR, nthH, delH, dropH, List.cons_append, List.nil_append] at h
            exact ⟨rfl, rfl, rfl, rfl, hp, h⟩
          refine cond_both' hp (fun hp => ?_) (fun hp => ?_)
          · replace h := h.sel [0, 2, 0, 0, 0, 0] 0
            dsimp only [pickL, pickR, nthH, delH, dropH, List.cons_append, List.nil_append] at h
            exact ⟨rfl, rfl, rfl, rfl, hp, h⟩
          refine path_Walker_State_ok h hp ?_
          intro r_43 r_44 r_45 r_46 r_47 r_48 w h hp
          refine ⟨_, _, _, _, _, _, rfl, ?_⟩
          refine ⟨(h.sel [4] 5), ?_⟩
          refine cond_both hp (fun hp => ?_) (fun hp => ?_)
          · replace h := h.sel [0, 2, 0, 0, 0, 0] 0
            dsimp only [pickL, pickR, nthH, delH, dropH, List.cons_append, List.nil_append] at h
            exact ⟨rfl, rfl, rfl, rfl, hp, h⟩
          refine ⟨_, cellL h 4 0 rfl rfl rfl, _, cellL h 4 1 rfl rfl rfl, ?_⟩
          refine ⟨?_, ?_⟩
          · intro w h
            change Mem _ _ at h
            refine ⟨_, cellL h 0 0 rfl rfl rfl, _, cellL h 0 1 rfl rfl rfl, ?_⟩
            exact ⟨rfl, rfl⟩
          refine path_Walker_State_ok h hp ?_
          intro r_49 r_50 r_51 r_52 r_53 r_54 w h hp
          refine ⟨_, _, _, _, _, _, rfl, ?_⟩
          refine ⟨(h.sel [4] 5), ?_⟩
          refine neqAgg (xs := [(Value.int .u32 r_50), (Value.int .i64 r_51)]) (ys := [(Value.int .u32 by_Host), (Value.int .i64 by_Port)]) eqG29 eqA29 (eqT29 r_50 r_51 by_Host by_Port) ?_
          refine ⟨_, rfl, ?_⟩
          refine ⟨rfl, ?_⟩
          replace h := h.sel [0, 2, 0, 0, 0, 0] 0
          dsimp only [pickL, pickR, nthH, delH, dropH, List.cons_append, List.nil_append] at h
          exact ⟨rfl, rfl, rfl, rfl, hp, h⟩
        refine ⟨_, cellL h 4 1 rfl rfl rfl, ?_⟩
        refine cond_both' hp (fun hp => ?_) (fun hp => ?_)
        · refine neqBool undB4 ?_
          refine ⟨_, rfl, ?_⟩
          refine ⟨rfl, ?_⟩
          refine cond_both hp (fun hp => ?_) (fun hp => ?_)
          · replace h := h.sel [0, 2, 0, 0, 0, 0] 0
            dsimp only [pickL, pickR, nthH, delH, dropH, List.cons_append, List.nil_append] at h
            exact ⟨rfl, rfl, rfl, rfl, hp, h⟩
          refine cond_both' hp (fun hp => ?_) (fun hp => ?_)
          · replace h := h.sel [0, 2, 0, 0, 0, 0] 0
            dsimp only [pickL, pickR, nthH, delH, dropH, List.cons_append, List.nil_append] at h
            exact ⟨rfl, rfl, rfl, rfl, hp, h⟩
          refine path_Walker_State_ok h hp ?_
          intro r_31 r_32 r_33 r_34 r_35 r_36 w h hp
          refine ⟨_, _, _, _, _, _, rfl, ?_⟩
          refine ⟨(h.sel [4] 5), ?_⟩
          refine cond_both hp (fun hp => ?_) (fun hp => ?_)
          · replace h := h.sel [0, 2, 0, 0, 0, 0] 0
            dsimp only [pickL, pickR, nthH, delH, dropH, List.cons_append, List.nil_append] at h
            exact ⟨rfl, rfl, rfl, rfl, hp, h⟩
          refine ⟨_, cellL h 4 0 rfl rfl rfl, _, cellL h 4 1 rfl rfl rfl, ?_⟩
          refine ⟨?_, ?_⟩
          · intro w h
            change Mem _ _ at h
            refine ⟨_, cellL h 0 0 rfl rfl rfl, _, cellL h 0 1 rfl rfl rfl, ?_⟩
            exact ⟨rfl, rfl⟩
          refine path_Walker_State_ok h hp ?_
          intro r_37 r_38 r_39 r_40 r_41 r_42 w h hp
          refine ⟨_, _, _, _, _, _, rfl, ?_⟩
          refine ⟨(h.sel [4] 5), ?_⟩
          refine neqAgg (xs := [(Value.int .u32 r_38), (Value.int .i64 r_39)]) (ys := [(Value.int .u32 by_Host), (Value.int .i64 by_Port)]) eqG29 eqA29 (eqT29 r_38 r_39 by_Host by_Port) ?_
          refine ⟨_, rfl, ?_⟩
          refine ⟨rfl, ?_⟩
          replace h := h.sel [0, 2, 0, 0, 0, 0] 0
          dsimp only [pickL, pickR, nthH, delH, dropH, List.cons_append, List.nil_append] at h
          exact ⟨rfl, rfl, rfl, rfl, hp, h⟩
        refine ⟨_, cellL h 4 1 rfl rfl rfl, ?_⟩
        refine neqBool undB4 ?_
        refine ⟨_, rfl, ?_⟩
        refine ⟨rfl, ?_⟩
        refine cond_both hp (fun hp => ?_) (fun hp => ?_)
        · replace h := h.sel [0, 2, 0, 0, 0, 0] 0
          dsimp only [pickL, pickR, nthH, delH, dropH, List.cons_append, List.nil_append] at h
          exact ⟨rfl, rfl, rfl, rfl, hp, h⟩
        refine cond_both' hp (fun hp => ?_) (fun hp => ?_)
        · replace h := h.sel [0, 2, 0, 0, 0, 0] 0
          dsimp only [pickL, pickR, nthH, delH, dropH, List.cons_append, List.nil_append] at h
          exact ⟨rfl, rfl, rfl, rfl, hp, h⟩
        refine path_Walker_State_ok h hp ?_
        intro r_19 r_20 r_21 r_22 r_23 r_24 w h hp
        refine ⟨_, _, _, _, _, _, rfl, ?_⟩
        refine ⟨(h.sel [4] 5), ?_⟩
        refine cond_both hp (fun hp => ?_) (fun hp => ?_)
        · replace h := h.sel [0, 2, 0, 0, 0, 0] 0
          dsimp only [pickL, pickR, nthH, delH, dropH, List.cons_append, List.nil_append] at h
          exact ⟨rfl, rfl, rfl, rfl, hp, h⟩
        refine ⟨_, cellL h 4 0 rfl rfl rfl, _, cellL h 4 1 rfl rfl rfl, ?_⟩
        refine ⟨?_, ?_⟩
        · intro w h
          change Mem _ _ at h
          refine ⟨_, cellL h 0 0 rfl rfl rfl, _, cellL h 0 1 rfl rfl rfl, ?_⟩
          exact ⟨rfl, rfl⟩
        refine path_Walker_State_ok h hp ?_
        intro r_25 r_26 r_27 r_28 r_29 r_30 w h hp
        refine ⟨_, _, _, _, _, _, rfl, ?_⟩
        refine ⟨(h.sel [4] 5), ?_⟩
        refine neqAgg (xs := [(Value.int .u32 r_26), (Value.int .i64 r_27)]) (ys := [(Value.int .u32 by_Host), (Value.int .i64 by_Port)]) eqG29 eqA29 (eqT29 r_26 r_27 by_Host by_Port) ?_
        refine ⟨_, rfl, ?_⟩
        refine ⟨rfl, ?_⟩
        replace h := h.sel [0, 2, 0, 0, 0, 0] 0
        dsimp only [pickL, pickR, nthH, delH, dropH, List.cons_append, List.nil_append] at h
        exact ⟨rfl, rfl, rfl, rfl, hp, h⟩
      clear hq
      refine ⟨_, cellL h 1 1 rfl rfl rfl, _, cellL h 1 2 rfl rfl rfl, _, cellL h 1 3 rfl rfl rfl, _, cellL h 1 4 rfl rfl rfl, ?_⟩
      refine ⟨_, cellL h 0 0 rfl rfl rfl, _, cellL h 0 1 rfl rfl rfl, _, cellL h 0 2 rfl rfl rfl, _, cellL h 0 3 rfl rfl rfl, ?_⟩
      refine neqAgg (xs := [(Value.int .u32 r_13), (Value.int .i64 r_14), (Value.int .i64 r_15), (Value.bool r_16)]) (ys := [(Value.int .u32 x_1.1), (Value.int .i64 x_1.2.1), (Value.int .i64 x_1.2.2.1), (Value.bool x_1.2.2.2)]) eqG31 eqA31 (eqT31 r_13 r_14 r_15 r_16 x_1.1 x_1.2.1 x_1.2.2.1 x_1.2.2.2) ?_
      refine ⟨_, rfl, ?_⟩
      refine cond_both hp (fun hp => ?_) (fun hp => ?_)
      · exact ⟨rfl, rfl, rfl, rfl, rfl, rfl, hp, h⟩
      refine ⟨_, cellL h 1 0 rfl rfl rfl, ?_⟩
      refine ⟨_, cellL h 0 3 rfl rfl rfl, ?_⟩
      refine neqBool undB4 ?_
      refine ⟨_, rfl, ?_⟩
      refine cond_both hp (fun hp => ?_) (fun hp => ?_)
      · exact ⟨rfl, rfl, rfl, rfl, rfl, rfl, hp, h⟩
      refine ⟨_, cellL h 1 5 rfl rfl rfl, ?_⟩
      exact ⟨rfl, rfl, rfl, rfl, rfl, rfl, hp, h⟩
    clear hq
    obtain ⟨I, ⟨n_6, h0⟩, hq⟩ := hp
    refine ⟨fun n_4 by5_2 l7_2p l7_2l l7_2c w8_2 i9 w => ∃ (at__3 : Int), ∃ (s_18 : Int), ∃ (s_19 : Int), ∃ (s_20 : Int), ∃ (s_21 : Int), ∃ (s_22 : Bool), ∃ (s_23 : Int), (Addr.mk b_1 0 none) = by5_2 ∧ p_2 = l7_2p ∧ rs.length = l7_2l ∧ c_2 = l7_2c ∧ (some (Addr.mk b_2 0 none)) = w8_2 ∧ I n_4 at__3 s_18 s_19 s_20 s_21 s_22 s_23 i9 ∧ Mem (cel b_2 51 [(Value.slice p_3 ways.length c_3), (Value.int .i64 at__3), (Value.int .i64 s_18), (Value.int .u32 s_19), (Value.int .i64 s_20), (Value.int .i64 s_21), (Value.bool s_22), (Value.int .i64 s_23)] :: row enc31 31 4 p_3 c_3 ways :: cel b_1 29 [(Value.int .u32 by_Host), (Value.int .i64 by_Port)] :: row enc31 31 4 p_2 c_2 rs :: FL) w, ⟨n_6, at__1, s_6, s_7, s_8, s_9, s_10, s_11, rfl, rfl, rfl, rfl, rfl, h0, h⟩, ?_⟩
    clear h0 h
    rintro n_4 by5_2 l7_2p l7_2l l7_2c w8_2 i9 w ⟨at__3, s_18, s_19, s_20, s_21, s_22, s_23, rfl, rfl, rfl, rfl, rfl, hp, h⟩
    replace hp := hq n_4 at__3 s_18 s_19 s_20 s_21 s_22 s_23 i9 hp
    clear hq
    unfold embrasurelaw29_PathLost_l6
    refine cond_both' hp (fun hp => ?_) (fun hp => ?_)
    · exact ⟨at__3, s_18, s_19, s_20, s_21, s_22, s_23, rfl, rfl, rfl, rfl, rfl, hp, h⟩
    refine path_Walker_Tick_ok h hp ?_
    intro r_6 r_7 r_8 r_9 r_10 at__4 s_24 s_25 s_26 s_27 s_28 s_29 w h hp
    have cpp_3 := rowCap h 1 rfl
    refine ⟨_, _, _, _, _, rfl, ?_⟩
    obtain ⟨n_5, hn, hp⟩ := hp
    exact ⟨n_5, hn, at__4, s_24, s_25, s_26, s_27, s_28, s_29, rfl, rfl, rfl, rfl, rfl, hp, h⟩
  clear hq
  refine eqlPtrNil undP25 ?_
  refine ⟨_, rfl, ?_⟩
  refine cond_ff ?_
  replace h := h.sel [0, 0, 1, 0] 0
  dsimp only [pickL, pickR, nthH, delH, dropH, List.cons_append, List.nil_append] at h
  exact ⟨rfl, rfl, rfl, rfl, rfl, hp, h⟩

/-! embrasure/embrasurelaw29.PathOff (7) -/
def embrasurelaw29_PathOff_wp (own : Int) (places : List (Int × Int × Int × Bool)) (now : Int) (K : Bool → Prop) : Prop :=
  embrasurelaw29_awake_wp (fun (r : Bool) => cond (!r) (K false) (cond (decide ((((places.length : Nat) : Int) : Int) > 40)) (K true) (path_New_wp own places (fun (ways : List (Int × Int × Int × Bool)) (at_ : Int) (s : Int) (s_1 : Int) (s_2 : Int) (s_3 : Int) (s_4 : Bool) (s_5 : Int) => path_Walker_Open_wp at_ s s_1 s_2 s_3 s_4 s_5 5 (fun (r_1 : Bool) (s_6 : Int) (s_7 : Int) => path_Walker_Punched_wp at_ s_6 s_1 s_2 s_3 s_4 s_7 5 9 9 (fun (r_2 : Bool) (s_8 : Int) (s_9 : Int) (s_10 : Int) (s_11 : Int) (s_12 : Bool) (s_13 : Int) => path_Walker_Lost_wp ways at_ s_8 s_9 s_10 s_11 s_12 s_13 5 (fun (r_3 : Int) (r_4 : Int) (r_5 : Int) (r_6 : Bool) (r_7 : Bool) (at__1 : Int) (s_14 : Int) (s_15 : Int) (s_16 : Int) (s_17 : Int) (s_18 : Bool) (s_19 : Int) => path_Walker_Tick_wp ways at__1 s_14 s_15 s_16 s_17 s_18 s_19 5 (fun (r_8 : Int) (r_9 : Int) (r_10 : Int) (r_11 : Bool) (r_12 : Bool) (at__2 : Int) (s_20 : Int) (s_21 : Int) (s_22 : Int) (s_23 : Int) (s_24 : Bool) (s_25 : Int) => joinP1 (fun (t59 : Bool) => cond t59 (K false) (path_Walker_Start_wp ways at__2 s_20 s_21 s_22 s_23 s_24 s_25 now (fun (r_19 : Int) (r_20 : Int) (r_21 : Int) (r_22 : Bool) (r_23 : Bool) (at__3 : Int) (s_26 : Int) (s_27 : Int) (s_28 : Int) (s_29 : Int) (s_30 : Bool) (s_31 : Int) => joinP1 (fun (t71 : Bool) => cond t71 (cond (!r_23) (path_Walker_State_wp at__3 s_26 s_27 s_28 s_29 s_30 s_31 (fun (r_24 : Int) (r_25 : Int) (r_26 : Int) (r_27 : Int) (r_28 : Bool) (r_29 : Int) => K (((r_24 : Int) == 0) && (((((r_25 : Int) == 0) && (((r_26 : Int) == 0) && true)) && (((r_27 : Int) == 0) && ((r_28 == false) && true))) && (((r_29 : Int) == 0) && true))))) (K false)) (path_Ways_wp own places (fun (rs : List (Int × Int × Int × Bool)) => cond ((((rs.length : Nat) : Int) : Int) == 0) (cond (!r_23) (path_Walker_State_wp at__3 s_26 s_27 s_28 s_29 s_30 s_31 (fun (r_30 : Int) (r_31 : Int) (r_32 : Int) (r_33 : Int) (r_34 : Bool) (r_35 : Int) => cond (((r_30 : Int) == 4) && (((((r_31 : Int) == 0) && (((r_32 : Int) == 0) && true)) && (((r_33 : Int) == 0) && ((r_34 == false) && true))) && (((r_35 : Int) == 0) && true))) (path_Walker_Open_wp at__3 s_26 s_27 s_28 s_29 s_30 s_31 now (fun (r_36 : Bool) (s_32 : Int) (s_33 : Int) => K (!r_36))) (K false))) (K false)) (path_Walker_Start_wp ways at__3 s_26 s_27 s_28 s_29 s_30 s_31 now (fun (r_37 : Int) (r_38 : Int) (r_39 : Int) (r_40 : Bool) (r_41 : Bool) (at__4 : Int) (s_34 : Int) (s_35 : Int) (s_36 : Int) (s_37 : Int) (s_38 : Bool) (s_39 : Int) => cond r_23 (path_Ways_wp own places (fun (rs_1 : List (Int × Int × Int × Bool)) => 0 ≤ (0 : Int) ∧ (0 : Int) < ((rs_1.length : Nat) : Int) ∧ (∀ (x_1 : Int × Int × Int × Bool), rs_1[Int.toNat 0]? = some x_1 → (cond ((((r_19 : Int) == x_1.1) && (((r_20 : Int) == x_1.2.1) && true)) && (((r_21 : Int) == x_1.2.2.1) && ((r_22 == x_1.2.2.2) && true))) (cond (!r_41) (path_Walker_State_wp at__4 s_34 s_35 s_36 s_37 s_38 s_39 (fun (r_42 : Int) (r_43 : Int) (r_44 : Int) (r_45 : Int) (r_46 : Bool) (r_47 : Int) => K (((r_42 : Int) == 1) && (((((r_43 : Int) == r_19) && (((r_44 : Int) == r_20) && true)) && (((r_45 : Int) == r_21) && ((r_46 == r_22) && true))) && (((r_47 : Int) == (IntKind.wrap .i64 (now + 10))) && true))))) (K false)) (K false))))) (K false)))))) (fun (Q_1 : Bool → Prop) => cond (decide ((now : Int) < 0)) (Q_1 true) (Q_1 (decide ((now : Int) > 1099511627776))))))) (fun (Q : Bool → Prop) => cond r_1 (Q true) (cond r_2 (Q true) (cond r_7 (Q true) (cond r_12 (Q true) (path_Walker_State_wp at__2 s_20 s_21 s_22 s_23 s_24 s_25 (fun (r_13 : Int) (r_14 : Int) (r_15 : Int) (r_16 : Int) (r_17 : Bool) (r_18 : Int) => Q (!(((r_13 : Int) == 0) && (((((r_14 : Int) == 0) && (((r_15 : Int) == 0) && true)) && (((r_16 : Int) == 0) && ((r_17 == false) && true))) && (((r_18 : Int) == 0) && true))))))))))))))))))
theorem embrasurelaw29_PathOff_ok {p_1 : Option Addr} {n_1 : Nat} {c_1 : Nat} {own : Int} {places : List (Int × Int × Int × Bool)} {now : Int} {FL : List HP} {w : World} {K : Bool → Prop} {R : Value → World → Prop}
  (hF_places : ∀ w, Mem FL w → Rd w 4 p_1 enc31 places) (hl_places : n_1 = places.length) (hc_places : n_1 ≤ c_1)
  (h : Mem (FL) w) (hp : embrasurelaw29_PathOff_wp own places now K)
  (hR : ∀ (r : Bool) (w : World), Mem (FL) w → K r → R (Value.bool r) w) :
  CallV Try.prog 7 #[(Value.int .u32 own), (Value.slice p_1 n_1 c_1), (Value.int .i64 now)] w R := by
  refine embrasurelaw29_PathOff_call ?_
  unfold embrasurelaw29_PathOff
  unfold embrasurelaw29_PathOff_wp at hp
  subst hl_places
  refine embrasurelaw29_awake_ok h hp ?_
  intro r w h hp
  refine ⟨_, rfl, ?_⟩
  refine cond_both hp (fun hp => ?_) (fun hp => ?_)
  · exact hR false _ h hp
  refine cond_both hp (fun hp => ?_) (fun hp => ?_)
  · exact hR true _ h hp
  refine path_New_ok (FL := FL) (fun w h => (hF_places _ (h.drop 0))) rfl hc_places h hp ?_
  rintro ways at_ s s_1 s_2 s_3 s_4 s_5 b_1 p_2 n_2 c_2 w rfl h hp
  have cpp_2 := rowCap h 1 rfl
  refine ⟨_, rfl, ?_⟩
  refine eqlPtrNil undP25 ?_
  refine ⟨_, rfl, ?_⟩
  refine cond_ff ?_
  refine path_Walker_Open_ok h hp ?_
  intro r_1 s_6 s_7 w h hp
  refine ⟨_, rfl, ?_⟩
  refine path_Walker_Punched_ok h hp ?_
  intro r_2 s_8 s_9 s_10 s_11 s_12 s_13 w h hp
  refine ⟨_, rfl, ?_⟩
  refine path_Walker_Lost_ok h hp ?_
  intro r_3 r_4 r_5 r_6 r_7 at__1 s_14 s_15 s_16 s_17 s_18 s_19 w h hp
  have cpp_2 := rowCap h 1 rfl
  refine ⟨_, _, _, _, _, rfl, ?_⟩
  refine ⟨_, _, _, _, rfl, ?_⟩
  refine newL (o := [(Value.int .u32 0), (Value.int .i64 0), (Value.int .i64 0), (Value.bool false)]) h ?_
  intro b_2 w h
  refine storeL (ys := [(Value.int .u32 r_3), (Value.int .i64 r_4), (Value.int .i64 r_5), (Value.bool r_6)]) h 0 0 rfl rfl rfl sz31 rfl rfl ?_
  intro w h
  dsimp only [setH, setVs, setV] at h
  replace h := h.pick [1, 1]
  dsimp only [pickL, pickR, nthH, delH, dropH, List.cons_append, List.nil_append] at h
  refine path_Walker_Tick_ok h hp ?_
  intro r_8 r_9 r_10 r_11 r_12 at__2 s_20 s_21 s_22 s_23 s_24 s_25 w h hp
  have cpp_2 := rowCap h 1 rfl
  refine ⟨_, _, _, _, _, rfl, ?_⟩
  refine ⟨_, _, _, _, rfl, ?_⟩
  refine newL (o := [(Value.int .u32 0), (Value.int .i64 0), (Value.int .i64 0), (Value.bool false)]) h ?_
  intro b_3 w h
  refine storeL (ys := [(Value.int .u32 r_8), (Value.int .i64 r_9), (Value.int .i64 r_10), (Value.bool r_11)]) h 0 0 rfl rfl rfl sz31 rfl rfl ?_
  intro w h
  dsimp only [setH, setVs, setV] at h
  obtain ⟨Q, hq, hp⟩ := hp
  refine ⟨fun own0 places1p places1l places1c now2 w7 t59 w => own = own0 ∧ p_1 = places1p ∧ places.length = places1l ∧ c_1 = places1c ∧ now = now2 ∧ (some (Addr.mk b_1 0 none)) = w7 ∧ Q t59 ∧ Mem (cel b_3 31 [(Value.int .u32 r_8), (Value.int .i64 r_9), (Value.int .i64 r_10), (Value.bool r_11)] :: cel b_1 51 [(Value.slice p_2 ways.length c_2), (Value.int .i64 at__2), (Value.int .i64 s_20), (Value.int .u32 s_21), (Value.int .i64 s_22), (Value.int .i64 s_23), (Value.bool s_24), (Value.int .i64 s_25)] :: row enc31 31 4 p_2 c_2 ways :: cel b_2 31 [(Value.int .u32 r_3), (Value.int .i64 r_4), (Value.int .i64 r_5), (Value.bool r_6)] :: FL) w, ?_, ?_⟩
  · rintro own0 places1p places1l places1c now2 w7 t59 w ⟨rfl, rfl, rfl, rfl, rfl, rfl, hp, h⟩
    replace hp := hq t59 hp
    unfold embrasurelaw29_PathOff_j1
    refine cond_both hp (fun hp => ?_) (fun hp => ?_)
    · replace h := h.sel [] 4
      dsimp only [pickL, pickR, nthH, delH, dropH, List.cons_append, List.nil_append] at h
      exact hR false _ h hp
    replace h := h.pick [1, 1]
    dsimp only [pickL, pickR, nthH, delH, dropH, List.cons_append, List.nil_append] at h
    refine path_Walker_Start_ok h hp ?_
    intro r_19 r_20 r_21 r_22 r_23 at__3 s_26 s_27 s_28 s_29 s_30 s_31 w h hp
    have cpp_2 := rowCap h 1 rfl
    refine ⟨_, _, _, _, _, rfl, ?_⟩
    refine ⟨_, _, _, _, rfl, ?_⟩
    refine newL (o := [(Value.int .u32 0), (Value.int .i64 0), (Value.int .i64 0), (Value.bool false)]) h ?_
    intro b_4 w h
    refine storeL (ys := [(Value.int .u32 r_19), (Value.int .i64 r_20), (Value.int .i64 r_21), (Value.bool r_22)]) h 0 0 rfl rfl rfl sz31 rfl rfl ?_
    intro w h
    dsimp only [setH, setVs, setV] at h
    obtain ⟨Q_1, hq, hp⟩ := hp
    refine ⟨fun own0_1 places1_1p places1_1l places1_1c now2_1 w7_1 p14 ok15 t71 w => own = own0_1 ∧ p_1 = places1_1p ∧ places.length = places1_1l ∧ c_1 = places1_1c ∧ now = now2_1 ∧ (some (Addr.mk b_1 0 none)) = w7_1 ∧ (Addr.mk b_4 0 none) = p14 ∧ r_23 = ok15 ∧ Q_1 t71 ∧ Mem (cel b_4 31 [(Value.int .u32 r_19), (Value.int .i64 r_20), (Value.int .i64 r_21), (Value.bool r_22)] :: cel b_1 51 [(Value.slice p_2 ways.length c_2), (Value.int .i64 at__3), (Value.int .i64 s_26), (Value.int .u32 s_27), (Value.int .i64 s_28), (Value.int .i64 s_29), (Value.bool s_30), (Value.int .i64 s_31)] :: row enc31 31 4 p_2 c_2 ways :: cel b_3 31 [(Value.int .u32 r_8), (Value.int .i64 r_9), (Value.int .i64 r_10), (Value.bool r_11)] :: cel b_2 31 [(Value.int .u32 r_3), (Value.int .i64 r_4), (Value.int .i64 r_5), (Value.bool r_6)] :: FL) w, ?_, ?_⟩
    · rintro own0_1 places1_1p places1_1l places1_1c now2_1 w7_1 p14 ok15 t71 w ⟨rfl, rfl, rfl, rfl, rfl, rfl, rfl, rfl, hp, h⟩
      replace hp := hq t71 hp
      unfold embrasurelaw29_PathOff_j2
      refine cond_both hp (fun hp => ?_) (fun hp => ?_)
      · refine cond_both' hp (fun hp => ?_) (fun hp => ?_)
        · replace h := h.sel [] 5
          dsimp only [pickL, pickR, nthH, delH, dropH, List.cons_append, List.nil_append] at h
          exact hR false _ h hp
        replace h := h.pick [1]
        dsimp only [pickL, pickR, nthH, delH, dropH, List.cons_append, List.nil_append] at h
        refine path_Walker_State_ok h hp ?_
        intro r_24 r_25 r_26 r_27 r_28 r_29 w h hp
        refine ⟨_, _, _, _, _, _, rfl, ?_⟩
        refine eqlAgg (xs := [(Value.int .i64 r_24), (Value.int .u32 r_25), (Value.int .i64 r_26), (Value.int .i64 r_27), (Value.bool r_28), (Value.int .i64 r_29)]) (ys := [(Value.int .i64 0), (Value.int .u32 0), (Value.int .i64 0), (Value.int .i64 0), (Value.bool false), (Value.int .i64 0)]) eqG35 eqA35 (eqT35 r_24 r_25 r_26 r_27 r_28 r_29 0 0 0 0 false 0) ?_
        refine ⟨_, rfl, ?_⟩
        replace h := h.sel [] 5
        dsimp only [pickL, pickR, nthH, delH, dropH, List.cons_append, List.nil_append] at h
        exact hR (((r_24 : Int) == 0) && (((((r_25 : Int) == 0) && (((r_26 : Int) == 0) && true)) && (((r_27 : Int) == 0) && ((r_28 == false) && true))) && (((r_29 : Int) == 0) && true))) _ h hp
      refine path_Ways_ok (FL := cel b_4 31 [(Value.int .u32 r_19), (Value.int .i64 r_20), (Value.int .i64 r_21), (Value.bool r_22)] :: cel b_1 51 [(Value.slice p_2 ways.length c_2), (Value.int .i64 at__3), (Value.int .i64 s_26), (Value.int .u32 s_27), (Value.int .i64 s_28), (Value.int .i64 s_29), (Value.bool s_30), (Value.int .i64 s_31)] :: row enc31 31 4 p_2 c_2 ways :: cel b_3 31 [(Value.int .u32 r_8), (Value.int .i64 r_9), (Value.int .i64 r_10), (Value.bool r_11)] :: cel b_2 31 [(Value.int .u32 r_3), (Value.int .i64 r_4), (Value.int .i64 r_5), (Value.bool r_6)] :: FL) (fun w h => (hF_places _ (h.drop 5))) rfl hc_places h hp ?_
      rintro rs p_3 n_3 c_3 w rfl h hp
      have cpp_3 := rowCap h 0 rfl
      refine ⟨_, _, _, rfl, ?_⟩
      refine cond_both hp (fun hp => ?_) (fun hp => ?_)
      · refine cond_both' hp (fun hp => ?_) (fun hp => ?_)
        · replace h := h.sel [] 6
          dsimp only [pickL, pickR, nthH, delH, dropH, List.cons_append, List.nil_append] at h
          exact hR false _ h hp
        replace h := h.pick [2]
        dsimp only [pickL, pickR, nthH, delH, dropH, List.cons_append, List.nil_append] at h
        refine path_Walker_State_ok h hp ?_
        intro r_30 r_31 r_32 r_33 r_34 r_35 w h hp
        refine ⟨_, _, _, _, _, _, rfl, ?_⟩
        refine eqlAgg (xs := [(Value.int .i64 r_30), (Value.int .u32 r_31), (Value.int .i64 r_32), (Value.int .i64 r_33), (Value.bool r_34), (Value.int .i64 r_35)]) (ys := [(Value.int .i64 4), (Value.int .u32 0), (Value.int .i64 0), (Value.int .i64 0), (Value.bool false), (Value.int .i64 0)]) eqG35 eqA35 (eqT35 r_30 r_31 r_32 r_33 r_34 r_35 4 0 0 0 false 0) ?_
        refine ⟨_, rfl, ?_⟩
        refine cond_both' hp (fun hp => ?_) (fun hp => ?_)
        · replace h := h.sel [] 6
          dsimp only [pickL, pickR, nthH, delH, dropH, List.cons_append, List.nil_append] at h
          exact hR false _ h hp
        refine path_Walker_Open_ok h hp ?_
        intro r_36 s_32 s_33 w h hp
        refine ⟨_, rfl, ?_⟩
        replace h := h.sel [] 6
        dsimp only [pickL, pickR, nthH, delH, dropH, List.cons_append, List.nil_append] at h
        exact hR (!r_36) _ h hp
      replace h := h.pick [2, 2]
      dsimp only [pickL, pickR, nthH, delH, dropH, List.cons_append, List.nil_append] at h
      refine path_Walker_Start_ok h hp ?_
      intro r_37 r_38 r_39 r_40 r_41 at__4 s_34 s_35 s_36 s_37 s_38 s_39 w h hp
      have cpp_2 := rowCap h 1 rfl
      refine ⟨_, _, _, _, _, rfl, ?_⟩
      refine ⟨_, _, _, _, rfl, ?_⟩
      refine newL (o := [(Value.int .u32 0), (Value.int .i64 0), (Value.int .i64 0), (Value.bool false)]) h ?_
      intro b_5 w h
      refine storeL (ys := [(Value.int .u32 r_37), (Value.int .i64 r_38), (Value.int .i64 r_39), (Value.bool r_40)]) h 0 0 rfl rfl rfl sz31 rfl rfl ?_
      intro w h
      dsimp only [setH, setVs, setV] at h
      replace h := h.drew
      refine ⟨fun w => Mem (cel b_4 31 [(Value.int .u32 r_19), (Value.int .i64 r_20), (Value.int .i64 r_21), (Value.bool r_22)] :: FL) w, (h.sel [4] 6), ?_⟩
      refine cond_both' hp (fun hp => ?_) (fun hp => ?_)
      · replace h := h.sel [] 7
        dsimp only [pickL, pickR, nthH, delH, dropH, List.cons_append, List.nil_append] at h
        exact hR false _ h hp
      refine ⟨_, cellL h 4 0 rfl rfl rfl, _, cellL h 4 1 rfl rfl rfl, _, cellL h 4 2 rfl rfl rfl, _, cellL h 4 3 rfl rfl rfl, ?_⟩
      refine ⟨?_, ?_⟩
      · intro w h
        change Mem _ _ at h
        refine ⟨_, cellL h 0 0 rfl rfl rfl, _, cellL h 0 1 rfl rfl rfl, _, cellL h 0 2 rfl rfl rfl, _, cellL h 0 3 rfl rfl rfl, ?_⟩
        exact ⟨rfl, rfl⟩
      refine path_Ways_ok (FL := cel b_5 31 [(Value.int .u32 r_37), (Value.int .i64 r_38), (Value.int .i64 r_39), (Value.bool r_40)] :: cel b_1 51 [(Value.slice p_2 ways.length c_2), (Value.int .i64 at__4), (Value.int .i64 s_34), (Value.int .u32 s_35), (Value.int .i64 s_36), (Value.int .i64 s_37), (Value.bool s_38), (Value.int .i64 s_39)] :: row enc31 31 4 p_2 c_2 ways :: row enc31 31 4 p_3 c_3 rs :: cel b_4 31 [(Value.int .u32 r_19), (Value.int .i64 r_20), (Value.int .i64 r_21), (Value.bool r_22)] :: cel b_3 31 [(Value.int .u32 r_8), (Value.int .i64 r_9), (Value.int .i64 r_10), (Value.bool r_11)] :: cel b_2 31 [(Value.int .u32 r_3), (Value.int .i64 r_4), (Value.int .i64 r_5), (Value.bool r_6)] :: FL) (fun w h => (hF_places _ (h.drop 7))) rfl hc_places h hp ?_
      rintro rs_1 p_4 n_4 c_4 w rfl h hp
      have cpp_4 := rowCap h 0 rfl
      refine ⟨_, _, _, rfl, ?_⟩
      refine ⟨(h.sel [5] 7), ?_⟩
      obtain ⟨ia_1, ja_1, hp⟩ := hp
      obtain ⟨a_1, ha_1⟩ := rdAddr (rowRd h 0 encL31 rfl) rfl ia_1 ja_1
      refine ⟨a_1, ha_1, ia_1, ja_1, ?_⟩
      obtain ⟨x_1, hx_1, hc⟩ := rdCell (rowRd h 0 encL31 rfl) ha_1 rfl ia_1 ja_1
      replace hp := hp x_1 hx_1
      refine ⟨_, hc 0 _ rfl, _, hc 1 _ rfl, _, hc 2 _ rfl, _, hc 3 _ rfl, ?_⟩
      refine eqlAgg (xs := [(Value.int .u32 r_19), (Value.int .i64 r_20), (Value.int .i64 r_21), (Value.bool r_22)]) (ys := [(Value.int .u32 x_1.1), (Value.int .i64 x_1.2.1), (Value.int .i64 x_1.2.2.1), (Value.bool x_1.2.2.2)]) eqG31 eqA31 (eqT31 r_19 r_20 r_21 r_22 x_1.1 x_1.2.1 x_1.2.2.1 x_1.2.2.2) ?_
      refine ⟨_, rfl, ?_⟩
      refine ⟨rfl, ?_⟩
      refine cond_both' hp (fun hp => ?_) (fun hp => ?_)
      · replace h := h.sel [] 8
        dsimp only [pickL, pickR, nthH, delH, dropH, List.cons_append, List.nil_append] at h
        exact hR false _ h hp
      refine cond_both' hp (fun hp => ?_) (fun hp => ?_)
      · replace h := h.sel [] 8
        dsimp only [pickL, pickR, nthH, delH, dropH, List.cons_append, List.nil_append] at h
        exact hR false _ h hp
      refine ⟨_, cellL h 5 0 rfl rfl rfl, _, cellL h 5 1 rfl rfl rfl, _, cellL h 5 2 rfl rfl rfl, _, cellL h 5 3 rfl rfl rfl, ?_⟩
      refine ⟨?_, ?_⟩
      · intro w h
        change Mem _ _ at h
        refine ⟨_, cellL h 0 0 rfl rfl rfl, _, cellL h 0 1 rfl rfl rfl, _, cellL h 0 2 rfl rfl rfl, _, cellL h 0 3 rfl rfl rfl, ?_⟩
        exact ⟨rfl, rfl⟩
      replace h := h.pick [2]
      dsimp only [pickL, pickR, nthH, delH, dropH, List.cons_append, List.nil_append] at h
      refine path_Walker_State_ok h hp ?_
      intro r_42 r_43 r_44 r_45 r_46 r_47 w h hp
      refine ⟨_, _, _, _, _, _, rfl, ?_⟩
      refine ⟨(h.sel [5] 7), ?_⟩
      refine eqlAgg (xs := [(Value.int .i64 r_42), (Value.int .u32 r_43), (Value.int .i64 r_44), (Value.int .i64 r_45), (Value.bool r_46), (Value.int .i64 r_47)]) (ys := [(Value.int .i64 1), (Value.int .u32 r_19), (Value.int .i64 r_20), (Value.int .i64 r_21), (Value.bool r_22), (Value.int .i64 (IntKind.wrap .i64 (now + 10)))]) eqG35 eqA35 (eqT35 r_42 r_43 r_44 r_45 r_46 r_47 1 r_19 r_20 r_21 r_22 (IntKind.wrap .i64 (now + 10))) ?_
      refine ⟨_, rfl, ?_⟩
      refine ⟨rfl, ?_⟩
      replace h := h.sel [] 8
      dsimp only [pickL, pickR, nthH, delH, dropH, List.cons_append, List.nil_append] at h
      exact hR (((r_42 : Int) == 1) && (((((r_43 : Int) == r_19) && (((r_44 : Int) == r_20) && true)) && (((r_45 : Int) == r_21) && ((r_46 == r_22) && true))) && (((r_47 : Int) == (IntKind.wrap .i64 (now + 10))) && true))) _ h hp
    clear hq
    refine cond_both hp (fun hp => ?_) (fun hp => ?_)
    · exact ⟨rfl, rfl, rfl, rfl, rfl, rfl, rfl, rfl, hp, h⟩
    exact ⟨rfl, rfl, rfl, rfl, rfl, rfl, rfl, rfl, hp, h⟩
  clear hq
  refine cond_both hp (fun hp => ?_) (fun hp => ?_)
  · exact ⟨rfl, rfl, rfl, rfl, rfl, rfl, hp, h⟩
  refine cond_both hp (fun hp => ?_) (fun hp => ?_)
  · exact ⟨rfl, rfl, rfl, rfl, rfl, rfl, hp, h⟩
  refine cond_both hp (fun hp => ?_) (fun hp => ?_)
  · exact ⟨rfl, rfl, rfl, rfl, rfl, rfl, hp, h⟩
  refine cond_both hp (fun hp => ?_) (fun hp => ?_)
  · exact ⟨rfl, rfl, rfl, rfl, rfl, rfl, hp, h⟩
  replace h := h.pick [1]
  dsimp only [pickL, pickR, nthH, delH, dropH, List.cons_append, List.nil_append] at h
  refine path_Walker_State_ok h hp ?_
  intro r_13 r_14 r_15 r_16 r_17 r_18 w h hp
  refine ⟨_, _, _, _, _, _, rfl, ?_⟩
  refine neqAgg (xs := [(Value.int .i64 r_13), (Value.int .u32 r_14), (Value.int .i64 r_15), (Value.int .i64 r_16), (Value.bool r_17), (Value.int .i64 r_18)]) (ys := [(Value.int .i64 0), (Value.int .u32 0), (Value.int .i64 0), (Value.int .i64 0), (Value.bool false), (Value.int .i64 0)]) eqG35 eqA35 (eqT35 r_13 r_14 r_15 r_16 r_17 r_18 0 0 0 0 false 0) ?_
  refine ⟨_, rfl, ?_⟩
  replace h := h.sel [1, 0, 0, 0] 0
  dsimp only [pickL, pickR, nthH, delH, dropH, List.cons_append, List.nil_append] at h
  exact ⟨rfl, rfl, rfl, rfl, rfl, rfl, hp, h⟩

end Go.Proofs.Ytjlmpfoaiaolhaa
