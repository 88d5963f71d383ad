/- Each function over plain data (printed by a program of this claim's author). -/
import Derived.Test.YtgelfofenbjjbaaL2
namespace Go.Proofs.Ytgelfofenbjjbaa
open Go Go.Eng Go.Proofs
set_option maxRecDepth 100000
set_option maxHeartbeats 2000000

/-! embrasure/embrasurelaw27.PunchStill (5) -/
def embrasurelaw27_PunchStill_wp (own : List (Int × Int)) (how_x : Int) (how_x_1 : Int) (late : Int) (K : Bool → Prop) : Prop :=
  embrasurelaw27_awake_wp (fun (r : Bool) => cond (!r) (K false) (embrasurelaw27_May_wp own (fun (r_1 : Bool) => cond (!r_1) (K true) (punch_New_wp own (fun (r_2 : Int) => joinP1 (fun (t35 : Bool) => cond t35 (K false) (False)) (fun (Q : Bool → Prop) => Q true)) (fun (r_3 : Int) (h_1 : Int) (h_2 : Bool) (h_3 : Int) (h_4 : Int) (h_5 : List (Int × Int)) (own_1 : List (Int × Int)) (marks : List (Int × Int)) (mean : Int) (dev : Int) (any : Bool) (now : Int) => joinP1 (fun (t35_1 : Bool) => cond t35_1 (K false) (punch_Puncher_Hear_wp h_1 h_2 h_3 h_4 h_5 own_1 marks mean dev any now 5 17 [(IntKind.wrap .u64 (IntKind.wrap .i64 (1 + (Int.tmod (IntKind.wrap .i64 how_x) 3)))), 0] [(9, 9)] ([] : List (Int)) ([] : List ((Option Addr × Nat × Nat) × List (Int))) ([] : List ((Option Addr × Nat × Nat) × List (Int))) ([] : List ((Option Addr × Nat × Nat) × List (Int × Int))) (fun (rs : List (Int × (Option Addr × Nat × Nat) × Int × (Option Addr × Nat × Nat) × (Option Addr × Nat × Nat) × (Option Addr × Nat × Nat))) (h_6 : Int) (h_7 : Int) (h_8 : Int) (h_9 : List (Int × Int)) (now_1 : Int) (marks_1 : List (Int × Int)) (mean_1 : Int) (dev_1 : Int) (any_1 : Bool) (m_1 : List ((Option Addr × Nat × Nat) × List (Int))) (m_2 : List ((Option Addr × Nat × Nat) × List (Int))) (m_3 : List ((Option Addr × Nat × Nat) × List (Int × Int))) => joinP1 (fun (t78 : Bool) => cond t78 (K false) (cond (decide (((IntKind.wrap .i64 (5 + (Int.tmod (IntKind.wrap .i64 late) 150))) : Int) ≥ 105)) (punch_Puncher_Tick_wp h_6 h_2 h_7 h_8 h_9 own_1 marks_1 mean_1 dev_1 any_1 now_1 (IntKind.wrap .i64 (5 + (Int.tmod (IntKind.wrap .i64 late) 150))) m_1 m_2 m_3 (fun (rs_2 : List (Int × (Option Addr × Nat × Nat) × Int × (Option Addr × Nat × Nat) × (Option Addr × Nat × Nat) × (Option Addr × Nat × Nat))) (h_10 : Int) (h_11 : Int) (h_12 : Int) (now_2 : Int) (marks_2 : List (Int × Int)) (m_4 : List ((Option Addr × Nat × Nat) × List (Int))) (m_5 : List ((Option Addr × Nat × Nat) × List (Int))) (m_6 : List ((Option Addr × Nat × Nat) × List (Int × Int))) => punch_Puncher_State_wp h_10 h_2 h_11 h_12 h_9 mean_1 dev_1 any_1 now_2 (fun (r_8 : Int) (r_9 : Bool) (r_10 : Int) (r_11 : Int) (rs_3 : List (Int × Int)) => cond ((r_8 : Int) == 0) (punch_Puncher_Begin_wp h_10 h_2 h_11 h_12 own_1 marks_2 mean_1 dev_1 any_1 now_2 (IntKind.wrap .i64 (5 + (Int.tmod (IntKind.wrap .i64 late) 150))) m_4 m_5 m_6 (fun (rs_4 : List (Int × (Option Addr × Nat × Nat) × Int × (Option Addr × Nat × Nat) × (Option Addr × Nat × Nat) × (Option Addr × Nat × Nat))) (h_13 : Int) (h_14 : Bool) (h_15 : Int) (h_16 : Int) (now_3 : Int) (marks_3 : List (Int × Int)) (m_7 : List ((Option Addr × Nat × Nat) × List (Int))) (m_8 : List ((Option Addr × Nat × Nat) × List (Int))) (m_9 : List ((Option Addr × Nat × Nat) × List (Int × Int))) => K ((((rs_4.length : Nat) : Int) : Int) == 1))) (K false)))) (punch_Puncher_Hear_wp h_6 h_2 h_7 h_8 h_9 own_1 marks_1 mean_1 dev_1 any_1 now_1 (IntKind.wrap .i64 (5 + (Int.tmod (IntKind.wrap .i64 late) 150))) 18 [(IntKind.wrap .u64 (IntKind.wrap .i64 (1 + (Int.tmod (IntKind.wrap .i64 how_x_1) 3))))] ([] : List (Int × Int)) ([] : List (Int)) m_1 m_2 m_3 (fun (rs_5 : List (Int × (Option Addr × Nat × Nat) × Int × (Option Addr × Nat × Nat) × (Option Addr × Nat × Nat) × (Option Addr × Nat × Nat))) (h_17 : Int) (h_18 : Int) (h_19 : Int) (h_20 : List (Int × Int)) (now_4 : Int) (marks_4 : List (Int × Int)) (mean_2 : Int) (dev_2 : Int) (any_2 : Bool) (m_10 : List ((Option Addr × Nat × Nat) × List (Int))) (m_11 : List ((Option Addr × Nat × Nat) × List (Int))) (m_12 : List ((Option Addr × Nat × Nat) × List (Int × Int))) => cond (((IntKind.wrap .i64 (1 + (Int.tmod (IntKind.wrap .i64 how_x_1) 3))) : Int) != (IntKind.wrap .i64 (1 + (Int.tmod (IntKind.wrap .i64 how_x) 3)))) (cond ((((rs_5.length : Nat) : Int) : Int) == 0) (punch_Puncher_State_wp h_17 h_2 h_18 h_19 h_20 mean_2 dev_2 any_2 now_4 (fun (r_12 : Int) (r_13 : Bool) (r_14 : Int) (r_15 : Int) (rs_6 : List (Int × Int)) => K ((r_12 : Int) == 2))) (K false)) (cond ((((rs_5.length : Nat) : Int) : Int) == 1) (0 ≤ (0 : Int) ∧ (0 : Int) < ((rs_5.length : Nat) : Int) ∧ (∀ (x_5 : Int × (Option Addr × Nat × Nat) × Int × (Option Addr × Nat × Nat) × (Option Addr × Nat × Nat) × (Option Addr × Nat × Nat)), rs_5[Int.toNat 0]? = some x_5 → (cond ((x_5.1 : Int) == 1) (0 ≤ (0 : Int) ∧ (0 : Int) < ((rs_5.length : Nat) : Int) ∧ (∀ (x_6 : Int × (Option Addr × Nat × Nat) × Int × (Option Addr × Nat × Nat) × (Option Addr × Nat × Nat) × (Option Addr × Nat × Nat)), rs_5[Int.toNat 0]? = some x_6 → (cond ((((x_6.2.1.2.1 : Nat) : Int) : Int) == 1) (punch_Puncher_State_wp h_17 h_2 h_18 h_19 h_20 mean_2 dev_2 any_2 now_4 (fun (r_16 : Int) (r_17 : Bool) (r_18 : Int) (r_19 : Int) (rs_7 : List (Int × Int)) => K ((r_19 : Int) == (IntKind.wrap .i64 ((IntKind.wrap .i64 (5 + (Int.tmod (IntKind.wrap .i64 late) 150))) + 20))))) (K false)))) (K false)))) (K false)))))) (fun (Q_2 : Bool → Prop) => cond ((((rs.length : Nat) : Int) : Int) != 1) (Q_2 true) (0 ≤ (0 : Int) ∧ (0 : Int) < ((rs.length : Nat) : Int) ∧ (∀ (x_1 : Int × (Option Addr × Nat × Nat) × Int × (Option Addr × Nat × Nat) × (Option Addr × Nat × Nat) × (Option Addr × Nat × Nat)), rs[Int.toNat 0]? = some x_1 → (∃ (xs : List (Int)), PH m_2 x_1.2.2.2.1 xs ∧ (0 ≤ (1 : Int) ∧ (1 : Int) < ((x_1.2.2.2.1.2.1 : Nat) : Int) ∧ (∀ (x_2 : Int), xs[Int.toNat 1]? = some x_2 → (cond ((x_2 : Int) != 1) (Q_2 true) (0 ≤ (0 : Int) ∧ (0 : Int) < ((rs.length : Nat) : Int) ∧ (∀ (x_3 : Int × (Option Addr × Nat × Nat) × Int × (Option Addr × Nat × Nat) × (Option Addr × Nat × Nat) × (Option Addr × Nat × Nat)), rs[Int.toNat 0]? = some x_3 → (∃ (xs_1 : List (Int)), PH m_2 x_3.2.2.2.1 xs_1 ∧ (0 ≤ (0 : Int) ∧ (0 : Int) < ((x_3.2.2.2.1.2.1 : Nat) : Int) ∧ (∀ (x_4 : Int), xs_1[Int.toNat 0]? = some x_4 → (cond (((IntKind.wrap .i64 x_4) : Int) != (IntKind.wrap .i64 (1 + (Int.tmod (IntKind.wrap .i64 how_x) 3)))) (Q_2 true) (punch_Puncher_State_wp h_6 h_2 h_7 h_8 h_9 mean_1 dev_1 any_1 now_1 (fun (r_4 : Int) (r_5 : Bool) (r_6 : Int) (r_7 : Int) (rs_1 : List (Int × Int)) => Q_2 ((r_4 : Int) != 2))))))))))))))))))) (fun (Q_1 : Bool → Prop) => Q_1 ((r_3 : Int) != 0)))))))
theorem embrasurelaw27_PunchStill_ok {p_1 : Option Addr} {n_1 : Nat} {c_1 : Nat} {own : List (Int × Int)} {how_x : Int} {how_x_1 : Int} {late : Int} {FL : List HP} {w : World} {K : Bool → Prop} {R : Value → World → Prop}
  (hF_own : ∀ w, Mem FL w → Rd w 2 p_1 enc55 own) (hl_own : n_1 = own.length) (hc_own : n_1 ≤ c_1)
  (h : Mem (FL) w) (hp : embrasurelaw27_PunchStill_wp own how_x how_x_1 late K)
  (hR : ∀ (r : Bool) (w : World), Mem (FL) w → K r → R (Value.bool r) w) :
  CallV Try.prog 5 #[(Value.slice p_1 n_1 c_1), (Value.agg #[(Value.int .u8 how_x), (Value.int .u8 how_x_1)]), (Value.int .u8 late)] w R := by
  refine embrasurelaw27_PunchStill_call ?_
  unfold embrasurelaw27_PunchStill
  unfold embrasurelaw27_PunchStill_wp at hp
  subst hl_own
  replace h := poolNil enc5 5 1 h
  replace h := poolNil enc52 52 1 h
  replace h := poolNil enc55 55 2 h
  refine newL (o := [(Value.int .u8 how_x), (Value.int .u8 how_x_1)]) h ?_
  intro b_1 w h
  refine embrasurelaw27_awake_ok h hp ?_
  intro r w h hp
  refine ⟨_, rfl, ?_⟩
  refine cond_both hp (fun hp => ?_) (fun hp => ?_)
  · replace h := h.sel [] 4
    dsimp only [pickL, pickR, nthH, delH, dropH, List.cons_append, List.nil_append] at h
    exact hR false _ h hp
  refine ⟨by decide, by decide, ?_⟩
  refine ⟨_, cellL h 0 0 rfl rfl rfl, ?_⟩
  refine ⟨by decide, by decide, ?_⟩
  refine ⟨_, cellL h 0 1 rfl rfl rfl, ?_⟩
  refine embrasurelaw27_May_ok (FL := cel b_1 51 [(Value.int .u8 how_x), (Value.int .u8 how_x_1)] :: poolP enc55 55 2 ([] : List ((Option Addr × Nat × Nat) × List (Int × Int))) :: poolP enc52 52 1 ([] : List ((Option Addr × Nat × Nat) × List (Int))) :: poolP enc5 5 1 ([] : List ((Option Addr × Nat × Nat) × List (Int))) :: FL) (fun w h => (hF_own _ (h.drop 4))) rfl hc_own h hp ?_
  intro r_1 w h hp
  refine ⟨_, rfl, ?_⟩
  refine cond_both hp (fun hp => ?_) (fun hp => ?_)
  · replace h := h.sel [] 4
    dsimp only [pickL, pickR, nthH, delH, dropH, List.cons_append, List.nil_append] at h
    exact hR true _ h hp
  refine punch_New_ok (FL := cel b_1 51 [(Value.int .u8 how_x), (Value.int .u8 how_x_1)] :: poolP enc55 55 2 ([] : List ((Option Addr × Nat × Nat) × List (Int × Int))) :: poolP enc52 52 1 ([] : List ((Option Addr × Nat × Nat) × List (Int))) :: poolP enc5 5 1 ([] : List ((Option Addr × Nat × Nat) × List (Int))) :: FL) (fun w h => (hF_own _ (h.drop 4))) rfl hc_own h hp ?_ ?_
  · intro r_2 w h hp
    refine ⟨_, _, rfl, ?_⟩
    refine ⟨_, rfl, ?_⟩
    refine ⟨_, rfl, ?_⟩
    obtain ⟨Q, hq, hp⟩ := hp
    refine ⟨fun late2 try7 sync8 p9 t35 w => late = late2 ∧ how_x = try7 ∧ how_x_1 = sync8 ∧ none = p9 ∧ Q t35 ∧ Mem (cel b_1 51 [(Value.int .u8 how_x), (Value.int .u8 how_x_1)] :: poolP enc55 55 2 ([] : List ((Option Addr × Nat × Nat) × List (Int × Int))) :: poolP enc52 52 1 ([] : List ((Option Addr × Nat × Nat) × List (Int))) :: poolP enc5 5 1 ([] : List ((Option Addr × Nat × Nat) × List (Int))) :: FL) w, ?_, ?_⟩
    · rintro late2 try7 sync8 p9 t35 w ⟨rfl, rfl, rfl, rfl, hp, h⟩
      replace hp := hq t35 hp
      unfold embrasurelaw27_PunchStill_j1
      refine cond_both hp (fun hp => ?_) (fun hp => ?_)
      · replace h := h.sel [] 4
        dsimp only [pickL, pickR, nthH, delH, dropH, List.cons_append, List.nil_append] at h
        exact hR false _ h hp
      refine ⟨by decide, ?_⟩
      refine newL (o := [(Value.int .u64 (IntKind.wrap .u64 (IntKind.wrap .i64 (1 + (Int.tmod (IntKind.wrap .i64 how_x) 3))))), (Value.int .u64 0)]) h ?_
      intro b_2 w h
      refine newL (o := [(Value.int .u32 9), (Value.int .i64 9)]) h ?_
      intro b_3 w h
      exact hp.elim
    clear hq
    refine eqlPtrNN undP27 ?_
    refine ⟨_, rfl, ?_⟩
    refine cond_tt ?_
    exact ⟨rfl, rfl, rfl, rfl, hp, h⟩
  rintro r_3 h_1 h_2 h_3 h_4 h_5 own_1 marks mean dev any now b_4 p_2 n_2 c_2 p_3 n_3 c_3 b_5 p_4 n_4 c_4 w rfl rfl rfl h hp
  have cpp_2 := rowCap h 1 rfl
  have cpp_3 := rowCap h 2 rfl
  have cpp_4 := rowCap h 4 rfl
  refine ⟨_, _, rfl, ?_⟩
  refine ⟨_, rfl, ?_⟩
  refine ⟨_, rfl, ?_⟩
  obtain ⟨Q_1, hq, hp⟩ := hp
  refine ⟨fun late2_1 try7_1 sync8_1 p9_1 t35_1 w => late = late2_1 ∧ how_x = try7_1 ∧ how_x_1 = sync8_1 ∧ (some (Addr.mk b_4 0 none)) = p9_1 ∧ Q_1 t35_1 ∧ Mem (cel b_4 64 [(Value.int .i64 h_1), (Value.bool h_2), (Value.int .i64 h_3), (Value.int .i64 h_4), (Value.slice p_2 h_5.length c_2), (Value.slice p_3 own_1.length c_3), (Value.pointer (some (Addr.mk b_5 0 none))), (Value.int .i64 now)] :: row enc55 55 2 p_2 c_2 h_5 :: row enc55 55 2 p_3 c_3 own_1 :: cel b_5 74 [(Value.slice p_4 marks.length c_4), (Value.int .i64 mean), (Value.int .i64 dev), (Value.bool any)] :: row enc86 86 2 p_4 c_4 marks :: cel b_1 51 [(Value.int .u8 how_x), (Value.int .u8 how_x_1)] :: poolP enc55 55 2 ([] : List ((Option Addr × Nat × Nat) × List (Int × Int))) :: poolP enc52 52 1 ([] : List ((Option Addr × Nat × Nat) × List (Int))) :: poolP enc5 5 1 ([] : List ((Option Addr × Nat × Nat) × List (Int))) :: FL) w, ?_, ?_⟩
  · rintro late2_1 try7_1 sync8_1 p9_1 t35_1 w ⟨rfl, rfl, rfl, rfl, hp, h⟩
    replace hp := hq t35_1 hp
    unfold embrasurelaw27_PunchStill_j1
    refine cond_both hp (fun hp => ?_) (fun hp => ?_)
    · replace h := h.sel [] 9
      dsimp only [pickL, pickR, nthH, delH, dropH, List.cons_append, List.nil_append] at h
      exact hR false _ h hp
    refine ⟨by decide, ?_⟩
    refine newL (o := [(Value.int .u64 (IntKind.wrap .u64 (IntKind.wrap .i64 (1 + (Int.tmod (IntKind.wrap .i64 how_x) 3))))), (Value.int .u64 0)]) h ?_
    intro b_6 w h
    refine newL (o := [(Value.int .u32 9), (Value.int .i64 9)]) h ?_
    intro b_7 w h
    replace h := h.pick [2, 2, 2, 2, 2, 5, 4, 3]
    dsimp only [pickL, pickR, nthH, delH, dropH, List.cons_append, List.nil_append] at h
    refine punch_Puncher_Hear_ok (FL := cel b_7 55 [(Value.int .u32 9), (Value.int .i64 9)] :: cel b_6 52 [(Value.int .u64 (IntKind.wrap .u64 (IntKind.wrap .i64 (1 + (Int.tmod (IntKind.wrap .i64 how_x) 3))))), (Value.int .u64 0)] :: cel b_1 51 [(Value.int .u8 how_x), (Value.int .u8 how_x_1)] :: FL) (fun w h => (celRd h 4 encL52 rfl [(IntKind.wrap .u64 (IntKind.wrap .i64 (1 + (Int.tmod (IntKind.wrap .i64 how_x) 3)))), 0] rfl)) rfl (Nat.le_refl _) (fun w h => (celRd h 3 encL55 rfl [(9, 9)] rfl)) rfl (Nat.le_refl _) (fun w h => Rd.nil) rfl (Nat.le_refl _) h hp ?_
    rintro rs h_6 h_7 h_8 h_9 now_1 marks_1 mean_1 dev_1 any_1 m_1 m_2 m_3 p_5 n_5 c_5 p_6 n_6 c_6 p_7 n_7 c_7 w rfl rfl rfl h hp
    have cpp_5 := rowCap h 0 rfl
    have cpp_6 := rowCap h 2 rfl
    have cpp_3 := rowCap h 3 rfl
    have cpp_7 := rowCap h 5 rfl
    refine ⟨_, _, _, rfl, ?_⟩
    obtain ⟨Q_2, hq, hp⟩ := hp
    refine ⟨fun late2_2 sync8_2 p9_2 k11 t78 w => late = late2_2 ∧ how_x_1 = sync8_2 ∧ (some (Addr.mk b_4 0 none)) = p9_2 ∧ (IntKind.wrap .i64 (1 + (Int.tmod (IntKind.wrap .i64 how_x) 3))) = k11 ∧ Q_2 t78 ∧ Mem (cel b_4 64 [(Value.int .i64 h_6), (Value.bool h_2), (Value.int .i64 h_7), (Value.int .i64 h_8), (Value.slice p_6 h_9.length c_6), (Value.slice p_3 own_1.length c_3), (Value.pointer (some (Addr.mk b_5 0 none))), (Value.int .i64 now_1)] :: row enc55 55 2 p_6 c_6 h_9 :: row enc55 55 2 p_3 c_3 own_1 :: cel b_5 74 [(Value.slice p_7 marks_1.length c_7), (Value.int .i64 mean_1), (Value.int .i64 dev_1), (Value.bool any_1)] :: row enc86 86 2 p_7 c_7 marks_1 :: cel b_7 55 [(Value.int .u32 9), (Value.int .i64 9)] :: cel b_6 52 [(Value.int .u64 (IntKind.wrap .u64 (IntKind.wrap .i64 (1 + (Int.tmod (IntKind.wrap .i64 how_x) 3))))), (Value.int .u64 0)] :: cel b_1 51 [(Value.int .u8 how_x), (Value.int .u8 how_x_1)] :: poolP enc5 5 1 m_1 :: poolP enc52 52 1 m_2 :: poolP enc55 55 2 m_3 :: FL) w, ?_, ?_⟩
    · rintro late2_2 sync8_2 p9_2 k11 t78 w ⟨rfl, rfl, rfl, rfl, hp, h⟩
      replace hp := hq t78 hp
      unfold embrasurelaw27_PunchStill_j2
      refine cond_both hp (fun hp => ?_) (fun hp => ?_)
      · replace h := h.sel [] 11
        dsimp only [pickL, pickR, nthH, delH, dropH, List.cons_append, List.nil_append] at h
        exact hR false _ h hp
      refine ⟨by decide, ?_⟩
      refine cond_both hp (fun hp => ?_) (fun hp => ?_)
      · replace h := h.pick [0, 0, 0, 0, 0, 3, 3, 3]
        dsimp only [pickL, pickR, nthH, delH, dropH, List.cons_append, List.nil_append] at h
        refine punch_Puncher_Tick_ok h hp ?_
        rintro rs_2 h_10 h_11 h_12 now_2 marks_2 m_4 m_5 m_6 p_9 n_9 c_9 p_10 n_10 c_10 w rfl rfl h hp
        have cpp_9 := rowCap h 0 rfl
        have cpp_6 := rowCap h 2 rfl
        have cpp_3 := rowCap h 3 rfl
        have cpp_10 := rowCap h 5 rfl
        refine ⟨_, _, _, rfl, ?_⟩
        replace h := h.pick [1, 1, 2]
        dsimp only [pickL, pickR, nthH, delH, dropH, List.cons_append, List.nil_append] at h
        refine punch_Puncher_State_ok h hp ?_
        rintro r_8 r_9 r_10 r_11 rs_3 p_11 n_11 c_11 w rfl h hp
        have cpp_11 := rowCap h 0 rfl
        have cpp_6 := rowCap h 2 rfl
        refine ⟨_, _, _, _, _, _, _, rfl, ?_⟩
        refine cond_both' hp (fun hp => ?_) (fun hp => ?_)
        · replace h := h.sel [] 13
          dsimp only [pickL, pickR, nthH, delH, dropH, List.cons_append, List.nil_append] at h
          exact hR false _ h hp
        replace h := h.pick [1, 4, 2, 3, 3, 3, 3]
        dsimp only [pickL, pickR, nthH, delH, dropH, List.cons_append, List.nil_append] at h
        refine punch_Puncher_Begin_ok h hp ?_
        rintro rs_4 h_13 h_14 h_15 h_16 now_3 marks_3 m_7 m_8 m_9 p_12 n_12 c_12 p_13 n_13 c_13 w rfl rfl h hp
        have cpp_12 := rowCap h 0 rfl
        have cpp_3 := rowCap h 2 rfl
        have cpp_13 := rowCap h 4 rfl
        refine ⟨_, _, _, rfl, ?_⟩
        replace h := h.sel [] 14
        dsimp only [pickL, pickR, nthH, delH, dropH, List.cons_append, List.nil_append] at h
        exact hR ((((rs_4.length : Nat) : Int) : Int) == 1) _ h hp
      refine ⟨by decide, ?_⟩
      refine newL (o := [(Value.int .u64 (IntKind.wrap .u64 (IntKind.wrap .i64 (1 + (Int.tmod (IntKind.wrap .i64 how_x_1) 3)))))]) h ?_
      intro b_8 w h
      replace h := h.pick [1, 1, 1, 1, 1, 4, 4, 4]
      dsimp only [pickL, pickR, nthH, delH, dropH, List.cons_append, List.nil_append] at h
      refine punch_Puncher_Hear_ok (FL := cel b_8 52 [(Value.int .u64 (IntKind.wrap .u64 (IntKind.wrap .i64 (1 + (Int.tmod (IntKind.wrap .i64 how_x_1) 3)))))] :: cel b_7 55 [(Value.int .u32 9), (Value.int .i64 9)] :: cel b_6 52 [(Value.int .u64 (IntKind.wrap .u64 (IntKind.wrap .i64 (1 + (Int.tmod (IntKind.wrap .i64 how_x) 3))))), (Value.int .u64 0)] :: cel b_1 51 [(Value.int .u8 how_x), (Value.int .u8 how_x_1)] :: FL) (fun w h => (celRd h 3 encL52 rfl [(IntKind.wrap .u64 (IntKind.wrap .i64 (1 + (Int.tmod (IntKind.wrap .i64 how_x_1) 3))))] rfl)) rfl (Nat.le_refl _) (fun w h => Rd.nil) rfl (Nat.le_refl _) (fun w h => Rd.nil) rfl (Nat.le_refl _) h hp ?_
      rintro rs_5 h_17 h_18 h_19 h_20 now_4 marks_4 mean_2 dev_2 any_2 m_10 m_11 m_12 p_14 n_14 c_14 p_15 n_15 c_15 p_16 n_16 c_16 w rfl rfl rfl h hp
      have cpp_14 := rowCap h 0 rfl
      have cpp_15 := rowCap h 2 rfl
      have cpp_3 := rowCap h 3 rfl
      have cpp_16 := rowCap h 5 rfl
      refine ⟨_, _, _, rfl, ?_⟩
      refine cond_both hp (fun hp => ?_) (fun hp => ?_)
      · refine cond_both' hp (fun hp => ?_) (fun hp => ?_)
        · replace h := h.sel [] 13
          dsimp only [pickL, pickR, nthH, delH, dropH, List.cons_append, List.nil_append] at h
          exact hR false _ h hp
        replace h := h.pick [1, 1, 2]
        dsimp only [pickL, pickR, nthH, delH, dropH, List.cons_append, List.nil_append] at h
        refine punch_Puncher_State_ok h hp ?_
        rintro r_12 r_13 r_14 r_15 rs_6 p_17 n_17 c_17 w rfl h hp
        have cpp_17 := rowCap h 0 rfl
        have cpp_15 := rowCap h 2 rfl
        refine ⟨_, _, _, _, _, _, _, rfl, ?_⟩
        replace h := h.sel [] 14
        dsimp only [pickL, pickR, nthH, delH, dropH, List.cons_append, List.nil_append] at h
        exact hR ((r_12 : Int) == 2) _ h hp
      refine cond_both' hp (fun hp => ?_) (fun hp => ?_)
      · replace h := h.sel [] 13
        dsimp only [pickL, pickR, nthH, delH, dropH, List.cons_append, List.nil_append] at h
        exact hR false _ h hp
      obtain ⟨ia_5, ja_5, hp⟩ := hp
      obtain ⟨a_5, ha_5⟩ := rdAddr (rowRd h 0 encL39 rfl) rfl ia_5 ja_5
      refine ⟨a_5, ha_5, ia_5, ja_5, ?_⟩
      obtain ⟨x_5, hx_5, hc⟩ := rdCell (rowRd h 0 encL39 rfl) ha_5 rfl ia_5 ja_5
      replace hp := hp x_5 hx_5
      refine ⟨_, hc 0 _ rfl, ?_⟩
      refine cond_both' hp (fun hp => ?_) (fun hp => ?_)
      · replace h := h.sel [] 13
        dsimp only [pickL, pickR, nthH, delH, dropH, List.cons_append, List.nil_append] at h
        exact hR false _ h hp
      obtain ⟨ia_6, ja_6, hp⟩ := hp
      obtain ⟨a_6, ha_6⟩ := rdAddr (rowRd h 0 encL39 rfl) rfl ia_6 ja_6
      refine ⟨a_6, ha_6, ia_6, ja_6, ?_⟩
      obtain ⟨x_6, hx_6, hc⟩ := rdCell (rowRd h 0 encL39 rfl) ha_6 rfl ia_6 ja_6
      replace hp := hp x_6 hx_6
      refine ⟨_, _, _, hc 1 _ rfl, ?_⟩
      refine cond_both' hp (fun hp => ?_) (fun hp => ?_)
      · replace h := h.sel [] 13
        dsimp only [pickL, pickR, nthH, delH, dropH, List.cons_append, List.nil_append] at h
        exact hR false _ h hp
      replace h := h.pick [1, 1, 2]
      dsimp only [pickL, pickR, nthH, delH, dropH, List.cons_append, List.nil_append] at h
      refine punch_Puncher_State_ok h hp ?_
      rintro r_16 r_17 r_18 r_19 rs_7 p_18 n_18 c_18 w rfl h hp
      have cpp_18 := rowCap h 0 rfl
      have cpp_15 := rowCap h 2 rfl
      refine ⟨_, _, _, _, _, _, _, rfl, ?_⟩
      replace h := h.sel [] 14
      dsimp only [pickL, pickR, nthH, delH, dropH, List.cons_append, List.nil_append] at h
      exact hR ((r_19 : Int) == (IntKind.wrap .i64 ((IntKind.wrap .i64 (5 + (Int.tmod (IntKind.wrap .i64 late) 150))) + 20))) _ h hp
    clear hq
    refine cond_both hp (fun hp => ?_) (fun hp => ?_)
    · replace h := h.sel [1, 1, 1, 1, 1, 4, 4, 4, 1, 1, 1] 1
      dsimp only [pickL, pickR, nthH, delH, dropH, List.cons_append, List.nil_append] at h
      exact ⟨rfl, rfl, rfl, rfl, hp, h⟩
    obtain ⟨ia_1, ja_1, hp⟩ := hp
    obtain ⟨a_1, ha_1⟩ := rdAddr (rowRd h 0 encL39 rfl) rfl ia_1 ja_1
    refine ⟨a_1, ha_1, ia_1, ja_1, ?_⟩
    obtain ⟨x_1, hx_1, hc⟩ := rdCell2 (rowRd h 0 encL39 rfl) ha_1 rfl ia_1 ja_1
    replace hp := hp x_1 hx_1
    refine ⟨_, _, _, hc 2 1 _ rfl, ?_⟩
    obtain ⟨xs, hq_xs, hp⟩ := hp
    have hl_xs := poolLen h 7 rfl hq_xs
    have hc_xs := poolCap h 7 rfl hq_xs
    obtain ⟨ia_2, ja_2, hp⟩ := hp
    obtain ⟨a_2, ha_2⟩ := rdAddr (poolRd h 7 encL52 rfl hq_xs) hl_xs ia_2 ja_2
    refine ⟨a_2, ha_2, ia_2, ja_2, ?_⟩
    obtain ⟨x_2, hx_2, hc⟩ := rdCell0 (poolRd h 7 encL52 rfl hq_xs) ha_2 hl_xs ia_2 ja_2
    replace hp := hp x_2 hx_2
    refine ⟨_, hc _ rfl, ?_⟩
    refine cond_both hp (fun hp => ?_) (fun hp => ?_)
    · replace h := h.sel [1, 1, 1, 1, 1, 4, 4, 4, 1, 1, 1] 1
      dsimp only [pickL, pickR, nthH, delH, dropH, List.cons_append, List.nil_append] at h
      exact ⟨rfl, rfl, rfl, rfl, hp, h⟩
    obtain ⟨ia_3, ja_3, hp⟩ := hp
    obtain ⟨a_3, ha_3⟩ := rdAddr (rowRd h 0 encL39 rfl) rfl ia_3 ja_3
    refine ⟨a_3, ha_3, ia_3, ja_3, ?_⟩
    obtain ⟨x_3, hx_3, hc⟩ := rdCell2 (rowRd h 0 encL39 rfl) ha_3 rfl ia_3 ja_3
    replace hp := hp x_3 hx_3
    refine ⟨_, _, _, hc 2 1 _ rfl, ?_⟩
    obtain ⟨xs_1, hq_xs_1, hp⟩ := hp
    have hl_xs_1 := poolLen h 7 rfl hq_xs_1
    have hc_xs_1 := poolCap h 7 rfl hq_xs_1
    obtain ⟨ia_4, ja_4, hp⟩ := hp
    obtain ⟨a_4, ha_4⟩ := rdAddr (poolRd h 7 encL52 rfl hq_xs_1) hl_xs_1 ia_4 ja_4
    refine ⟨a_4, ha_4, ia_4, ja_4, ?_⟩
    obtain ⟨x_4, hx_4, hc⟩ := rdCell0 (poolRd h 7 encL52 rfl hq_xs_1) ha_4 hl_xs_1 ia_4 ja_4
    replace hp := hp x_4 hx_4
    refine ⟨_, hc _ rfl, ?_⟩
    refine cond_both hp (fun hp => ?_) (fun hp => ?_)
    · replace h := h.sel [1, 1, 1, 1, 1, 4, 4, 4, 1, 1, 1] 1
      dsimp only [pickL, pickR, nthH, delH, dropH, List.cons_append, List.nil_append] at h
      exact ⟨rfl, rfl, rfl, rfl, hp, h⟩
    replace h := h.pick [1, 1, 2]
    dsimp only [pickL, pickR, nthH, delH, dropH, List.cons_append, List.nil_append] at h
    refine punch_Puncher_State_ok h hp ?_
    rintro r_4 r_5 r_6 r_7 rs_1 p_8 n_8 c_8 w rfl h hp
    have cpp_8 := rowCap h 0 rfl
    have cpp_6 := rowCap h 2 rfl
    refine ⟨_, _, _, _, _, _, _, rfl, ?_⟩
    replace h := h.sel [1, 1, 3, 1, 2, 5, 5, 5, 2, 2, 2] 2
    dsimp only [pickL, pickR, nthH, delH, dropH, List.cons_append, List.nil_append] at h
    exact ⟨rfl, rfl, rfl, rfl, hp, h⟩
  clear hq
  refine eqlPtrNil undP27 ?_
  refine ⟨_, rfl, ?_⟩
  refine cond_ff ?_
  exact ⟨rfl, rfl, rfl, rfl, hp, h⟩

/-! embrasure/embrasureref27.Addrs (13) -/
def embrasureref27_Addrs_wp (a_1 : List (Int × Int)) (b_1 : List (Int × Int)) (K : Bool → Prop) : Prop :=
  cond ((((a_1.length : Nat) : Int) : Int) != ((b_1.length : Nat) : Int)) (K false) (∃ (I : Nat → Int → Prop), (∃ (n_5 : Nat), I n_5 0) ∧ ∀ (n_3 : Nat) (i5 : Int), I n_3 i5 → (cond (decide ((i5 : Int) < ((a_1.length : Nat) : Int))) (0 ≤ (i5 : Int) ∧ (i5 : Int) < ((a_1.length : Nat) : Int) ∧ (∀ (x_1 : Int × Int), a_1[Int.toNat i5]? = some x_1 → (0 ≤ (i5 : Int) ∧ (i5 : Int) < ((b_1.length : Nat) : Int) ∧ (∀ (x_2 : Int × Int), b_1[Int.toNat i5]? = some x_2 → (cond (!(((x_1.1 : Int) == x_2.1) && (((x_1.2 : Int) == x_2.2) && true))) (K false) (∃ (n_4 : Nat), n_4 < n_3 ∧ I n_4 (IntKind.wrap .i64 (i5 + 1)))))))) (K true)))
theorem embrasureref27_Addrs_ok {p_1 : Option Addr} {n_1 : Nat} {c_1 : Nat} {p_2 : Option Addr} {n_2 : Nat} {c_2 : Nat} {a_1 : List (Int × Int)} {b_1 : List (Int × Int)} {FL : List HP} {w : World} {K : Bool → Prop} {R : Value → World → Prop}
  (hF_a_1 : ∀ w, Mem FL w → Rd w 2 p_1 enc55 a_1) (hl_a_1 : n_1 = a_1.length) (hc_a_1 : n_1 ≤ c_1)
  (hF_b_1 : ∀ w, Mem FL w → Rd w 2 p_2 enc55 b_1) (hl_b_1 : n_2 = b_1.length) (hc_b_1 : n_2 ≤ c_2)
  (h : Mem (FL) w) (hp : embrasureref27_Addrs_wp a_1 b_1 K)
  (hR : ∀ (r : Bool) (w : World), Mem (FL) w → K r → R (Value.bool r) w) :
  CallV Try.prog 13 #[(Value.slice p_1 n_1 c_1), (Value.slice p_2 n_2 c_2)] w R := by
  refine embrasureref27_Addrs_call ?_
  unfold embrasureref27_Addrs
  unfold embrasureref27_Addrs_wp at hp
  subst hl_a_1
  subst hl_b_1
  refine cond_both hp (fun hp => ?_) (fun hp => ?_)
  · exact hR false _ h hp
  obtain ⟨I, ⟨n_5, h0⟩, hq⟩ := hp
  refine ⟨fun n_3 a0p a0l a0c b1p b1l b1c i5 w => p_1 = a0p ∧ a_1.length = a0l ∧ c_1 = a0c ∧ p_2 = b1p ∧ b_1.length = b1l ∧ c_2 = b1c ∧ I n_3 i5 ∧ Mem (FL) w, ⟨n_5, rfl, rfl, rfl, rfl, rfl, rfl, h0, h⟩, ?_⟩
  clear h0 h
  rintro n_3 a0p a0l a0c b1p b1l b1c i5 w ⟨rfl, rfl, rfl, rfl, rfl, rfl, hp, h⟩
  replace hp := hq n_3 i5 hp
  clear hq
  unfold embrasureref27_Addrs_l1
  refine cond_both' hp (fun hp => ?_) (fun hp => ?_)
  · exact hR true _ h hp
  replace h := h.drew
  obtain ⟨ia_2, ja_2, hp⟩ := hp
  obtain ⟨a_2, ha_2⟩ := rdAddr (hF_a_1 _ (h.drop 0)) rfl ia_2 ja_2
  refine ⟨a_2, ha_2, ia_2, ja_2, ?_⟩
  obtain ⟨x_1, hx_1, hc⟩ := rdCell (hF_a_1 _ (h.drop 0)) ha_2 rfl ia_2 ja_2
  replace hp := hp x_1 hx_1
  refine ⟨_, hc 0 _ rfl, _, hc 1 _ rfl, ?_⟩
  obtain ⟨ia_3, ja_3, hp⟩ := hp
  obtain ⟨a_3, ha_3⟩ := rdAddr (hF_b_1 _ (h.drop 0)) rfl ia_3 ja_3
  refine ⟨a_3, ha_3, ia_3, ja_3, ?_⟩
  obtain ⟨x_2, hx_2, hc⟩ := rdCell (hF_b_1 _ (h.drop 0)) ha_3 rfl ia_3 ja_3
  replace hp := hp x_2 hx_2
  refine ⟨_, hc 0 _ rfl, _, hc 1 _ rfl, ?_⟩
  refine neqAgg (xs := [(Value.int .u32 x_1.1), (Value.int .i64 x_1.2)]) (ys := [(Value.int .u32 x_2.1), (Value.int .i64 x_2.2)]) eqG55 eqA55 (eqT55 x_1.1 x_1.2 x_2.1 x_2.2) ?_
  refine ⟨_, rfl, ?_⟩
  refine ⟨rfl, ?_⟩
  refine cond_both hp (fun hp => ?_) (fun hp => ?_)
  · exact hR false _ h hp
  obtain ⟨n_4, hn, hp⟩ := hp
  exact ⟨n_4, hn, rfl, rfl, rfl, rfl, rfl, rfl, hp, h⟩

/-! embrasure/embrasurelaw27.PunchTogether (3) -/
def embrasurelaw27_PunchTogether_wp (ends_x : List (Int × Int)) (ends_x_1 : List (Int × Int)) (delay : Int) (start : Int) (K : Bool → Prop) : Prop :=
  embrasurelaw27_awake_wp (fun (r : Bool) => cond (!r) (K false) (joinP1 (fun (t33 : Bool) => cond t33 (K true) (punch_New_wp ends_x (fun (r_3 : Int) => punch_New_wp ends_x_1 (fun (r_4 : Int) => joinP1 (fun (t57 : Bool) => cond t57 (K false) (False)) (fun (Q_1 : Bool → Prop) => Q_1 true)) (fun (r_5 : Int) (h_1 : Int) (h_2 : Bool) (h_3 : Int) (h_4 : Int) (h_5 : List (Int × Int)) (own : List (Int × Int)) (marks : List (Int × Int)) (mean : Int) (dev : Int) (any : Bool) (now : Int) => joinP1 (fun (t57_1 : Bool) => cond t57_1 (K false) (False)) (fun (Q_2 : Bool → Prop) => Q_2 true))) (fun (r_6 : Int) (h_6 : Int) (h_7 : Bool) (h_8 : Int) (h_9 : Int) (h_10 : List (Int × Int)) (own_1 : List (Int × Int)) (marks_1 : List (Int × Int)) (mean_1 : Int) (dev_1 : Int) (any_1 : Bool) (now_1 : Int) => punch_New_wp ends_x_1 (fun (r_7 : Int) => joinP1 (fun (t57_2 : Bool) => cond t57_2 (K false) (punch_Puncher_Begin_wp h_6 h_7 h_8 h_9 own_1 marks_1 mean_1 dev_1 any_1 now_1 (IntKind.wrap .i64 start) ([] : List ((Option Addr × Nat × Nat) × List (Int))) ([] : List ((Option Addr × Nat × Nat) × List (Int))) ([] : List ((Option Addr × Nat × Nat) × List (Int × Int))) (fun (rs : List (Int × (Option Addr × Nat × Nat) × Int × (Option Addr × Nat × Nat) × (Option Addr × Nat × Nat) × (Option Addr × Nat × Nat))) (h_11 : Int) (h_12 : Bool) (h_13 : Int) (h_14 : Int) (now_2 : Int) (marks_2 : List (Int × Int)) (m_1 : List ((Option Addr × Nat × Nat) × List (Int))) (m_2 : List ((Option Addr × Nat × Nat) × List (Int))) (m_3 : List ((Option Addr × Nat × Nat) × List (Int × Int))) => cond ((((rs.length : Nat) : Int) : Int) != 1) (K false) (0 ≤ (0 : Int) ∧ (0 : Int) < ((rs.length : Nat) : Int) ∧ (∀ (x_1 : Int × (Option Addr × Nat × Nat) × Int × (Option Addr × Nat × Nat) × (Option Addr × Nat × Nat) × (Option Addr × Nat × Nat)), rs[Int.toNat 0]? = some x_1 → (False)))))) (fun (Q_3 : Bool → Prop) => Q_3 true)) (fun (r_8 : Int) (h_15 : Int) (h_16 : Bool) (h_17 : Int) (h_18 : Int) (h_19 : List (Int × Int)) (own_2 : List (Int × Int)) (marks_3 : List (Int × Int)) (mean_2 : Int) (dev_2 : Int) (any_2 : Bool) (now_3 : Int) => joinP1 (fun (t57_3 : Bool) => cond t57_3 (K false) (punch_Puncher_Begin_wp h_6 h_7 h_8 h_9 own_1 marks_1 mean_1 dev_1 any_1 now_1 (IntKind.wrap .i64 start) ([] : List ((Option Addr × Nat × Nat) × List (Int))) ([] : List ((Option Addr × Nat × Nat) × List (Int))) ([] : List ((Option Addr × Nat × Nat) × List (Int × Int))) (fun (rs_1 : List (Int × (Option Addr × Nat × Nat) × Int × (Option Addr × Nat × Nat) × (Option Addr × Nat × Nat) × (Option Addr × Nat × Nat))) (h_20 : Int) (h_21 : Bool) (h_22 : Int) (h_23 : Int) (now_4 : Int) (marks_4 : List (Int × Int)) (m_4 : List ((Option Addr × Nat × Nat) × List (Int))) (m_5 : List ((Option Addr × Nat × Nat) × List (Int))) (m_6 : List ((Option Addr × Nat × Nat) × List (Int × Int))) => cond ((((rs_1.length : Nat) : Int) : Int) != 1) (K false) (0 ≤ (0 : Int) ∧ (0 : Int) < ((rs_1.length : Nat) : Int) ∧ (∀ (x_2 : Int × (Option Addr × Nat × Nat) × Int × (Option Addr × Nat × Nat) × (Option Addr × Nat × Nat) × (Option Addr × Nat × Nat)), rs_1[Int.toNat 0]? = some x_2 → (∃ (xs_3 : List (Int)), PH m_5 x_2.2.2.2.1 xs_3 ∧ (∃ (xs_4 : List (Int × Int)), PH m_6 x_2.2.2.2.2.1 xs_4 ∧ (∃ (xs_5 : List (Int)), PH m_4 x_2.2.2.2.2.2 xs_5 ∧ (punch_Puncher_Hear_wp h_15 h_16 h_17 h_18 h_19 own_2 marks_3 mean_2 dev_2 any_2 now_3 (IntKind.wrap .i64 ((IntKind.wrap .i64 start) + (Int.tmod (IntKind.wrap .i64 delay) 10))) x_2.2.2.1 xs_3 xs_4 xs_5 m_4 m_5 m_6 (fun (rs_2 : List (Int × (Option Addr × Nat × Nat) × Int × (Option Addr × Nat × Nat) × (Option Addr × Nat × Nat) × (Option Addr × Nat × Nat))) (h_24 : Int) (h_25 : Int) (h_26 : Int) (h_27 : List (Int × Int)) (now_5 : Int) (marks_5 : List (Int × Int)) (mean_3 : Int) (dev_3 : Int) (any_3 : Bool) (m_7 : List ((Option Addr × Nat × Nat) × List (Int))) (m_8 : List ((Option Addr × Nat × Nat) × List (Int))) (m_9 : List ((Option Addr × Nat × Nat) × List (Int × Int))) => cond ((((rs_2.length : Nat) : Int) : Int) != 1) (K false) (0 ≤ (0 : Int) ∧ (0 : Int) < ((rs_2.length : Nat) : Int) ∧ (∀ (x_3 : Int × (Option Addr × Nat × Nat) × Int × (Option Addr × Nat × Nat) × (Option Addr × Nat × Nat) × (Option Addr × Nat × Nat)), rs_2[Int.toNat 0]? = some x_3 → (∃ (xs_6 : List (Int)), PH m_8 x_3.2.2.2.1 xs_6 ∧ (∃ (xs_7 : List (Int × Int)), PH m_9 x_3.2.2.2.2.1 xs_7 ∧ (∃ (xs_8 : List (Int)), PH m_7 x_3.2.2.2.2.2 xs_8 ∧ (punch_Puncher_Hear_wp h_20 h_21 h_22 h_23 h_10 own_1 marks_4 mean_1 dev_1 any_1 now_4 (IntKind.wrap .i64 ((IntKind.wrap .i64 start) + (IntKind.wrap .i64 (2 * (Int.tmod (IntKind.wrap .i64 delay) 10))))) x_3.2.2.1 xs_6 xs_7 xs_8 m_7 m_8 m_9 (fun (rs_3 : List (Int × (Option Addr × Nat × Nat) × Int × (Option Addr × Nat × Nat) × (Option Addr × Nat × Nat) × (Option Addr × Nat × Nat))) (h_28 : Int) (h_29 : Int) (h_30 : Int) (h_31 : List (Int × Int)) (now_6 : Int) (marks_6 : List (Int × Int)) (mean_4 : Int) (dev_4 : Int) (any_4 : Bool) (m_10 : List ((Option Addr × Nat × Nat) × List (Int))) (m_11 : List ((Option Addr × Nat × Nat) × List (Int))) (m_12 : List ((Option Addr × Nat × Nat) × List (Int × Int))) => cond ((((rs_3.length : Nat) : Int) : Int) != 1) (K false) (joinP8 (fun (h_32 : Int) (h_33 : Int) (h_34 : Int) (now_7 : Int) (marks_7 : List (Int × Int)) (m_13 : List ((Option Addr × Nat × Nat) × List (Int))) (m_14 : List ((Option Addr × Nat × Nat) × List (Int))) (m_15 : List ((Option Addr × Nat × Nat) × List (Int × Int))) => punch_Puncher_Tick_wp h_32 h_21 h_33 h_34 h_31 own_1 marks_7 mean_4 dev_4 any_4 now_7 (IntKind.wrap .i64 ((IntKind.wrap .i64 start) + (IntKind.wrap .i64 (3 * (Int.tmod (IntKind.wrap .i64 delay) 10))))) m_13 m_14 m_15 (fun (rs_5 : List (Int × (Option Addr × Nat × Nat) × Int × (Option Addr × Nat × Nat) × (Option Addr × Nat × Nat) × (Option Addr × Nat × Nat))) (h_41 : Int) (h_42 : Int) (h_43 : Int) (now_10 : Int) (marks_10 : List (Int × Int)) (m_22 : List ((Option Addr × Nat × Nat) × List (Int))) (m_23 : List ((Option Addr × Nat × Nat) × List (Int))) (m_24 : List ((Option Addr × Nat × Nat) × List (Int × Int))) => 0 ≤ (0 : Int) ∧ (0 : Int) < ((rs_3.length : Nat) : Int) ∧ (∀ (x_4 : Int × (Option Addr × Nat × Nat) × Int × (Option Addr × Nat × Nat) × (Option Addr × Nat × Nat) × (Option Addr × Nat × Nat)), rs_3[Int.toNat 0]? = some x_4 → (∃ (xs_9 : List (Int)), PH m_23 x_4.2.2.2.1 xs_9 ∧ (∃ (xs_10 : List (Int × Int)), PH m_24 x_4.2.2.2.2.1 xs_10 ∧ (∃ (xs_11 : List (Int)), PH m_22 x_4.2.2.2.2.2 xs_11 ∧ (punch_Puncher_Hear_wp h_24 h_16 h_25 h_26 h_27 own_2 marks_5 mean_3 dev_3 any_3 now_5 (IntKind.wrap .i64 ((IntKind.wrap .i64 start) + (IntKind.wrap .i64 (3 * (Int.tmod (IntKind.wrap .i64 delay) 10))))) x_4.2.2.1 xs_9 xs_10 xs_11 m_22 m_23 m_24 (fun (rs_6 : List (Int × (Option Addr × Nat × Nat) × Int × (Option Addr × Nat × Nat) × (Option Addr × Nat × Nat) × (Option Addr × Nat × Nat))) (h_44 : Int) (h_45 : Int) (h_46 : Int) (h_47 : List (Int × Int)) (now_11 : Int) (marks_11 : List (Int × Int)) (mean_5 : Int) (dev_5 : Int) (any_5 : Bool) (m_25 : List ((Option Addr × Nat × Nat) × List (Int))) (m_26 : List ((Option Addr × Nat × Nat) × List (Int))) (m_27 : List ((Option Addr × Nat × Nat) × List (Int × Int))) => cond ((((rs_5.length : Nat) : Int) : Int) == 1) (cond ((((rs_6.length : Nat) : Int) : Int) == 1) (0 ≤ (0 : Int) ∧ (0 : Int) < ((rs_5.length : Nat) : Int) ∧ (∀ (x_5 : Int × (Option Addr × Nat × Nat) × Int × (Option Addr × Nat × Nat) × (Option Addr × Nat × Nat) × (Option Addr × Nat × Nat)), rs_5[Int.toNat 0]? = some x_5 → (cond ((x_5.1 : Int) == 1) (0 ≤ (0 : Int) ∧ (0 : Int) < ((rs_6.length : Nat) : Int) ∧ (∀ (x_6 : Int × (Option Addr × Nat × Nat) × Int × (Option Addr × Nat × Nat) × (Option Addr × Nat × Nat) × (Option Addr × Nat × Nat)), rs_6[Int.toNat 0]? = some x_6 → (cond ((x_6.1 : Int) == 1) (0 ≤ (0 : Int) ∧ (0 : Int) < ((rs_5.length : Nat) : Int) ∧ (∀ (x_7 : Int × (Option Addr × Nat × Nat) × Int × (Option Addr × Nat × Nat) × (Option Addr × Nat × Nat) × (Option Addr × Nat × Nat)), rs_5[Int.toNat 0]? = some x_7 → (∃ (xs_12 : List (Int × Int)), PH m_27 x_7.2.1 xs_12 ∧ (embrasureref27_Addrs_wp xs_12 ends_x_1 (fun (r_9 : Bool) => cond r_9 (0 ≤ (0 : Int) ∧ (0 : Int) < ((rs_6.length : Nat) : Int) ∧ (∀ (x_8 : Int × (Option Addr × Nat × Nat) × Int × (Option Addr × Nat × Nat) × (Option Addr × Nat × Nat) × (Option Addr × Nat × Nat)), rs_6[Int.toNat 0]? = some x_8 → (∃ (xs_13 : List (Int × Int)), PH m_27 x_8.2.1 xs_13 ∧ (embrasureref27_Addrs_wp xs_13 ends_x (fun (r_10 : Bool) => cond r_10 (punch_Puncher_State_wp h_41 h_21 h_42 h_43 h_31 mean_4 dev_4 any_4 now_10 (fun (r_11 : Int) (r_12 : Bool) (r_13 : Int) (r_14 : Int) (rs_7 : List (Int × Int)) => cond ((r_11 : Int) == 3) (punch_Puncher_State_wp h_44 h_16 h_45 h_46 h_47 mean_5 dev_5 any_5 now_11 (fun (r_15 : Int) (r_16 : Bool) (r_17 : Int) (r_18 : Int) (rs_8 : List (Int × Int)) => K ((r_15 : Int) == 3))) (K false))) (K false)))))) (K false)))))) (K false)))) (K false)))) (K false)) (K false))))))))) (fun (Q_5 : Int → Int → Int → Int → List (Int × Int) → List ((Option Addr × Nat × Nat) × List (Int)) → List ((Option Addr × Nat × Nat) × List (Int)) → List ((Option Addr × Nat × Nat) × List (Int × Int)) → Prop) => joinP9 (fun (h_35 : Int) (h_36 : Int) (h_37 : Int) (now_8 : Int) (marks_8 : List (Int × Int)) (t106 : Bool) (m_16 : List ((Option Addr × Nat × Nat) × List (Int))) (m_17 : List ((Option Addr × Nat × Nat) × List (Int))) (m_18 : List ((Option Addr × Nat × Nat) × List (Int × Int))) => cond t106 (K false) (Q_5 h_35 h_36 h_37 now_8 marks_8 m_16 m_17 m_18)) (fun (Q_6 : Int → Int → Int → Int → List (Int × Int) → Bool → List ((Option Addr × Nat × Nat) × List (Int)) → List ((Option Addr × Nat × Nat) × List (Int)) → List ((Option Addr × Nat × Nat) × List (Int × Int)) → Prop) => cond (decide (((Int.tmod (IntKind.wrap .i64 delay) 10) : Int) > 0)) (punch_Puncher_Tick_wp h_28 h_21 h_29 h_30 h_31 own_1 marks_6 mean_4 dev_4 any_4 now_6 (IntKind.wrap .i64 ((IntKind.wrap .i64 ((IntKind.wrap .i64 start) + (IntKind.wrap .i64 (3 * (Int.tmod (IntKind.wrap .i64 delay) 10))))) - 1)) m_10 m_11 m_12 (fun (rs_4 : List (Int × (Option Addr × Nat × Nat) × Int × (Option Addr × Nat × Nat) × (Option Addr × Nat × Nat) × (Option Addr × Nat × Nat))) (h_38 : Int) (h_39 : Int) (h_40 : Int) (now_9 : Int) (marks_9 : List (Int × Int)) (m_19 : List ((Option Addr × Nat × Nat) × List (Int))) (m_20 : List ((Option Addr × Nat × Nat) × List (Int))) (m_21 : List ((Option Addr × Nat × Nat) × List (Int × Int))) => Q_6 h_38 h_39 h_40 now_9 marks_9 ((((rs_4.length : Nat) : Int) : Int) != 0) m_19 m_20 m_21)) (Q_6 h_28 h_29 h_30 now_6 marks_6 false m_10 m_11 m_12))))))))))))))))))))) (fun (Q_4 : Bool → Prop) => cond ((r_6 : Int) != 0) (Q_4 true) (Q_4 ((r_8 : Int) != 0))))))) (fun (Q : Bool → Prop) => embrasurelaw27_May_wp ends_x (fun (r_1 : Bool) => cond (!r_1) (Q true) (embrasurelaw27_May_wp ends_x_1 (fun (r_2 : Bool) => Q (!r_2)))))))
theorem embrasurelaw27_PunchTogether_ok {p_1 : Option Addr} {n_1 : Nat} {c_1 : Nat} {p_2 : Option Addr} {n_2 : Nat} {c_2 : Nat} {ends_x : List (Int × Int)} {ends_x_1 : List (Int × Int)} {delay : Int} {start : Int} {FL : List HP} {w : World} {K : Bool → Prop} {R : Value → World → Prop}
  (hF_ends_x : ∀ w, Mem FL w → Rd w 2 p_1 enc55 ends_x) (hl_ends_x : n_1 = ends_x.length) (hc_ends_x : n_1 ≤ c_1)
  (hF_ends_x_1 : ∀ w, Mem FL w → Rd w 2 p_2 enc55 ends_x_1) (hl_ends_x_1 : n_2 = ends_x_1.length) (hc_ends_x_1 : n_2 ≤ c_2)
  (h : Mem (FL) w) (hp : embrasurelaw27_PunchTogether_wp ends_x ends_x_1 delay start K)
  (hR : ∀ (r : Bool) (w : World), Mem (FL) w → K r → R (Value.bool r) w) :
  CallV Try.prog 3 #[(Value.agg #[(Value.slice p_1 n_1 c_1), (Value.slice p_2 n_2 c_2)]), (Value.int .u8 delay), (Value.int .u16 start)] w R := by
  refine embrasurelaw27_PunchTogether_call ?_
  unfold embrasurelaw27_PunchTogether
  unfold embrasurelaw27_PunchTogether_wp at hp
  subst hl_ends_x
  subst hl_ends_x_1
  replace h := poolNil enc5 5 1 h
  replace h := poolNil enc52 52 1 h
  replace h := poolNil enc55 55 2 h
  refine newL (o := [(Value.slice p_1 ends_x.length c_1), (Value.slice p_2 ends_x_1.length c_2)]) h ?_
  intro b_1 w h
  refine embrasurelaw27_awake_ok h hp ?_
  intro r w h hp
  refine ⟨_, rfl, ?_⟩
  refine cond_both hp (fun hp => ?_) (fun hp => ?_)
  · replace h := h.sel [] 4
    dsimp only [pickL, pickR, nthH, delH, dropH, List.cons_append, List.nil_append] at h
    exact hR false _ h hp
  refine ⟨by decide, by decide, ?_⟩
  refine ⟨_, _, _, cellL h 0 0 rfl rfl rfl, ?_⟩
  refine ⟨by decide, by decide, ?_⟩
  refine ⟨_, _, _, cellL h 0 1 rfl rfl rfl, ?_⟩
  obtain ⟨Q, hq, hp⟩ := hp
  refine ⟨fun delay1 start2 a7p a7l a7c b8p b8l b8c t33 w => delay = delay1 ∧ start = start2 ∧ p_1 = a7p ∧ ends_x.length = a7l ∧ c_1 = a7c ∧ p_2 = b8p ∧ ends_x_1.length = b8l ∧ c_2 = b8c ∧ Q t33 ∧ Mem (cel b_1 23 [(Value.slice p_1 ends_x.length c_1), (Value.slice p_2 ends_x_1.length c_2)] :: poolP enc55 55 2 ([] : List ((Option Addr × Nat × Nat) × List (Int × Int))) :: poolP enc52 52 1 ([] : List ((Option Addr × Nat × Nat) × List (Int))) :: poolP enc5 5 1 ([] : List ((Option Addr × Nat × Nat) × List (Int))) :: FL) w, ?_, ?_⟩
  · rintro delay1 start2 a7p a7l a7c b8p b8l b8c t33 w ⟨rfl, rfl, rfl, rfl, rfl, rfl, rfl, rfl, hp, h⟩
    replace hp := hq t33 hp
    unfold embrasurelaw27_PunchTogether_j1
    refine cond_both hp (fun hp => ?_) (fun hp => ?_)
    · replace h := h.sel [] 4
      dsimp only [pickL, pickR, nthH, delH, dropH, List.cons_append, List.nil_append] at h
      exact hR true _ h hp
    refine punch_New_ok (FL := cel b_1 23 [(Value.slice p_1 ends_x.length c_1), (Value.slice p_2 ends_x_1.length c_2)] :: poolP enc55 55 2 ([] : List ((Option Addr × Nat × Nat) × List (Int × Int))) :: poolP enc52 52 1 ([] : List ((Option Addr × Nat × Nat) × List (Int))) :: poolP enc5 5 1 ([] : List ((Option Addr × Nat × Nat) × List (Int))) :: FL) (fun w h => (hF_ends_x _ (h.drop 4))) rfl hc_ends_x h hp ?_ ?_
    · intro r_3 w h hp
      refine ⟨_, _, rfl, ?_⟩
      refine ⟨_, rfl, ?_⟩
      refine ⟨_, rfl, ?_⟩
      refine punch_New_ok (FL := cel b_1 23 [(Value.slice p_1 ends_x.length c_1), (Value.slice p_2 ends_x_1.length c_2)] :: poolP enc55 55 2 ([] : List ((Option Addr × Nat × Nat) × List (Int × Int))) :: poolP enc52 52 1 ([] : List ((Option Addr × Nat × Nat) × List (Int))) :: poolP enc5 5 1 ([] : List ((Option Addr × Nat × Nat) × List (Int))) :: FL) (fun w h => (hF_ends_x_1 _ (h.drop 4))) rfl hc_ends_x_1 h hp ?_ ?_
      · intro r_4 w h hp
        refine ⟨_, _, rfl, ?_⟩
        refine ⟨_, rfl, ?_⟩
        refine ⟨_, rfl, ?_⟩
        obtain ⟨Q_1, hq, hp⟩ := hp
        refine ⟨fun delay1_1 start2_1 a7_1p a7_1l a7_1c b8_1p b8_1l b8_1c p9 q11 t57 w => delay = delay1_1 ∧ start = start2_1 ∧ p_1 = a7_1p ∧ ends_x.length = a7_1l ∧ c_1 = a7_1c ∧ p_2 = b8_1p ∧ ends_x_1.length = b8_1l ∧ c_2 = b8_1c ∧ none = p9 ∧ none = q11 ∧ Q_1 t57 ∧ Mem (cel b_1 23 [(Value.slice p_1 ends_x.length c_1), (Value.slice p_2 ends_x_1.length c_2)] :: poolP enc55 55 2 ([] : List ((Option Addr × Nat × Nat) × List (Int × Int))) :: poolP enc52 52 1 ([] : List ((Option Addr × Nat × Nat) × List (Int))) :: poolP enc5 5 1 ([] : List ((Option Addr × Nat × Nat) × List (Int))) :: FL) w, ?_, ?_⟩
        · rintro delay1_1 start2_1 a7_1p a7_1l a7_1c b8_1p b8_1l b8_1c p9 q11 t57 w ⟨rfl, rfl, rfl, rfl, rfl, rfl, rfl, rfl, rfl, rfl, hp, h⟩
          replace hp := hq t57 hp
          unfold embrasurelaw27_PunchTogether_j2
          refine cond_both' hp (fun hp => ?_) (fun hp => ?_)
          · refine ⟨by decide, ?_⟩
            exact hp.elim
          replace h := h.sel [] 4
          dsimp only [pickL, pickR, nthH, delH, dropH, List.cons_append, List.nil_append] at h
          exact hR false _ h hp
        clear hq
        refine eqlPtrNN undP27 ?_
        refine ⟨_, rfl, ?_⟩
        refine cond_tt ?_
        exact ⟨rfl, rfl, rfl, rfl, rfl, rfl, rfl, rfl, rfl, rfl, hp, h⟩
      rintro r_5 h_1 h_2 h_3 h_4 h_5 own marks mean dev any now b_2 p_3 n_3 c_3 p_4 n_4 c_4 b_3 p_5 n_5 c_5 w rfl rfl rfl h hp
      have cpp_3 := rowCap h 1 rfl
      have cpp_4 := rowCap h 2 rfl
      have cpp_5 := rowCap h 4 rfl
      refine ⟨_, _, rfl, ?_⟩
      refine ⟨_, rfl, ?_⟩
      refine ⟨_, rfl, ?_⟩
      obtain ⟨Q_2, hq, hp⟩ := hp
      refine ⟨fun delay1_2 start2_2 a7_2p a7_2l a7_2c b8_2p b8_2l b8_2c p9_1 q11_1 t57_1 w => delay = delay1_2 ∧ start = start2_2 ∧ p_1 = a7_2p ∧ ends_x.length = a7_2l ∧ c_1 = a7_2c ∧ p_2 = b8_2p ∧ ends_x_1.length = b8_2l ∧ c_2 = b8_2c ∧ none = p9_1 ∧ (some (Addr.mk b_2 0 none)) = q11_1 ∧ Q_2 t57_1 ∧ Mem (cel b_2 64 [(Value.int .i64 h_1), (Value.bool h_2), (Value.int .i64 h_3), (Value.int .i64 h_4), (Value.slice p_3 h_5.length c_3), (Value.slice p_4 own.length c_4), (Value.pointer (some (Addr.mk b_3 0 none))), (Value.int .i64 now)] :: row enc55 55 2 p_3 c_3 h_5 :: row enc55 55 2 p_4 c_4 own :: cel b_3 74 [(Value.slice p_5 marks.length c_5), (Value.int .i64 mean), (Value.int .i64 dev), (Value.bool any)] :: row enc86 86 2 p_5 c_5 marks :: cel b_1 23 [(Value.slice p_1 ends_x.length c_1), (Value.slice p_2 ends_x_1.length c_2)] :: poolP enc55 55 2 ([] : List ((Option Addr × Nat × Nat) × List (Int × Int))) :: poolP enc52 52 1 ([] : List ((Option Addr × Nat × Nat) × List (Int))) :: poolP enc5 5 1 ([] : List ((Option Addr × Nat × Nat) × List (Int))) :: FL) w, ?_, ?_⟩
      · rintro delay1_2 start2_2 a7_2p a7_2l a7_2c b8_2p b8_2l b8_2c p9_1 q11_1 t57_1 w ⟨rfl, rfl, rfl, rfl, rfl, rfl, rfl, rfl, rfl, rfl, hp, h⟩
        replace hp := hq t57_1 hp
        unfold embrasurelaw27_PunchTogether_j2
        refine cond_both' hp (fun hp => ?_) (fun hp => ?_)
        · refine ⟨by decide, ?_⟩
          exact hp.elim
        replace h := h.sel [] 9
        dsimp only [pickL, pickR, nthH, delH, dropH, List.cons_append, List.nil_append] at h
        exact hR false _ h hp
      clear hq
      refine eqlPtrNN undP27 ?_
      refine ⟨_, rfl, ?_⟩
      refine cond_tt ?_
      exact ⟨rfl, rfl, rfl, rfl, rfl, rfl, rfl, rfl, rfl, rfl, hp, h⟩
    rintro r_6 h_6 h_7 h_8 h_9 h_10 own_1 marks_1 mean_1 dev_1 any_1 now_1 b_4 p_6 n_6 c_6 p_7 n_7 c_7 b_5 p_8 n_8 c_8 w rfl rfl rfl h hp
    have cpp_6 := rowCap h 1 rfl
    have cpp_7 := rowCap h 2 rfl
    have cpp_8 := rowCap h 4 rfl
    refine ⟨_, _, rfl, ?_⟩
    refine ⟨_, rfl, ?_⟩
    refine ⟨_, rfl, ?_⟩
    refine punch_New_ok (FL := cel b_4 64 [(Value.int .i64 h_6), (Value.bool h_7), (Value.int .i64 h_8), (Value.int .i64 h_9), (Value.slice p_6 h_10.length c_6), (Value.slice p_7 own_1.length c_7), (Value.pointer (some (Addr.mk b_5 0 none))), (Value.int .i64 now_1)] :: row enc55 55 2 p_6 c_6 h_10 :: row enc55 55 2 p_7 c_7 own_1 :: cel b_5 74 [(Value.slice p_8 marks_1.length c_8), (Value.int .i64 mean_1), (Value.int .i64 dev_1), (Value.bool any_1)] :: row enc86 86 2 p_8 c_8 marks_1 :: cel b_1 23 [(Value.slice p_1 ends_x.length c_1), (Value.slice p_2 ends_x_1.length c_2)] :: poolP enc55 55 2 ([] : List ((Option Addr × Nat × Nat) × List (Int × Int))) :: poolP enc52 52 1 ([] : List ((Option Addr × Nat × Nat) × List (Int))) :: poolP enc5 5 1 ([] : List ((Option Addr × Nat × Nat) × List (Int))) :: FL) (fun w h => (hF_ends_x_1 _ (h.drop 9))) rfl hc_ends_x_1 h hp ?_ ?_
    · intro r_7 w h hp
      refine ⟨_, _, rfl, ?_⟩
      refine ⟨_, rfl, ?_⟩
      refine ⟨_, rfl, ?_⟩
      obtain ⟨Q_3, hq, hp⟩ := hp
      refine ⟨fun delay1_3 start2_3 a7_3p a7_3l a7_3c b8_3p b8_3l b8_3c p9_2 q11_2 t57_2 w => delay = delay1_3 ∧ start = start2_3 ∧ p_1 = a7_3p ∧ ends_x.length = a7_3l ∧ c_1 = a7_3c ∧ p_2 = b8_3p ∧ ends_x_1.length = b8_3l ∧ c_2 = b8_3c ∧ (some (Addr.mk b_4 0 none)) = p9_2 ∧ none = q11_2 ∧ Q_3 t57_2 ∧ Mem (cel b_4 64 [(Value.int .i64 h_6), (Value.bool h_7), (Value.int .i64 h_8), (Value.int .i64 h_9), (Value.slice p_6 h_10.length c_6), (Value.slice p_7 own_1.length c_7), (Value.pointer (some (Addr.mk b_5 0 none))), (Value.int .i64 now_1)] :: row enc55 55 2 p_6 c_6 h_10 :: row enc55 55 2 p_7 c_7 own_1 :: cel b_5 74 [(Value.slice p_8 marks_1.length c_8), (Value.int .i64 mean_1), (Value.int .i64 dev_1), (Value.bool any_1)] :: row enc86 86 2 p_8 c_8 marks_1 :: cel b_1 23 [(Value.slice p_1 ends_x.length c_1), (Value.slice p_2 ends_x_1.length c_2)] :: poolP enc55 55 2 ([] : List ((Option Addr × Nat × Nat) × List (Int × Int))) :: poolP enc52 52 1 ([] : List ((Option Addr × Nat × Nat) × List (Int))) :: poolP enc5 5 1 ([] : List ((Option Addr × Nat × Nat) × List (Int))) :: FL) w, ?_, ?_⟩
      · rintro delay1_3 start2_3 a7_3p a7_3l a7_3c b8_3p b8_3l b8_3c p9_2 q11_2 t57_2 w ⟨rfl, rfl, rfl, rfl, rfl, rfl, rfl, rfl, rfl, rfl, hp, h⟩
        replace hp := hq t57_2 hp
        unfold embrasurelaw27_PunchTogether_j2
        refine cond_both hp (fun hp => ?_) (fun hp => ?_)
        · replace h := h.sel [] 9
          dsimp only [pickL, pickR, nthH, delH, dropH, List.cons_append, List.nil_append] at h
          exact hR false _ h hp
        refine ⟨by decide, ?_⟩
        replace h := h.pick [0, 1, 1, 1, 4, 3, 2]
        dsimp only [pickL, pickR, nthH, delH, dropH, List.cons_append, List.nil_append] at h
        refine punch_Puncher_Begin_ok h hp ?_
        rintro rs h_11 h_12 h_13 h_14 now_2 marks_2 m_1 m_2 m_3 p_9 n_9 c_9 p_10 n_10 c_10 w rfl rfl h hp
        have cpp_9 := rowCap h 0 rfl
        have cpp_7 := rowCap h 2 rfl
        have cpp_10 := rowCap h 4 rfl
        refine ⟨_, _, _, rfl, ?_⟩
        refine cond_both hp (fun hp => ?_) (fun hp => ?_)
        · replace h := h.sel [] 10
          dsimp only [pickL, pickR, nthH, delH, dropH, List.cons_append, List.nil_append] at h
          exact hR false _ h hp
        obtain ⟨ia_1, ja_1, hp⟩ := hp
        obtain ⟨a_1, ha_1⟩ := rdAddr (rowRd h 0 encL39 rfl) rfl ia_1 ja_1
        refine ⟨a_1, ha_1, ia_1, ja_1, ?_⟩
        obtain ⟨x_1, hx_1, hc⟩ := rdCell2 (rowRd h 0 encL39 rfl) ha_1 rfl ia_1 ja_1
        replace hp := hp x_1 hx_1
        refine ⟨_, hc 2 0 _ rfl, _, _, _, hc 2 1 _ rfl, _, _, _, hc 2 2 _ rfl, _, _, _, hc 2 3 _ rfl, ?_⟩
        exact hp.elim
      clear hq
      refine eqlPtrNil undP27 ?_
      refine ⟨_, rfl, ?_⟩
      refine cond_ff ?_
      refine eqlPtrNN undP27 ?_
      refine ⟨_, rfl, ?_⟩
      refine cond_tt ?_
      exact ⟨rfl, rfl, rfl, rfl, rfl, rfl, rfl, rfl, rfl, rfl, hp, h⟩
    rintro r_8 h_15 h_16 h_17 h_18 h_19 own_2 marks_3 mean_2 dev_2 any_2 now_3 b_6 p_11 n_11 c_11 p_12 n_12 c_12 b_7 p_13 n_13 c_13 w rfl rfl rfl h hp
    have cpp_11 := rowCap h 1 rfl
    have cpp_12 := rowCap h 2 rfl
    have cpp_13 := rowCap h 4 rfl
    refine ⟨_, _, rfl, ?_⟩
    refine ⟨_, rfl, ?_⟩
    refine ⟨_, rfl, ?_⟩
    obtain ⟨Q_4, hq, hp⟩ := hp
    refine ⟨fun delay1_4 start2_4 a7_4p a7_4l a7_4c b8_4p b8_4l b8_4c p9_3 q11_3 t57_3 w => delay = delay1_4 ∧ start = start2_4 ∧ p_1 = a7_4p ∧ ends_x.length = a7_4l ∧ c_1 = a7_4c ∧ p_2 = b8_4p ∧ ends_x_1.length = b8_4l ∧ c_2 = b8_4c ∧ (some (Addr.mk b_4 0 none)) = p9_3 ∧ (some (Addr.mk b_6 0 none)) = q11_3 ∧ Q_4 t57_3 ∧ Mem (cel b_6 64 [(Value.int .i64 h_15), (Value.bool h_16), (Value.int .i64 h_17), (Value.int .i64 h_18), (Value.slice p_11 h_19.length c_11), (Value.slice p_12 own_2.length c_12), (Value.pointer (some (Addr.mk b_7 0 none))), (Value.int .i64 now_3)] :: row enc55 55 2 p_11 c_11 h_19 :: row enc55 55 2 p_12 c_12 own_2 :: cel b_7 74 [(Value.slice p_13 marks_3.length c_13), (Value.int .i64 mean_2), (Value.int .i64 dev_2), (Value.bool any_2)] :: row enc86 86 2 p_13 c_13 marks_3 :: cel b_4 64 [(Value.int .i64 h_6), (Value.bool h_7), (Value.int .i64 h_8), (Value.int .i64 h_9), (Value.slice p_6 h_10.length c_6), (Value.slice p_7 own_1.length c_7), (Value.pointer (some (Addr.mk b_5 0 none))), (Value.int .i64 now_1)] :: row enc55 55 2 p_6 c_6 h_10 :: row enc55 55 2 p_7 c_7 own_1 :: cel b_5 74 [(Value.slice p_8 marks_1.length c_8), (Value.int .i64 mean_1), (Value.int .i64 dev_1), (Value.bool any_1)] :: row enc86 86 2 p_8 c_8 marks_1 :: cel b_1 23 [(Value.slice p_1 ends_x.length c_1), (Value.slice p_2 ends_x_1.length c_2)] :: poolP enc55 55 2 ([] : List ((Option Addr × Nat × Nat) × List (Int × Int))) :: poolP enc52 52 1 ([] : List ((Option Addr × Nat × Nat) × List (Int))) :: poolP enc5 5 1 ([] : List ((Option Addr × Nat × Nat) × List (Int))) :: FL) w, ?_, ?_⟩
    · rintro delay1_4 start2_4 a7_4p a7_4l a7_4c b8_4p b8_4l b8_4c p9_3 q11_3 t57_3 w ⟨rfl, rfl, rfl, rfl, rfl, rfl, rfl, rfl, rfl, rfl, hp, h⟩
      replace hp := hq t57_3 hp
      unfold embrasurelaw27_PunchTogether_j2
      refine cond_both hp (fun hp => ?_) (fun hp => ?_)
      · replace h := h.sel [] 14
        dsimp only [pickL, pickR, nthH, delH, dropH, List.cons_append, List.nil_append] at h
        exact hR false _ h hp
      refine ⟨by decide, ?_⟩
      replace h := h.pick [5, 6, 6, 6, 9, 8, 7]
      dsimp only [pickL, pickR, nthH, delH, dropH, List.cons_append, List.nil_append] at h
      refine punch_Puncher_Begin_ok h hp ?_
      rintro rs_1 h_20 h_21 h_22 h_23 now_4 marks_4 m_4 m_5 m_6 p_14 n_14 c_14 p_15 n_15 c_15 w rfl rfl h hp
      have cpp_14 := rowCap h 0 rfl
      have cpp_7 := rowCap h 2 rfl
      have cpp_15 := rowCap h 4 rfl
      refine ⟨_, _, _, rfl, ?_⟩
      refine cond_both hp (fun hp => ?_) (fun hp => ?_)
      · replace h := h.sel [] 15
        dsimp only [pickL, pickR, nthH, delH, dropH, List.cons_append, List.nil_append] at h
        exact hR false _ h hp
      obtain ⟨ia_2, ja_2, hp⟩ := hp
      obtain ⟨a_2, ha_2⟩ := rdAddr (rowRd h 0 encL39 rfl) rfl ia_2 ja_2
      refine ⟨a_2, ha_2, ia_2, ja_2, ?_⟩
      obtain ⟨x_2, hx_2, hc⟩ := rdCell2 (rowRd h 0 encL39 rfl) ha_2 rfl ia_2 ja_2
      replace hp := hp x_2 hx_2
      refine ⟨_, hc 2 0 _ rfl, _, _, _, hc 2 1 _ rfl, _, _, _, hc 2 2 _ rfl, _, _, _, hc 2 3 _ rfl, ?_⟩
      obtain ⟨xs_3, hq_xs_3, hp⟩ := hp
      have hl_xs_3 := poolLen h 6 rfl hq_xs_3
      have hc_xs_3 := poolCap h 6 rfl hq_xs_3
      obtain ⟨xs_4, hq_xs_4, hp⟩ := hp
      have hl_xs_4 := poolLen h 7 rfl hq_xs_4
      have hc_xs_4 := poolCap h 7 rfl hq_xs_4
      obtain ⟨xs_5, hq_xs_5, hp⟩ := hp
      have hl_xs_5 := poolLen h 5 rfl hq_xs_5
      have hc_xs_5 := poolCap h 5 rfl hq_xs_5
      replace h := h.pick [8, 8, 8, 8, 8, 5, 5, 5]
      dsimp only [pickL, pickR, nthH, delH, dropH, List.cons_append, List.nil_append] at h
      refine punch_Puncher_Hear_ok (FL := row enc39 39 6 p_14 c_14 rs_1 :: cel b_4 64 [(Value.int .i64 h_20), (Value.bool h_21), (Value.int .i64 h_22), (Value.int .i64 h_23), (Value.slice p_6 h_10.length c_6), (Value.slice p_7 own_1.length c_7), (Value.pointer (some (Addr.mk b_5 0 none))), (Value.int .i64 now_4)] :: row enc55 55 2 p_7 c_7 own_1 :: cel b_5 74 [(Value.slice p_15 marks_4.length c_15), (Value.int .i64 mean_1), (Value.int .i64 dev_1), (Value.bool any_1)] :: row enc86 86 2 p_15 c_15 marks_4 :: row enc55 55 2 p_6 c_6 h_10 :: cel b_1 23 [(Value.slice p_1 ends_x.length c_1), (Value.slice p_2 ends_x_1.length c_2)] :: FL) (fun w h => (poolRd h 1 encL52 rfl hq_xs_3)) hl_xs_3 hc_xs_3 (fun w h => (poolRd h 2 encL55 rfl hq_xs_4)) hl_xs_4 hc_xs_4 (fun w h => (poolRd h 0 encL5 rfl hq_xs_5)) hl_xs_5 hc_xs_5 h hp ?_
      rintro rs_2 h_24 h_25 h_26 h_27 now_5 marks_5 mean_3 dev_3 any_3 m_7 m_8 m_9 p_16 n_16 c_16 p_17 n_17 c_17 p_18 n_18 c_18 w rfl rfl rfl h hp
      have cpp_16 := rowCap h 0 rfl
      have cpp_17 := rowCap h 2 rfl
      have cpp_12 := rowCap h 3 rfl
      have cpp_18 := rowCap h 5 rfl
      refine ⟨_, _, _, rfl, ?_⟩
      refine cond_both hp (fun hp => ?_) (fun hp => ?_)
      · replace h := h.sel [] 16
        dsimp only [pickL, pickR, nthH, delH, dropH, List.cons_append, List.nil_append] at h
        exact hR false _ h hp
      obtain ⟨ia_3, ja_3, hp⟩ := hp
      obtain ⟨a_3, ha_3⟩ := rdAddr (rowRd h 0 encL39 rfl) rfl ia_3 ja_3
      refine ⟨a_3, ha_3, ia_3, ja_3, ?_⟩
      obtain ⟨x_3, hx_3, hc⟩ := rdCell2 (rowRd h 0 encL39 rfl) ha_3 rfl ia_3 ja_3
      replace hp := hp x_3 hx_3
      refine ⟨_, hc 2 0 _ rfl, _, _, _, hc 2 1 _ rfl, _, _, _, hc 2 2 _ rfl, _, _, _, hc 2 3 _ rfl, ?_⟩
      obtain ⟨xs_6, hq_xs_6, hp⟩ := hp
      have hl_xs_6 := poolLen h 7 rfl hq_xs_6
      have hc_xs_6 := poolCap h 7 rfl hq_xs_6
      obtain ⟨xs_7, hq_xs_7, hp⟩ := hp
      have hl_xs_7 := poolLen h 8 rfl hq_xs_7
      have hc_xs_7 := poolCap h 8 rfl hq_xs_7
      obtain ⟨xs_8, hq_xs_8, hp⟩ := hp
      have hl_xs_8 := poolLen h 6 rfl hq_xs_8
      have hc_xs_8 := poolCap h 6 rfl hq_xs_8
      replace h := h.pick [10, 13, 10, 10, 10, 6, 6, 6]
      dsimp only [pickL, pickR, nthH, delH, dropH, List.cons_append, List.nil_append] at h
      refine punch_Puncher_Hear_ok (FL := row enc39 39 6 p_16 c_16 rs_2 :: cel b_6 64 [(Value.int .i64 h_24), (Value.bool h_16), (Value.int .i64 h_25), (Value.int .i64 h_26), (Value.slice p_17 h_27.length c_17), (Value.slice p_12 own_2.length c_12), (Value.pointer (some (Addr.mk b_7 0 none))), (Value.int .i64 now_5)] :: row enc55 55 2 p_17 c_17 h_27 :: row enc55 55 2 p_12 c_12 own_2 :: cel b_7 74 [(Value.slice p_18 marks_5.length c_18), (Value.int .i64 mean_3), (Value.int .i64 dev_3), (Value.bool any_3)] :: row enc86 86 2 p_18 c_18 marks_5 :: row enc39 39 6 p_14 c_14 rs_1 :: cel b_1 23 [(Value.slice p_1 ends_x.length c_1), (Value.slice p_2 ends_x_1.length c_2)] :: FL) (fun w h => (poolRd h 1 encL52 rfl hq_xs_6)) hl_xs_6 hc_xs_6 (fun w h => (poolRd h 2 encL55 rfl hq_xs_7)) hl_xs_7 hc_xs_7 (fun w h => (poolRd h 0 encL5 rfl hq_xs_8)) hl_xs_8 hc_xs_8 h hp ?_
      rintro rs_3 h_28 h_29 h_30 h_31 now_6 marks_6 mean_4 dev_4 any_4 m_10 m_11 m_12 p_19 n_19 c_19 p_20 n_20 c_20 p_21 n_21 c_21 w rfl rfl rfl h hp
      have cpp_19 := rowCap h 0 rfl
      have cpp_20 := rowCap h 2 rfl
      have cpp_7 := rowCap h 3 rfl
      have cpp_21 := rowCap h 5 rfl
      refine ⟨_, _, _, rfl, ?_⟩
      refine cond_both hp (fun hp => ?_) (fun hp => ?_)
      · replace h := h.sel [] 17
        dsimp only [pickL, pickR, nthH, delH, dropH, List.cons_append, List.nil_append] at h
        exact hR false _ h hp
      obtain ⟨Q_5, hq, hp⟩ := hp
      refine ⟨fun a7_5p a7_5l a7_5c b8_5p b8_5l b8_5c p9_4 q11_4 d13 t14 z17p z17l z17c w => ∃ (h_32 : Int), ∃ (h_33 : Int), ∃ (h_34 : Int), ∃ (now_7 : Int), ∃ (marks_7 : List (Int × Int)), ∃ (p_22 : Option Addr), ∃ (n_22 : Nat), ∃ (c_22 : Nat), ∃ (m_13 : List ((Option Addr × Nat × Nat) × List (Int))), ∃ (m_14 : List ((Option Addr × Nat × Nat) × List (Int))), ∃ (m_15 : List ((Option Addr × Nat × Nat) × List (Int × Int))), p_1 = a7_5p ∧ ends_x.length = a7_5l ∧ c_1 = a7_5c ∧ p_2 = b8_5p ∧ ends_x_1.length = b8_5l ∧ c_2 = b8_5c ∧ (some (Addr.mk b_4 0 none)) = p9_4 ∧ (some (Addr.mk b_6 0 none)) = q11_4 ∧ (Int.tmod (IntKind.wrap .i64 delay) 10) = d13 ∧ (IntKind.wrap .i64 start) = t14 ∧ p_19 = z17p ∧ rs_3.length = z17l ∧ c_19 = z17c ∧ n_22 = marks_7.length ∧ Q_5 h_32 h_33 h_34 now_7 marks_7 m_13 m_14 m_15 ∧ Mem (cel b_4 64 [(Value.int .i64 h_32), (Value.bool h_21), (Value.int .i64 h_33), (Value.int .i64 h_34), (Value.slice p_20 h_31.length c_20), (Value.slice p_7 own_1.length c_7), (Value.pointer (some (Addr.mk b_5 0 none))), (Value.int .i64 now_7)] :: row enc55 55 2 p_20 c_20 h_31 :: row enc55 55 2 p_7 c_7 own_1 :: cel b_5 74 [(Value.slice p_22 n_22 c_22), (Value.int .i64 mean_4), (Value.int .i64 dev_4), (Value.bool any_4)] :: row enc86 86 2 p_22 c_22 marks_7 :: cel b_6 64 [(Value.int .i64 h_24), (Value.bool h_16), (Value.int .i64 h_25), (Value.int .i64 h_26), (Value.slice p_17 h_27.length c_17), (Value.slice p_12 own_2.length c_12), (Value.pointer (some (Addr.mk b_7 0 none))), (Value.int .i64 now_5)] :: row enc55 55 2 p_17 c_17 h_27 :: row enc55 55 2 p_12 c_12 own_2 :: cel b_7 74 [(Value.slice p_18 marks_5.length c_18), (Value.int .i64 mean_3), (Value.int .i64 dev_3), (Value.bool any_3)] :: row enc86 86 2 p_18 c_18 marks_5 :: cel b_1 23 [(Value.slice p_1 ends_x.length c_1), (Value.slice p_2 ends_x_1.length c_2)] :: poolP enc5 5 1 m_13 :: poolP enc52 52 1 m_14 :: poolP enc55 55 2 m_15 :: row enc39 39 6 p_19 c_19 rs_3 :: FL) w, ?_, ?_⟩
      · rintro a7_5p a7_5l a7_5c b8_5p b8_5l b8_5c p9_4 q11_4 d13 t14 z17p z17l z17c w ⟨h_32, h_33, h_34, now_7, marks_7, p_22, n_22, c_22, m_13, m_14, m_15, rfl, rfl, rfl, rfl, rfl, rfl, rfl, rfl, rfl, rfl, rfl, rfl, rfl, rfl, hp, h⟩
        replace hp := hq h_32 h_33 h_34 now_7 marks_7 m_13 m_14 m_15 hp
        unfold embrasurelaw27_PunchTogether_j3
        have cpp_22 := rowCap h 4 rfl
        replace h := h.pick [0, 0, 0, 0, 0, 6, 6, 6]
        dsimp only [pickL, pickR, nthH, delH, dropH, List.cons_append, List.nil_append] at h
        refine punch_Puncher_Tick_ok h hp ?_
        rintro rs_5 h_41 h_42 h_43 now_10 marks_10 m_22 m_23 m_24 p_26 n_26 c_26 p_27 n_27 c_27 w rfl rfl h hp
        have cpp_26 := rowCap h 0 rfl
        have cpp_20 := rowCap h 2 rfl
        have cpp_7 := rowCap h 3 rfl
        have cpp_27 := rowCap h 5 rfl
        refine ⟨_, _, _, rfl, ?_⟩
        obtain ⟨ia_4, ja_4, hp⟩ := hp
        obtain ⟨a_4, ha_4⟩ := rdAddr (rowRd h 15 encL39 rfl) rfl ia_4 ja_4
        refine ⟨a_4, ha_4, ia_4, ja_4, ?_⟩
        obtain ⟨x_4, hx_4, hc⟩ := rdCell2 (rowRd h 15 encL39 rfl) ha_4 rfl ia_4 ja_4
        replace hp := hp x_4 hx_4
        refine ⟨_, hc 2 0 _ rfl, _, _, _, hc 2 1 _ rfl, _, _, _, hc 2 2 _ rfl, _, _, _, hc 2 3 _ rfl, ?_⟩
        obtain ⟨xs_9, hq_xs_9, hp⟩ := hp
        have hl_xs_9 := poolLen h 7 rfl hq_xs_9
        have hc_xs_9 := poolCap h 7 rfl hq_xs_9
        obtain ⟨xs_10, hq_xs_10, hp⟩ := hp
        have hl_xs_10 := poolLen h 8 rfl hq_xs_10
        have hc_xs_10 := poolCap h 8 rfl hq_xs_10
        obtain ⟨xs_11, hq_xs_11, hp⟩ := hp
        have hl_xs_11 := poolLen h 6 rfl hq_xs_11
        have hc_xs_11 := poolCap h 6 rfl hq_xs_11
        replace h := h.pick [9, 9, 9, 9, 9, 6, 6, 6]
        dsimp only [pickL, pickR, nthH, delH, dropH, List.cons_append, List.nil_append] at h
        refine punch_Puncher_Hear_ok (FL := row enc39 39 6 p_26 c_26 rs_5 :: cel b_4 64 [(Value.int .i64 h_41), (Value.bool h_21), (Value.int .i64 h_42), (Value.int .i64 h_43), (Value.slice p_20 h_31.length c_20), (Value.slice p_7 own_1.length c_7), (Value.pointer (some (Addr.mk b_5 0 none))), (Value.int .i64 now_10)] :: row enc55 55 2 p_20 c_20 h_31 :: row enc55 55 2 p_7 c_7 own_1 :: cel b_5 74 [(Value.slice p_27 marks_10.length c_27), (Value.int .i64 mean_4), (Value.int .i64 dev_4), (Value.bool any_4)] :: row enc86 86 2 p_27 c_27 marks_10 :: cel b_1 23 [(Value.slice p_1 ends_x.length c_1), (Value.slice p_2 ends_x_1.length c_2)] :: row enc39 39 6 p_19 c_19 rs_3 :: FL) (fun w h => (poolRd h 1 encL52 rfl hq_xs_9)) hl_xs_9 hc_xs_9 (fun w h => (poolRd h 2 encL55 rfl hq_xs_10)) hl_xs_10 hc_xs_10 (fun w h => (poolRd h 0 encL5 rfl hq_xs_11)) hl_xs_11 hc_xs_11 h hp ?_
        rintro rs_6 h_44 h_45 h_46 h_47 now_11 marks_11 mean_5 dev_5 any_5 m_25 m_26 m_27 p_28 n_28 c_28 p_29 n_29 c_29 p_30 n_30 c_30 w rfl rfl rfl h hp
        have cpp_28 := rowCap h 0 rfl
        have cpp_29 := rowCap h 2 rfl
        have cpp_12 := rowCap h 3 rfl
        have cpp_30 := rowCap h 5 rfl
        refine ⟨_, _, _, rfl, ?_⟩
        refine cond_both' hp (fun hp => ?_) (fun hp => ?_)
        · replace h := h.sel [] 17
          dsimp only [pickL, pickR, nthH, delH, dropH, List.cons_append, List.nil_append] at h
          exact hR false _ h hp
        refine cond_both' hp (fun hp => ?_) (fun hp => ?_)
        · replace h := h.sel [] 17
          dsimp only [pickL, pickR, nthH, delH, dropH, List.cons_append, List.nil_append] at h
          exact hR false _ h hp
        obtain ⟨ia_5, ja_5, hp⟩ := hp
        obtain ⟨a_5, ha_5⟩ := rdAddr (rowRd h 9 encL39 rfl) rfl ia_5 ja_5
        refine ⟨a_5, ha_5, ia_5, ja_5, ?_⟩
        obtain ⟨x_5, hx_5, hc⟩ := rdCell (rowRd h 9 encL39 rfl) ha_5 rfl ia_5 ja_5
        replace hp := hp x_5 hx_5
        refine ⟨_, hc 0 _ rfl, ?_⟩
        refine cond_both' hp (fun hp => ?_) (fun hp => ?_)
        · replace h := h.sel [] 17
          dsimp only [pickL, pickR, nthH, delH, dropH, List.cons_append, List.nil_append] at h
          exact hR false _ h hp
        obtain ⟨ia_6, ja_6, hp⟩ := hp
        obtain ⟨a_6, ha_6⟩ := rdAddr (rowRd h 0 encL39 rfl) rfl ia_6 ja_6
        refine ⟨a_6, ha_6, ia_6, ja_6, ?_⟩
        obtain ⟨x_6, hx_6, hc⟩ := rdCell (rowRd h 0 encL39 rfl) ha_6 rfl ia_6 ja_6
        replace hp := hp x_6 hx_6
        refine ⟨_, hc 0 _ rfl, ?_⟩
        refine cond_both' hp (fun hp => ?_) (fun hp => ?_)
        · replace h := h.sel [] 17
          dsimp only [pickL, pickR, nthH, delH, dropH, List.cons_append, List.nil_append] at h
          exact hR false _ h hp
        obtain ⟨ia_7, ja_7, hp⟩ := hp
        obtain ⟨a_7, ha_7⟩ := rdAddr (rowRd h 9 encL39 rfl) rfl ia_7 ja_7
        refine ⟨a_7, ha_7, ia_7, ja_7, ?_⟩
        obtain ⟨x_7, hx_7, hc⟩ := rdCell (rowRd h 9 encL39 rfl) ha_7 rfl ia_7 ja_7
        replace hp := hp x_7 hx_7
        refine ⟨_, _, _, hc 1 _ rfl, ?_⟩
        obtain ⟨xs_12, hq_xs_12, hp⟩ := hp
        have hl_xs_12 := poolLen h 8 rfl hq_xs_12
        have hc_xs_12 := poolCap h 8 rfl hq_xs_12
        refine embrasureref27_Addrs_ok (FL := row enc39 39 6 p_28 c_28 rs_6 :: cel b_6 64 [(Value.int .i64 h_44), (Value.bool h_16), (Value.int .i64 h_45), (Value.int .i64 h_46), (Value.slice p_29 h_47.length c_29), (Value.slice p_12 own_2.length c_12), (Value.pointer (some (Addr.mk b_7 0 none))), (Value.int .i64 now_11)] :: row enc55 55 2 p_29 c_29 h_47 :: row enc55 55 2 p_12 c_12 own_2 :: cel b_7 74 [(Value.slice p_30 marks_11.length c_30), (Value.int .i64 mean_5), (Value.int .i64 dev_5), (Value.bool any_5)] :: row enc86 86 2 p_30 c_30 marks_11 :: poolP enc5 5 1 m_25 :: poolP enc52 52 1 m_26 :: poolP enc55 55 2 m_27 :: row enc39 39 6 p_26 c_26 rs_5 :: cel b_4 64 [(Value.int .i64 h_41), (Value.bool h_21), (Value.int .i64 h_42), (Value.int .i64 h_43), (Value.slice p_20 h_31.length c_20), (Value.slice p_7 own_1.length c_7), (Value.pointer (some (Addr.mk b_5 0 none))), (Value.int .i64 now_10)] :: row enc55 55 2 p_20 c_20 h_31 :: row enc55 55 2 p_7 c_7 own_1 :: cel b_5 74 [(Value.slice p_27 marks_10.length c_27), (Value.int .i64 mean_4), (Value.int .i64 dev_4), (Value.bool any_4)] :: row enc86 86 2 p_27 c_27 marks_10 :: cel b_1 23 [(Value.slice p_1 ends_x.length c_1), (Value.slice p_2 ends_x_1.length c_2)] :: row enc39 39 6 p_19 c_19 rs_3 :: FL) (fun w h => (poolRd h 8 encL55 rfl hq_xs_12)) hl_xs_12 hc_xs_12 (fun w h => (hF_ends_x_1 _ (h.drop 17))) rfl hc_ends_x_1 h hp ?_
        intro r_9 w h hp
        refine ⟨_, rfl, ?_⟩
        refine cond_both' hp (fun hp => ?_) (fun hp => ?_)
        · replace h := h.sel [] 17
          dsimp only [pickL, pickR, nthH, delH, dropH, List.cons_append, List.nil_append] at h
          exact hR false _ h hp
        obtain ⟨ia_8, ja_8, hp⟩ := hp
        obtain ⟨a_8, ha_8⟩ := rdAddr (rowRd h 0 encL39 rfl) rfl ia_8 ja_8
        refine ⟨a_8, ha_8, ia_8, ja_8, ?_⟩
        obtain ⟨x_8, hx_8, hc⟩ := rdCell (rowRd h 0 encL39 rfl) ha_8 rfl ia_8 ja_8
        replace hp := hp x_8 hx_8
        refine ⟨_, _, _, hc 1 _ rfl, ?_⟩
        obtain ⟨xs_13, hq_xs_13, hp⟩ := hp
        have hl_xs_13 := poolLen h 8 rfl hq_xs_13
        have hc_xs_13 := poolCap h 8 rfl hq_xs_13
        refine embrasureref27_Addrs_ok (FL := row enc39 39 6 p_28 c_28 rs_6 :: cel b_6 64 [(Value.int .i64 h_44), (Value.bool h_16), (Value.int .i64 h_45), (Value.int .i64 h_46), (Value.slice p_29 h_47.length c_29), (Value.slice p_12 own_2.length c_12), (Value.pointer (some (Addr.mk b_7 0 none))), (Value.int .i64 now_11)] :: row enc55 55 2 p_29 c_29 h_47 :: row enc55 55 2 p_12 c_12 own_2 :: cel b_7 74 [(Value.slice p_30 marks_11.length c_30), (Value.int .i64 mean_5), (Value.int .i64 dev_5), (Value.bool any_5)] :: row enc86 86 2 p_30 c_30 marks_11 :: poolP enc5 5 1 m_25 :: poolP enc52 52 1 m_26 :: poolP enc55 55 2 m_27 :: row enc39 39 6 p_26 c_26 rs_5 :: cel b_4 64 [(Value.int .i64 h_41), (Value.bool h_21), (Value.int .i64 h_42), (Value.int .i64 h_43), (Value.slice p_20 h_31.length c_20), (Value.slice p_7 own_1.length c_7), (Value.pointer (some (Addr.mk b_5 0 none))), (Value.int .i64 now_10)] :: row enc55 55 2 p_20 c_20 h_31 :: row enc55 55 2 p_7 c_7 own_1 :: cel b_5 74 [(Value.slice p_27 marks_10.length c_27), (Value.int .i64 mean_4), (Value.int .i64 dev_4), (Value.bool any_4)] :: row enc86 86 2 p_27 c_27 marks_10 :: cel b_1 23 [(Value.slice p_1 ends_x.length c_1), (Value.slice p_2 ends_x_1.length c_2)] :: row enc39 39 6 p_19 c_19 rs_3 :: FL) (fun w h => (poolRd h 8 encL55 rfl hq_xs_13)) hl_xs_13 hc_xs_13 (fun w h => (hF_ends_x _ (h.drop 17))) rfl hc_ends_x h hp ?_
        intro r_10 w h hp
        refine ⟨_, rfl, ?_⟩
        refine cond_both' hp (fun hp => ?_) (fun hp => ?_)
        · replace h := h.sel [] 17
          dsimp only [pickL, pickR, nthH, delH, dropH, List.cons_append, List.nil_append] at h
          exact hR false _ h hp
        replace h := h.pick [10, 10, 11]
        dsimp only [pickL, pickR, nthH, delH, dropH, List.cons_append, List.nil_append] at h
        refine punch_Puncher_State_ok h hp ?_
        rintro r_11 r_12 r_13 r_14 rs_7 p_31 n_31 c_31 w rfl h hp
        have cpp_31 := rowCap h 0 rfl
        have cpp_20 := rowCap h 2 rfl
        refine ⟨_, _, _, _, _, _, _, rfl, ?_⟩
        refine cond_both' hp (fun hp => ?_) (fun hp => ?_)
        · replace h := h.sel [] 18
          dsimp only [pickL, pickR, nthH, delH, dropH, List.cons_append, List.nil_append] at h
          exact hR false _ h hp
        replace h := h.pick [5, 5, 6]
        dsimp only [pickL, pickR, nthH, delH, dropH, List.cons_append, List.nil_append] at h
        refine punch_Puncher_State_ok h hp ?_
        rintro r_15 r_16 r_17 r_18 rs_8 p_32 n_32 c_32 w rfl h hp
        have cpp_32 := rowCap h 0 rfl
        have cpp_29 := rowCap h 2 rfl
        refine ⟨_, _, _, _, _, _, _, rfl, ?_⟩
        replace h := h.sel [] 19
        dsimp only [pickL, pickR, nthH, delH, dropH, List.cons_append, List.nil_append] at h
        exact hR ((r_15 : Int) == 3) _ h hp
      clear hq
      obtain ⟨Q_6, hq, hp⟩ := hp
      refine ⟨fun a7_6p a7_6l a7_6c b8_6p b8_6l b8_6c p9_5 q11_5 d13_1 t14_1 z17_1p z17_1l z17_1c t106 w => ∃ (h_35 : Int), ∃ (h_36 : Int), ∃ (h_37 : Int), ∃ (now_8 : Int), ∃ (marks_8 : List (Int × Int)), ∃ (p_23 : Option Addr), ∃ (n_23 : Nat), ∃ (c_23 : Nat), ∃ (m_16 : List ((Option Addr × Nat × Nat) × List (Int))), ∃ (m_17 : List ((Option Addr × Nat × Nat) × List (Int))), ∃ (m_18 : List ((Option Addr × Nat × Nat) × List (Int × Int))), p_1 = a7_6p ∧ ends_x.length = a7_6l ∧ c_1 = a7_6c ∧ p_2 = b8_6p ∧ ends_x_1.length = b8_6l ∧ c_2 = b8_6c ∧ (some (Addr.mk b_4 0 none)) = p9_5 ∧ (some (Addr.mk b_6 0 none)) = q11_5 ∧ (Int.tmod (IntKind.wrap .i64 delay) 10) = d13_1 ∧ (IntKind.wrap .i64 start) = t14_1 ∧ p_19 = z17_1p ∧ rs_3.length = z17_1l ∧ c_19 = z17_1c ∧ n_23 = marks_8.length ∧ Q_6 h_35 h_36 h_37 now_8 marks_8 t106 m_16 m_17 m_18 ∧ Mem (cel b_4 64 [(Value.int .i64 h_35), (Value.bool h_21), (Value.int .i64 h_36), (Value.int .i64 h_37), (Value.slice p_20 h_31.length c_20), (Value.slice p_7 own_1.length c_7), (Value.pointer (some (Addr.mk b_5 0 none))), (Value.int .i64 now_8)] :: row enc55 55 2 p_20 c_20 h_31 :: row enc55 55 2 p_7 c_7 own_1 :: cel b_5 74 [(Value.slice p_23 n_23 c_23), (Value.int .i64 mean_4), (Value.int .i64 dev_4), (Value.bool any_4)] :: row enc86 86 2 p_23 c_23 marks_8 :: cel b_6 64 [(Value.int .i64 h_24), (Value.bool h_16), (Value.int .i64 h_25), (Value.int .i64 h_26), (Value.slice p_17 h_27.length c_17), (Value.slice p_12 own_2.length c_12), (Value.pointer (some (Addr.mk b_7 0 none))), (Value.int .i64 now_5)] :: row enc55 55 2 p_17 c_17 h_27 :: row enc55 55 2 p_12 c_12 own_2 :: cel b_7 74 [(Value.slice p_18 marks_5.length c_18), (Value.int .i64 mean_3), (Value.int .i64 dev_3), (Value.bool any_3)] :: row enc86 86 2 p_18 c_18 marks_5 :: cel b_1 23 [(Value.slice p_1 ends_x.length c_1), (Value.slice p_2 ends_x_1.length c_2)] :: poolP enc5 5 1 m_16 :: poolP enc52 52 1 m_17 :: poolP enc55 55 2 m_18 :: row enc39 39 6 p_19 c_19 rs_3 :: FL) w, ?_, ?_⟩
      · rintro a7_6p a7_6l a7_6c b8_6p b8_6l b8_6c p9_5 q11_5 d13_1 t14_1 z17_1p z17_1l z17_1c t106 w ⟨h_35, h_36, h_37, now_8, marks_8, p_23, n_23, c_23, m_16, m_17, m_18, rfl, rfl, rfl, rfl, rfl, rfl, rfl, rfl, rfl, rfl, rfl, rfl, rfl, rfl, hp, h⟩
        replace hp := hq h_35 h_36 h_37 now_8 marks_8 t106 m_16 m_17 m_18 hp
        unfold embrasurelaw27_PunchTogether_j4
        have cpp_23 := rowCap h 4 rfl
        refine cond_both' hp (fun hp => ?_) (fun hp => ?_)
        · exact ⟨h_35, h_36, h_37, now_8, marks_8, p_23, marks_8.length, c_23, m_16, m_17, m_18, rfl, rfl, rfl, rfl, rfl, rfl, rfl, rfl, rfl, rfl, rfl, rfl, rfl, rfl, hp, h⟩
        replace h := h.sel [] 15
        dsimp only [pickL, pickR, nthH, delH, dropH, List.cons_append, List.nil_append] at h
        exact hR false _ h hp
      clear hq
      refine cond_both' hp (fun hp => ?_) (fun hp => ?_)
      · replace h := h.sel [1, 1, 1, 1, 1, 5, 5, 5, 5, 5, 6, 1, 1, 1, 0] 2
        dsimp only [pickL, pickR, nthH, delH, dropH, List.cons_append, List.nil_append] at h
        exact ⟨h_28, h_29, h_30, now_6, marks_6, p_21, marks_6.length, c_21, m_10, m_11, m_12, rfl, rfl, rfl, rfl, rfl, rfl, rfl, rfl, rfl, rfl, rfl, rfl, rfl, rfl, hp, h⟩
      replace h := h.pick [1, 1, 1, 1, 1, 1, 1, 1]
      dsimp only [pickL, pickR, nthH, delH, dropH, List.cons_append, List.nil_append] at h
      refine punch_Puncher_Tick_ok h hp ?_
      rintro rs_4 h_38 h_39 h_40 now_9 marks_9 m_19 m_20 m_21 p_24 n_24 c_24 p_25 n_25 c_25 w rfl rfl h hp
      have cpp_24 := rowCap h 0 rfl
      have cpp_20 := rowCap h 2 rfl
      have cpp_7 := rowCap h 3 rfl
      have cpp_25 := rowCap h 5 rfl
      refine ⟨_, _, _, rfl, ?_⟩
      replace h := h.sel [1, 1, 1, 1, 1, 6, 6, 6, 6, 6, 7, 1, 1, 1, 1] 3
      dsimp only [pickL, pickR, nthH, delH, dropH, List.cons_append, List.nil_append] at h
      exact ⟨h_38, h_39, h_40, now_9, marks_9, p_25, marks_9.length, c_25, m_19, m_20, m_21, rfl, rfl, rfl, rfl, rfl, rfl, rfl, rfl, rfl, rfl, rfl, rfl, rfl, rfl, hp, h⟩
    clear hq
    refine eqlPtrNil undP27 ?_
    refine ⟨_, rfl, ?_⟩
    refine cond_ff ?_
    refine eqlPtrNil undP27 ?_
    refine ⟨_, rfl, ?_⟩
    refine cond_ff ?_
    refine cond_both hp (fun hp => ?_) (fun hp => ?_)
    · exact ⟨rfl, rfl, rfl, rfl, rfl, rfl, rfl, rfl, rfl, rfl, hp, h⟩
    exact ⟨rfl, rfl, rfl, rfl, rfl, rfl, rfl, rfl, rfl, rfl, hp, h⟩
  clear hq
  refine embrasurelaw27_May_ok (FL := cel b_1 23 [(Value.slice p_1 ends_x.length c_1), (Value.slice p_2 ends_x_1.length c_2)] :: poolP enc55 55 2 ([] : List ((Option Addr × Nat × Nat) × List (Int × Int))) :: poolP enc52 52 1 ([] : List ((Option Addr × Nat × Nat) × List (Int))) :: poolP enc5 5 1 ([] : List ((Option Addr × Nat × Nat) × List (Int))) :: FL) (fun w h => (hF_ends_x _ (h.drop 4))) rfl hc_ends_x h hp ?_
  intro r_1 w h hp
  refine ⟨_, rfl, ?_⟩
  refine cond_both hp (fun hp => ?_) (fun hp => ?_)
  · exact ⟨rfl, rfl, rfl, rfl, rfl, rfl, rfl, rfl, hp, h⟩
  refine embrasurelaw27_May_ok (FL := cel b_1 23 [(Value.slice p_1 ends_x.length c_1), (Value.slice p_2 ends_x_1.length c_2)] :: poolP enc55 55 2 ([] : List ((Option Addr × Nat × Nat) × List (Int × Int))) :: poolP enc52 52 1 ([] : List ((Option Addr × Nat × Nat) × List (Int))) :: poolP enc5 5 1 ([] : List ((Option Addr × Nat × Nat) × List (Int))) :: FL) (fun w h => (hF_ends_x_1 _ (h.drop 4))) rfl hc_ends_x_1 h hp ?_
  intro r_2 w h hp
  refine ⟨_, rfl, ?_⟩
  exact ⟨rfl, rfl, rfl, rfl, rfl, rfl, rfl, rfl, hp, h⟩

end Go.Proofs.Ytgelfofenbjjbaa
