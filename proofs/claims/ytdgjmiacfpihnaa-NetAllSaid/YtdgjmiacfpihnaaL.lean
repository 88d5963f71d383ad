/- Each function over plain data (printed by a program of this claim's author). -/
import Derived.Test.YtdgjmiacfpihnaaL1
namespace Go.Proofs.Ytdgjmiacfpihnaa
open Go Go.Eng Go.Proofs
set_option maxRecDepth 100000
set_option maxHeartbeats 2000000

/-! embrasure/embrasurelaw13.NetAll (6) -/
def embrasurelaw13_NetAll_wp (list : List ((List (Int)))) (stop : Int) (K : Bool → Prop) : Prop :=
  embrasurelaw13_awake_wp (fun (r : Bool) => cond (!r) (K false) (cond (decide ((((list.length : Nat) : Int) : Int) > 60)) (K true) (net_New_wp (fun (list_1 : List (Int × Int × Int × Int × Int × (Option Addr × Nat × Nat))) (last : Int) => joinP3 (fun (list_2 : List (Int × Int × Int × Int × Int × (Option Addr × Nat × Nat))) (last_1 : Int) (m_1 : List ((Option Addr × Nat × Nat) × List (Int))) => joinP4 (fun (x_3 : Int) (list_5 : List (Int × Int × Int × Int × Int × (Option Addr × Nat × Nat))) (last_4 : Int) (m_6 : List ((Option Addr × Nat × Nat) × List (Int))) => joinP0 (∃ (I_2 : Nat → List (Int × Int × Int × Int × Int × (Option Addr × Nat × Nat)) → Int → List ((Option Addr × Nat × Nat) × List (Int)) → Prop), (∃ (n_22 : Nat), I_2 n_22 list_5 0 m_6) ∧ ∀ (n_19 : Nat) (list_8 : List (Int × Int × Int × Int × Int × (Option Addr × Nat × Nat))) (i11 : Int) (m_14 : List ((Option Addr × Nat × Nat) × List (Int))), I_2 n_19 list_8 i11 m_14 → (cond (decide ((i11 : Int) < ((list.length : Nat) : Int))) (net_Net_Take_wp list_8 last_4 (IntKind.wrap .i64 (i11 + 1)) m_14 (fun (r_7 : Int) (r_8 : Int) (r_9 : Int) (r_10 : Int) (r_11 : Int) (hd : Option Addr × Nat × Nat) (r_12 : Int) (list_9 : List (Int × Int × Int × Int × Int × (Option Addr × Nat × Nat))) (m_16 : List ((Option Addr × Nat × Nat) × List (Int))) => joinP1 (fun (t114 : Bool) => cond t114 (K false) (∃ (n_21 : Nat), n_21 < n_19 ∧ I_2 n_21 list_9 (IntKind.wrap .i64 (i11 + 1)) m_16)) (fun (Q_5 : Bool → Prop) => cond ((r_12 : Int) != 0) (Q_5 true) (0 ≤ (i11 : Int) ∧ (i11 : Int) < ((list.length : Nat) : Int) ∧ (∀ (x_9 : (List (Int))), list[Int.toNat i11]? = some x_9 → (∃ (xs : List (Int)), PH m_16 hd xs ∧ (embrasureref01_Same_wp xs x_9 (fun (r_13 : Bool) => Q_5 (!r_13))))))))) (K true))) (fun (Q_3 : Prop) => joinP1 (fun (t89 : Bool) => cond t89 (K false) (Q_3 )) (fun (Q_4 : Bool → Prop) => cond ((x_3 : Int) != ((list.length : Nat) : Int)) (cond ((x_3 : Int) != (IntKind.wrap .i64 stop)) (Q_4 true) (net_Net_Count_wp list_5 last_4 (fun (r_5 : Int) => Q_4 ((r_5 : Int) != (IntKind.wrap .i64 (((list.length : Nat) : Int) + x_3)))))) (net_Net_Count_wp list_5 last_4 (fun (r_6 : Int) => Q_4 ((r_6 : Int) != (IntKind.wrap .i64 (((list.length : Nat) : Int) + x_3)))))))) (fun (Q_1 : Int → List (Int × Int × Int × Int × Int × (Option Addr × Nat × Nat)) → Int → List ((Option Addr × Nat × Nat) × List (Int)) → Prop) => net_Net_All_wp list_2 last_1 (fun (x_4 : List (Int × Int × Int × Int × Int × (Option Addr × Nat × Nat))) => net_Net_All_c1_wp (0, list_2, last_1, 0, ([] : List ((Option Addr × Nat × Nat) × List (Int)))) (fun x_6 (s : Nat × (List (Int × Int × Int × Int × Int × (Option Addr × Nat × Nat))) × Int × Int × (List ((Option Addr × Nat × Nat) × List (Int)))) K_1 => s.1 = 0 ∧ (joinP1 (fun (Bytes : List (Int)) => net_Net_Send_wp s.2.1 s.2.2.1 1 1 1 1 ([] : List (Int)) s.2.2.2.2 (fun (r_3 : Int) (r_4 : Int) (list_7 : List (Int × Int × Int × Int × Int × (Option Addr × Nat × Nat))) (last_6 : Int) (m_11 : List ((Option Addr × Nat × Nat) × List (Int))) => cond (((IntKind.wrap .i64 (s.2.2.2.1 + 1)) : Int) == (IntKind.wrap .i64 stop)) (K_1 false (1, list_7, last_6, (IntKind.wrap .i64 (s.2.2.2.1 + 1)), m_11)) (K_1 true (0, list_7, last_6, (IntKind.wrap .i64 (s.2.2.2.1 + 1)), m_11)))) (fun (Q_2 : List (Int) → Prop) => ∃ (I_1 : Nat → List (Int) → Int → Prop), (∃ (n_16 : Nat), I_1 n_16 x_6.2.2.2.2.2 0) ∧ ∀ (n_14 : Nat) (Bytes_1 : List (Int)) (k10 : Int), I_1 n_14 Bytes_1 k10 → (cond (decide ((k10 : Int) < ((Bytes_1.length : Nat) : Int))) (0 ≤ (k10 : Int) ∧ (k10 : Int) < ((Bytes_1.length : Nat) : Int) ∧ (∀ (x_7 : Int), Bytes_1[Int.toNat k10]? = some x_7 → (0 ≤ (k10 : Int) ∧ (k10 : Int) < ((Bytes_1.length : Nat) : Int) ∧ (∃ (n_15 : Nat), n_15 < n_14 ∧ I_1 n_15 (List.set Bytes_1 (Int.toNat k10) (IntKind.wrap .u8 (x_7 + 1))) (IntKind.wrap .i64 (k10 + 1)))))) (Q_2 Bytes_1))))) x_4 m_1 (fun (s_1 : (Nat × (List (Int × Int × Int × Int × Int × (Option Addr × Nat × Nat))) × Int × Int × (List ((Option Addr × Nat × Nat) × List (Int))))) => (s_1.1 = 0 ∧ (Q_1 s_1.2.2.2.1 s_1.2.1 s_1.2.2.1 (m_1 ++ s_1.2.2.2.2))) ∨ (s_1.1 ≠ 0 ∧ (Q_1 s_1.2.2.2.1 s_1.2.1 s_1.2.2.1 (m_1 ++ s_1.2.2.2.2))))))) (fun (Q : List (Int × Int × Int × Int × Int × (Option Addr × Nat × Nat)) → Int → List ((Option Addr × Nat × Nat) × List (Int)) → Prop) => ∃ (I : Nat → List (Int × Int × Int × Int × Int × (Option Addr × Nat × Nat)) → Int → Int → List ((Option Addr × Nat × Nat) × List (Int)) → Prop), (∃ (n_8 : Nat), I n_8 list_1 last 0 ([] : List ((Option Addr × Nat × Nat) × List (Int)))) ∧ ∀ (n_5 : Nat) (list_3 : List (Int × Int × Int × Int × Int × (Option Addr × Nat × Nat))) (last_2 : Int) (i7 : Int) (m_3 : List ((Option Addr × Nat × Nat) × List (Int))), I n_5 list_3 last_2 i7 m_3 → (cond (decide ((i7 : Int) < ((list.length : Nat) : Int))) (0 ≤ (i7 : Int) ∧ (i7 : Int) < ((list.length : Nat) : Int) ∧ (∀ (x_1 : (List (Int))), list[Int.toNat i7]? = some x_1 → (cond (decide ((((x_1.length : Nat) : Int) : Int) > 1200)) (K true) (0 ≤ (i7 : Int) ∧ (i7 : Int) < ((list.length : Nat) : Int) ∧ (∀ (x_2 : (List (Int))), list[Int.toNat i7]? = some x_2 → (net_Net_Send_wp list_3 last_2 1 1 1 1 x_2 m_3 (fun (r_1 : Int) (r_2 : Int) (list_4 : List (Int × Int × Int × Int × Int × (Option Addr × Nat × Nat))) (last_3 : Int) (m_5 : List ((Option Addr × Nat × Nat) × List (Int))) => ∃ (n_7 : Nat), n_7 < n_5 ∧ I n_7 list_4 last_3 (IntKind.wrap .i64 (i7 + 1)) m_5))))))) (Q list_3 last_2 m_3)))))))
theorem embrasurelaw13_NetAll_ok {p_1 : Option Addr} {n_1 : Nat} {c_1 : Nat} {list : List ((List (Int)))} {stop : Int} {FL : List HP} {w : World} {K : Bool → Prop} {R : Value → World → Prop}
  (hF_list : ∀ w, Mem FL w → RdD w 1 p_1 (encR22 FL) list) (hl_list : n_1 = list.length) (hc_list : n_1 ≤ c_1)
  (h : Mem (FL) w) (hp : embrasurelaw13_NetAll_wp list stop K)
  (hR : ∀ (r : Bool) (w : World), Mem (FL) w → K r → R (Value.bool r) w) :
  CallV Try.prog 6 #[(Value.slice p_1 n_1 c_1), (Value.int .u8 stop)] w R := by
  refine embrasurelaw13_NetAll_call ?_
  unfold embrasurelaw13_NetAll
  unfold embrasurelaw13_NetAll_wp at hp
  subst hl_list
  replace h := marksNil h
  replace h := poolNil enc5 5 1 h
  refine newL (o := [(Value.int .u8 stop)]) h ?_
  intro b_1 w h
  refine embrasurelaw13_awake_ok h hp ?_
  intro r w h hp
  refine ⟨_, rfl, ?_⟩
  refine cond_both hp (fun hp => ?_) (fun hp => ?_)
  · replace h := h.pick [2]
    dsimp only [pickL, pickR, nthH, delH, dropH, List.cons_append, List.nil_append] at h
    replace h := h.sel [] 3
    dsimp only [pickL, pickR, nthH, delH, dropH, List.cons_append, List.nil_append] at h
    exact hR false _ h hp
  refine cond_both hp (fun hp => ?_) (fun hp => ?_)
  · replace h := h.pick [2]
    dsimp only [pickL, pickR, nthH, delH, dropH, List.cons_append, List.nil_append] at h
    replace h := h.sel [] 3
    dsimp only [pickL, pickR, nthH, delH, dropH, List.cons_append, List.nil_append] at h
    exact hR true _ h hp
  refine net_New_ok h hp ?_
  rintro list_1 last b_2 p_2 n_2 c_2 w rfl h hp
  have cpp_2 := rowCap h 1 rfl
  refine ⟨_, rfl, ?_⟩
  refine newL (o := [(Value.pointer none)]) h ?_
  intro b_3 w h
  refine storeL (ys := [(Value.pointer (some (Addr.mk b_2 0 none)))]) h 0 0 rfl rfl rfl sz26 rfl rfl ?_
  intro w h
  dsimp only [setH, setVs, setV] at h
  refine newL (o := [(Value.int .u32 0), (Value.int .i64 0)]) h ?_
  intro b_4 w h
  refine storeL (ys := [(Value.int .u32 1), (Value.int .i64 1)]) h 0 0 rfl rfl rfl sz30 rfl rfl ?_
  intro w h
  dsimp only [setH, setVs, setV] at h
  obtain ⟨Q, hq, hp⟩ := hp
  refine ⟨fun list0p list0l list0c stop3 t4 x5 a6 m_2 w => ∃ (list_2 : List (Int × Int × Int × Int × Int × (Option Addr × Nat × Nat))), ∃ (p_3 : Option Addr), ∃ (n_3 : Nat), ∃ (c_3 : Nat), ∃ (last_1 : Int), ∃ (m_1 : List ((Option Addr × Nat × Nat) × List (Int))), p_1 = list0p ∧ list.length = list0l ∧ c_1 = list0c ∧ (Addr.mk b_1 0 none) = stop3 ∧ false = t4 ∧ (Addr.mk b_3 0 none) = x5 ∧ (Addr.mk b_4 0 none) = a6 ∧ n_3 = list_2.length ∧ Q list_2 last_1 m_1 ∧ Mem (cel b_4 30 [(Value.int .u32 1), (Value.int .i64 1)] :: cel b_3 26 [(Value.pointer (some (Addr.mk b_2 0 none)))] :: cel b_2 59 [(Value.slice p_3 n_3 c_3), (Value.int .i64 last_1)] :: row enc39 39 6 p_3 c_3 list_2 :: cel b_1 5 [(Value.int .u8 stop)] :: poolP enc5 5 1 m_1 :: marksP m_2 :: FL) w, ?_, ?_⟩
  · rintro list0p list0l list0c stop3 t4 x5 a6 m_2 w ⟨list_2, p_3, n_3, c_3, last_1, m_1, rfl, rfl, rfl, rfl, rfl, rfl, rfl, rfl, hp, h⟩
    replace hp := hq list_2 last_1 m_1 hp
    unfold embrasurelaw13_NetAll_j1
    have cpp_3 := rowCap h 3 rfl
    refine newL (o := [(Value.int .i64 0)]) h ?_
    intro b_5 w h
    refine storeL (ys := [(Value.int .i64 0)]) h 0 0 rfl rfl rfl sz3 rfl rfl ?_
    intro w h
    dsimp only [setH, setVs, setV] at h
    obtain ⟨Q_1, hq, hp⟩ := hp
    refine ⟨fun list0_2p list0_2l list0_2c stop3_2 x5_2 n8 m_7 w => ∃ (x_3 : Int), ∃ (list_5 : List (Int × Int × Int × Int × Int × (Option Addr × Nat × Nat))), ∃ (p_6 : Option Addr), ∃ (n_9 : Nat), ∃ (c_6 : Nat), ∃ (last_4 : Int), ∃ (m_6 : List ((Option Addr × Nat × Nat) × List (Int))), p_1 = list0_2p ∧ list.length = list0_2l ∧ c_1 = list0_2c ∧ (Addr.mk b_1 0 none) = stop3_2 ∧ (Addr.mk b_3 0 none) = x5_2 ∧ (Addr.mk b_5 0 none) = n8 ∧ n_9 = list_5.length ∧ Q_1 x_3 list_5 last_4 m_6 ∧ Mem (cel b_5 3 [(Value.int .i64 x_3)] :: cel b_4 30 [(Value.int .u32 1), (Value.int .i64 1)] :: cel b_3 26 [(Value.pointer (some (Addr.mk b_2 0 none)))] :: cel b_2 59 [(Value.slice p_6 n_9 c_6), (Value.int .i64 last_4)] :: row enc39 39 6 p_6 c_6 list_5 :: cel b_1 5 [(Value.int .u8 stop)] :: poolP enc5 5 1 m_6 :: marksP m_7 :: FL) w, ?_, ?_⟩
    · rintro list0_2p list0_2l list0_2c stop3_2 x5_2 n8 m_7 w ⟨x_3, list_5, p_6, n_9, c_6, last_4, m_6, rfl, rfl, rfl, rfl, rfl, rfl, rfl, hp, h⟩
      replace hp := hq x_3 list_5 last_4 m_6 hp
      unfold embrasurelaw13_NetAll_j2
      have cpp_6 := rowCap h 4 rfl
      obtain ⟨Q_3, hq, hp⟩ := hp
      refine ⟨fun list0_3p list0_3l list0_3c x5_5 m_12 w => p_1 = list0_3p ∧ list.length = list0_3l ∧ c_1 = list0_3c ∧ (Addr.mk b_3 0 none) = x5_5 ∧ Q_3 ∧ Mem (cel b_5 3 [(Value.int .i64 x_3)] :: cel b_4 30 [(Value.int .u32 1), (Value.int .i64 1)] :: cel b_3 26 [(Value.pointer (some (Addr.mk b_2 0 none)))] :: cel b_2 59 [(Value.slice p_6 list_5.length c_6), (Value.int .i64 last_4)] :: row enc39 39 6 p_6 c_6 list_5 :: cel b_1 5 [(Value.int .u8 stop)] :: poolP enc5 5 1 m_6 :: marksP m_12 :: FL) w, ?_, ?_⟩
      · rintro list0_3p list0_3l list0_3c x5_5 m_12 w ⟨rfl, rfl, rfl, rfl, hp, h⟩
        replace hp := hq  hp
        unfold embrasurelaw13_NetAll_j3
        obtain ⟨I_2, ⟨n_22, h0⟩, hq⟩ := hp
        refine ⟨fun n_19 list0_5p list0_5l list0_5c x5_7 i11 m_15 w => ∃ (list_8 : List (Int × Int × Int × Int × Int × (Option Addr × Nat × Nat))), ∃ (p_13 : Option Addr), ∃ (n_18 : Nat), ∃ (c_13 : Nat), ∃ (m_14 : List ((Option Addr × Nat × Nat) × List (Int))), p_1 = list0_5p ∧ list.length = list0_5l ∧ c_1 = list0_5c ∧ (Addr.mk b_3 0 none) = x5_7 ∧ n_18 = list_8.length ∧ I_2 n_19 list_8 i11 m_14 ∧ Mem (cel b_5 3 [(Value.int .i64 x_3)] :: cel b_4 30 [(Value.int .u32 1), (Value.int .i64 1)] :: cel b_3 26 [(Value.pointer (some (Addr.mk b_2 0 none)))] :: cel b_2 59 [(Value.slice p_13 n_18 c_13), (Value.int .i64 last_4)] :: row enc39 39 6 p_13 c_13 list_8 :: cel b_1 5 [(Value.int .u8 stop)] :: poolP enc5 5 1 m_14 :: marksP m_15 :: FL) w, ⟨n_22, list_5, p_6, list_5.length, c_6, m_6, rfl, rfl, rfl, rfl, rfl, h0, h⟩, ?_⟩
        clear h0 h
        rintro n_19 list0_5p list0_5l list0_5c x5_7 i11 m_15 w ⟨list_8, p_13, n_18, c_13, m_14, rfl, rfl, rfl, rfl, rfl, hp, h⟩
        replace hp := hq n_19 list_8 i11 m_14 hp
        clear hq
        unfold embrasurelaw13_NetAll_l4
        have cpp_13 := rowCap h 4 rfl
        refine cond_both' hp (fun hp => ?_) (fun hp => ?_)
        · replace h := h.pick [7]
          dsimp only [pickL, pickR, nthH, delH, dropH, List.cons_append, List.nil_append] at h
          refine finishMarks _ h ?_
          intro w h
          replace h := h.sel [] 7
          dsimp only [pickL, pickR, nthH, delH, dropH, List.cons_append, List.nil_append] at h
          exact hR true _ h hp
        refine ⟨_, cellL h 2 0 rfl rfl rfl, ?_⟩
        replace h := h.pick [3, 3, 4]
        dsimp only [pickL, pickR, nthH, delH, dropH, List.cons_append, List.nil_append] at h
        refine net_Net_Take_ok h hp ?_
        rintro r_7 r_8 r_9 r_10 r_11 hd r_12 list_9 m_16 p_14 n_20 c_14 w rfl h hp
        have cpp_14 := rowCap h 1 rfl
        refine ⟨_, _, _, _, _, _, _, _, _, rfl, ?_⟩
        refine ⟨_, _, _, _, _, _, _, _, rfl, ?_⟩
        refine ⟨_, rfl, ?_⟩
        refine newL (o := [(Value.int .i64 0), (Value.int .u32 0), (Value.int .i64 0), (Value.int .u32 0), (Value.int .i64 0), (Value.slice none 0 0)]) h ?_
        intro b_8 w h
        refine storeL (ys := [(Value.int .i64 r_7), (Value.int .u32 r_8), (Value.int .i64 r_9), (Value.int .u32 r_10), (Value.int .i64 r_11), (Value.slice hd.1 hd.2.1 hd.2.2)]) h 0 0 rfl rfl rfl sz39 rfl rfl ?_
        intro w h
        dsimp only [setH, setVs, setV] at h
        obtain ⟨Q_5, hq, hp⟩ := hp
        refine ⟨fun list0_6p list0_6l list0_6c x5_8 i11_1 t114 m_17 w => p_1 = list0_6p ∧ list.length = list0_6l ∧ c_1 = list0_6c ∧ (Addr.mk b_3 0 none) = x5_8 ∧ i11 = i11_1 ∧ Q_5 t114 ∧ Mem (cel b_8 39 [(Value.int .i64 r_7), (Value.int .u32 r_8), (Value.int .i64 r_9), (Value.int .u32 r_10), (Value.int .i64 r_11), (Value.slice hd.1 hd.2.1 hd.2.2)] :: cel b_2 59 [(Value.slice p_14 list_9.length c_14), (Value.int .i64 last_4)] :: row enc39 39 6 p_14 c_14 list_9 :: cel b_5 3 [(Value.int .i64 x_3)] :: cel b_4 30 [(Value.int .u32 1), (Value.int .i64 1)] :: cel b_3 26 [(Value.pointer (some (Addr.mk b_2 0 none)))] :: cel b_1 5 [(Value.int .u8 stop)] :: poolP enc5 5 1 m_16 :: marksP m_17 :: FL) w, ?_, ?_⟩
        · rintro list0_6p list0_6l list0_6c x5_8 i11_1 t114 m_17 w ⟨rfl, rfl, rfl, rfl, rfl, hp, h⟩
          replace hp := hq t114 hp
          unfold embrasurelaw13_NetAll_j5
          refine cond_both' hp (fun hp => ?_) (fun hp => ?_)
          · replace h := h.sel [3, 3, 3, 1, 1, 1, 1, 1] 1
            dsimp only [pickL, pickR, nthH, delH, dropH, List.cons_append, List.nil_append] at h
            obtain ⟨n_21, hn, hp⟩ := hp
            exact ⟨n_21, hn, list_9, p_14, list_9.length, c_14, m_16, rfl, rfl, rfl, rfl, rfl, hp, h⟩
          replace h := h.pick [8]
          dsimp only [pickL, pickR, nthH, delH, dropH, List.cons_append, List.nil_append] at h
          refine finishMarks _ h ?_
          intro w h
          replace h := h.sel [] 8
          dsimp only [pickL, pickR, nthH, delH, dropH, List.cons_append, List.nil_append] at h
          exact hR false _ h hp
        clear hq
        replace h := h.drew
        refine cond_both hp (fun hp => ?_) (fun hp => ?_)
        · replace h := h.sel [0, 0, 0, 1, 1, 1, 1, 0, 0] 0
          dsimp only [pickL, pickR, nthH, delH, dropH, List.cons_append, List.nil_append] at h
          exact ⟨rfl, rfl, rfl, rfl, rfl, hp, h⟩
        refine ⟨_, _, _, cellL h 0 5 rfl rfl rfl, ?_⟩
        obtain ⟨ia_5, ja_5, hp⟩ := hp
        obtain ⟨a_5, ha_5⟩ := rdAddrD (hF_list _ (h.drop 9)) rfl ia_5 ja_5
        refine ⟨a_5, ha_5, ia_5, ja_5, ?_⟩
        obtain ⟨x_9, hx_9, cs, hR, hc0, hc1, hc2⟩ := rdCellD (hF_list _ (h.drop 9)) ha_5 rfl ia_5 ja_5
        replace hp := hp x_9 hx_9
        obtain ⟨q_2p0, q_2n0, q_2c0, rfl, rfl, hc_q_2p0, hF_q_2p0⟩ := hR
        refine ⟨_, _, _, hc0 _ rfl, ?_⟩
        obtain ⟨xs, hq_xs, hp⟩ := hp
        have hl_xs := poolLen h 3 rfl hq_xs
        have hc_xs := poolCap h 3 rfl hq_xs
        refine embrasureref01_Same_ok (FL := cel b_8 39 [(Value.int .i64 r_7), (Value.int .u32 r_8), (Value.int .i64 r_9), (Value.int .u32 r_10), (Value.int .i64 r_11), (Value.slice hd.1 hd.2.1 hd.2.2)] :: cel b_2 59 [(Value.slice p_14 list_9.length c_14), (Value.int .i64 last_4)] :: row enc39 39 6 p_14 c_14 list_9 :: poolP enc5 5 1 m_16 :: cel b_5 3 [(Value.int .i64 x_3)] :: cel b_4 30 [(Value.int .u32 1), (Value.int .i64 1)] :: cel b_3 26 [(Value.pointer (some (Addr.mk b_2 0 none)))] :: cel b_1 5 [(Value.int .u8 stop)] :: marksP m_15 :: FL) (fun w h => (poolRd h 3 encL5 rfl hq_xs)) hl_xs hc_xs (fun w h => (hF_q_2p0 _ (h.drop 9))) rfl hc_q_2p0 h hp ?_
        intro r_13 w h hp
        refine ⟨_, rfl, ?_⟩
        replace h := h.sel [0, 0, 0, 1, 1, 1, 1, 0, 0] 0
        dsimp only [pickL, pickR, nthH, delH, dropH, List.cons_append, List.nil_append] at h
        exact ⟨rfl, rfl, rfl, rfl, rfl, hp, h⟩
      clear hq
      obtain ⟨Q_4, hq, hp⟩ := hp
      refine ⟨fun list0_4p list0_4l list0_4c x5_6 t89 m_13 w => p_1 = list0_4p ∧ list.length = list0_4l ∧ c_1 = list0_4c ∧ (Addr.mk b_3 0 none) = x5_6 ∧ Q_4 t89 ∧ Mem (cel b_5 3 [(Value.int .i64 x_3)] :: cel b_4 30 [(Value.int .u32 1), (Value.int .i64 1)] :: cel b_3 26 [(Value.pointer (some (Addr.mk b_2 0 none)))] :: cel b_2 59 [(Value.slice p_6 list_5.length c_6), (Value.int .i64 last_4)] :: row enc39 39 6 p_6 c_6 list_5 :: cel b_1 5 [(Value.int .u8 stop)] :: poolP enc5 5 1 m_6 :: marksP m_13 :: FL) w, ?_, ?_⟩
      · rintro list0_4p list0_4l list0_4c x5_6 t89 m_13 w ⟨rfl, rfl, rfl, rfl, hp, h⟩
        replace hp := hq t89 hp
        unfold embrasurelaw13_NetAll_j6
        refine cond_both' hp (fun hp => ?_) (fun hp => ?_)
        · exact ⟨rfl, rfl, rfl, rfl, hp, h⟩
        replace h := h.pick [7]
        dsimp only [pickL, pickR, nthH, delH, dropH, List.cons_append, List.nil_append] at h
        refine finishMarks _ h ?_
        intro w h
        replace h := h.sel [] 7
        dsimp only [pickL, pickR, nthH, delH, dropH, List.cons_append, List.nil_append] at h
        exact hR false _ h hp
      clear hq
      replace h := h.drew
      refine ⟨fun w => Mem (cel b_5 3 [(Value.int .i64 x_3)] :: FL) w, (h.sel [0] 7), ?_⟩
      refine ⟨_, cellL h 0 0 rfl rfl rfl, ?_⟩
      refine ⟨rfl, ?_⟩
      refine cond_both' hp (fun hp => ?_) (fun hp => ?_)
      · refine ⟨_, cellL h 2 0 rfl rfl rfl, ?_⟩
        refine ⟨?_, ?_⟩
        · intro w h
          change Mem _ _ at h
          exact ⟨rfl, rfl⟩
        refine ⟨_, cellL h 0 0 rfl rfl rfl, ?_⟩
        refine ⟨?_, ?_⟩
        · intro w h
          change Mem _ _ at h
          refine ⟨_, cellL h 0 0 rfl rfl rfl, ?_⟩
          exact ⟨rfl, rfl⟩
        replace h := h.pick [3, 3]
        dsimp only [pickL, pickR, nthH, delH, dropH, List.cons_append, List.nil_append] at h
        refine net_Net_Count_ok h hp ?_
        intro r_6 w h hp
        have cpp_6 := rowCap h 1 rfl
        refine ⟨_, rfl, ?_⟩
        refine ⟨(h.sel [2] 7), ?_⟩
        replace h := h.sel [2, 2, 2, 0, 0, 0, 0, 0] 0
        dsimp only [pickL, pickR, nthH, delH, dropH, List.cons_append, List.nil_append] at h
        exact ⟨rfl, rfl, rfl, rfl, hp, h⟩
      refine ⟨_, cellL h 0 0 rfl rfl rfl, ?_⟩
      refine ⟨_, cellL h 5 0 rfl rfl rfl, ?_⟩
      refine cond_both hp (fun hp => ?_) (fun hp => ?_)
      · exact ⟨rfl, rfl, rfl, rfl, hp, h⟩
      refine ⟨_, cellL h 2 0 rfl rfl rfl, ?_⟩
      refine ⟨?_, ?_⟩
      · intro w h
        change Mem _ _ at h
        exact ⟨rfl, rfl⟩
      refine ⟨_, cellL h 0 0 rfl rfl rfl, ?_⟩
      refine ⟨?_, ?_⟩
      · intro w h
        change Mem _ _ at h
        refine ⟨_, cellL h 0 0 rfl rfl rfl, ?_⟩
        exact ⟨rfl, rfl⟩
      replace h := h.pick [3, 3]
      dsimp only [pickL, pickR, nthH, delH, dropH, List.cons_append, List.nil_append] at h
      refine net_Net_Count_ok h hp ?_
      intro r_5 w h hp
      have cpp_6 := rowCap h 1 rfl
      refine ⟨_, rfl, ?_⟩
      refine ⟨(h.sel [2] 7), ?_⟩
      replace h := h.sel [2, 2, 2, 0, 0, 0, 0, 0] 0
      dsimp only [pickL, pickR, nthH, delH, dropH, List.cons_append, List.nil_append] at h
      exact ⟨rfl, rfl, rfl, rfl, hp, h⟩
    clear hq
    refine ⟨_, cellL h 2 0 rfl rfl rfl, ?_⟩
    replace h := h.pick [3, 3]
    dsimp only [pickL, pickR, nthH, delH, dropH, List.cons_append, List.nil_append] at h
    refine net_Net_All_ok h hp ?_
    rintro x_4 b_6 p_7 n_10 c_7 w rfl h hp
    have cpp_7 := rowCap h 1 rfl
    have cpp_3 := rowCap h 3 rfl
    refine ⟨_, _, _, rfl, ?_⟩
    intro e_1 fn_e_1 he_e_1 hr_e_1
    refine newO h ?_
    intro d w h
    refine newO h ?_
    intro l_1 w h
    replace h := h.pick [1, 10]
    dsimp only [pickL, pickR, nthH, delH, dropH, List.cons_append, List.nil_append] at h
    replace h := marksPush h
    show rangeCallW _ (Value.func (Fn.func 30) _ _) _ _ _
    refine rangeCallFn (by kernel_rfl) ?_
    replace h := poolNil enc5 5 1 h
    replace h := h.pick [2, 0, 3, 3, 3, 3, 3, 3]
    dsimp only [pickL, pickR, nthH, delH, dropH, List.cons_append, List.nil_append] at h
    replace h := h.pick [0, 1, 1, 1, 1, 1, 1, 0]
    dsimp only [pickL, pickR, nthH, delH, dropH, List.cons_append, List.nil_append] at h
    replace h : Mem ((fun (s : Nat × (List (Int × Int × Int × Int × Int × (Option Addr × Nat × Nat))) × Int × Int × (List ((Option Addr × Nat × Nat) × List (Int)))) => exH fun (p_8 : Option Addr) => exH fun (c_8 : Nat) => HL [pt l_1 (loopS (embrasurelaw13_NetAll_lo1 fn_e_1 e_1 d) s.1 (fun (n : Nat) => ((if n = 0 then none else (some (.exit 2))) : Option Code))), cel b_2 59 [(Value.slice p_8 s.2.1.length c_8), (Value.int .i64 s.2.2.1)], row enc39 39 6 p_8 c_8 s.2.1, cel b_5 3 [(Value.int .i64 s.2.2.2.1)], cel b_4 30 [(Value.int .u32 1), (Value.int .i64 1)], cel b_3 26 [(Value.pointer (some (Addr.mk b_2 0 none)))], cel b_1 5 [(Value.int .u8 stop)], poolP enc5 5 1 s.2.2.2.2]) (0, list_2, last_1, 0, ([] : List ((Option Addr × Nat × Nat) × List (Int)))) :: marksP (d :: m_2) :: cel b_6 48 [(Value.slice p_7 x_4.length c_7)] :: row enc39 39 6 p_7 c_7 x_4 :: poolP enc5 5 1 m_1 :: FL) _ := Mem.exsI p_3 (Mem.exsI c_3 (h.pack 8 [pt l_1 (loopS (embrasurelaw13_NetAll_lo1 fn_e_1 e_1 d) 0 (fun (n : Nat) => ((if n = 0 then none else (some (.exit 2))) : Option Code))), cel b_2 59 [(Value.slice p_3 list_2.length c_3), (Value.int .i64 last_1)], row enc39 39 6 p_3 c_3 list_2, cel b_5 3 [(Value.int .i64 0)], cel b_4 30 [(Value.int .u32 1), (Value.int .i64 1)], cel b_3 26 [(Value.pointer (some (Addr.mk b_2 0 none)))], cel b_1 5 [(Value.int .u8 stop)], poolP enc5 5 1 ([] : List ((Option Addr × Nat × Nat) × List (Int)))] rfl))
    replace h := h.pick [2, 0]
    dsimp only [pickL, pickR, nthH, delH, dropH, List.cons_append, List.nil_append] at h
    have hPr5 := roPool (h.drop 2) 2 encL5 rfl
    refine net_Net_All_c1_ok (FL := marksP (d :: m_2) :: row enc39 39 6 p_7 c_7 x_4 :: poolP enc5 5 1 m_1 :: FL) (A0 := (fun (s : Nat × (List (Int × Int × Int × Int × Int × (Option Addr × Nat × Nat))) × Int × Int × (List ((Option Addr × Nat × Nat) × List (Int)))) => exH fun (p_8 : Option Addr) => exH fun (c_8 : Nat) => HL [pt l_1 (loopS (embrasurelaw13_NetAll_lo1 fn_e_1 e_1 d) s.1 (fun (n : Nat) => ((if n = 0 then none else (some (.exit 2))) : Option Code))), cel b_2 59 [(Value.slice p_8 s.2.1.length c_8), (Value.int .i64 s.2.2.1)], row enc39 39 6 p_8 c_8 s.2.1, cel b_5 3 [(Value.int .i64 s.2.2.2.1)], cel b_4 30 [(Value.int .u32 1), (Value.int .i64 1)], cel b_3 26 [(Value.pointer (some (Addr.mk b_2 0 none)))], cel b_1 5 [(Value.int .u8 stop)], poolP enc5 5 1 s.2.2.2.2])) (Y0 := (fun x_6 (s : Nat × (List (Int × Int × Int × Int × Int × (Option Addr × Nat × Nat))) × Int × Int × (List ((Option Addr × Nat × Nat) × List (Int)))) K_1 => s.1 = 0 ∧ (joinP1 (fun (Bytes : List (Int)) => net_Net_Send_wp s.2.1 s.2.2.1 1 1 1 1 ([] : List (Int)) s.2.2.2.2 (fun (r_3 : Int) (r_4 : Int) (list_7 : List (Int × Int × Int × Int × Int × (Option Addr × Nat × Nat))) (last_6 : Int) (m_11 : List ((Option Addr × Nat × Nat) × List (Int))) => cond (((IntKind.wrap .i64 (s.2.2.2.1 + 1)) : Int) == (IntKind.wrap .i64 stop)) (K_1 false (1, list_7, last_6, (IntKind.wrap .i64 (s.2.2.2.1 + 1)), m_11)) (K_1 true (0, list_7, last_6, (IntKind.wrap .i64 (s.2.2.2.1 + 1)), m_11)))) (fun (Q_2 : List (Int) → Prop) => ∃ (I_1 : Nat → List (Int) → Int → Prop), (∃ (n_16 : Nat), I_1 n_16 x_6.2.2.2.2.2 0) ∧ ∀ (n_14 : Nat) (Bytes_1 : List (Int)) (k10 : Int), I_1 n_14 Bytes_1 k10 → (cond (decide ((k10 : Int) < ((Bytes_1.length : Nat) : Int))) (0 ≤ (k10 : Int) ∧ (k10 : Int) < ((Bytes_1.length : Nat) : Int) ∧ (∀ (x_7 : Int), Bytes_1[Int.toNat k10]? = some x_7 → (0 ≤ (k10 : Int) ∧ (k10 : Int) < ((Bytes_1.length : Nat) : Int) ∧ (∃ (n_15 : Nat), n_15 < n_14 ∧ I_1 n_15 (List.set Bytes_1 (Int.toNat k10) (IntKind.wrap .u8 (x_7 + 1))) (IntKind.wrap .i64 (k10 + 1)))))) (Q_2 Bytes_1)))))) (σ0 := Nat × (List (Int × Int × Int × Int × Int × (Option Addr × Nat × Nat))) × Int × Int × (List ((Option Addr × Nat × Nat) × List (Int)))) (s := (0, list_2, last_1, 0, ([] : List ((Option Addr × Nat × Nat) × List (Int))))) ?_ (fun w h => (rowRd h 1 encL39 rfl)) rfl cpp_7 hPr5 h hp ?_
    · intro x_6 qx_6p5 qx_6c5 s K_1 FL2 w R hx h hp hR
      replace h := h.pick [1]
      dsimp only [pickL, pickR, nthH, delH, dropH, List.cons_append, List.nil_append] at h
      obtain ⟨p_8, h⟩ := Mem.exs h
      obtain ⟨c_8, h⟩ := Mem.exs h
      replace h := h.unpack
      dsimp only [pickL, pickR, nthH, delH, dropH, List.cons_append, List.nil_append] at h
      obtain ⟨hst, hp⟩ := hp
      refine embrasurelaw13_NetAll_r1_yield (by have := objAt h 0 rfl; rw [hst] at this; exact this) he_e_1 hr_e_1 ?_
      unfold embrasurelaw13_NetAll_r1
      have hPx5 := hPr5.mono hx
      have cpp_8 := rowCap h 2 rfl
      have cpqx_6p5 := rowCap h 8 rfl
      refine newL (o := [(Value.int .i64 0), (Value.int .u32 0), (Value.int .i64 0), (Value.int .u32 0), (Value.int .i64 0), (Value.slice none 0 0)]) h ?_
      intro b_7 w h
      refine storeL (ys := [(Value.int .i64 x_6.1), (Value.int .u32 x_6.2.1), (Value.int .i64 x_6.2.2.1), (Value.int .u32 x_6.2.2.2.1), (Value.int .i64 x_6.2.2.2.2.1), (Value.slice qx_6p5 x_6.2.2.2.2.2.length qx_6c5)]) h 0 0 rfl rfl rfl sz39 rfl rfl ?_
      intro w h
      dsimp only [setH, setVs, setV] at h
      refine ⟨_, (by have := objAt h 1 rfl; rw [hst] at this; exact this : _ = some (Obj.loop (embrasurelaw13_NetAll_lo1 fn_e_1 e_1 d))), rfl, ?_⟩
      replace h := h.putK 1 rfl (.loop { embrasurelaw13_NetAll_lo1 fn_e_1 e_1 d with state := .busy })
      dsimp only [setH] at h
      obtain ⟨Q_2, hq, hp⟩ := hp
      refine ⟨fun stop3_3 x5_3 a6_2 n8_1 m_9 w => ∃ (Bytes : List (Int)), ∃ (p_9 : Option Addr), ∃ (n_12 : Nat), ∃ (c_9 : Nat), (Addr.mk b_1 0 none) = stop3_3 ∧ (Addr.mk b_3 0 none) = x5_3 ∧ (Addr.mk b_4 0 none) = a6_2 ∧ (Addr.mk b_5 0 none) = n8_1 ∧ ([] : List Nat) = m_9 ∧ n_12 = Bytes.length ∧ Q_2 Bytes ∧ Mem (cel b_7 39 [(Value.int .i64 x_6.1), (Value.int .u32 x_6.2.1), (Value.int .i64 x_6.2.2.1), (Value.int .u32 x_6.2.2.2.1), (Value.int .i64 x_6.2.2.2.2.1), (Value.slice p_9 n_12 c_9)] :: row enc5 5 1 p_9 c_9 Bytes :: cel b_2 59 [(Value.slice p_8 s.2.1.length c_8), (Value.int .i64 s.2.2.1)] :: row enc39 39 6 p_8 c_8 s.2.1 :: cel b_5 3 [(Value.int .i64 s.2.2.2.1)] :: cel b_4 30 [(Value.int .u32 1), (Value.int .i64 1)] :: cel b_3 26 [(Value.pointer (some (Addr.mk b_2 0 none)))] :: cel b_1 5 [(Value.int .u8 stop)] :: pt l_1 (.loop { embrasurelaw13_NetAll_lo1 fn_e_1 e_1 d with state := .busy }) :: poolP enc5 5 1 s.2.2.2.2 :: FL2) w, ?_, ?_⟩
      · rintro stop3_3 x5_3 a6_2 n8_1 m_9 w ⟨Bytes, p_9, n_12, c_9, rfl, rfl, rfl, rfl, rfl, rfl, hp, h⟩
        replace hp := hq Bytes hp
        unfold embrasurelaw13_NetAll_j7
        have cpp_9 := rowCap h 1 rfl
        refine ⟨_, cellL h 6 0 rfl rfl rfl, ?_⟩
        refine ⟨_, cellL h 5 0 rfl rfl rfl, _, cellL h 5 1 rfl rfl rfl, ?_⟩
        refine ⟨_, cellL h 5 0 rfl rfl rfl, _, cellL h 5 1 rfl rfl rfl, ?_⟩
        replace h := h.pick [2, 2, 7]
        dsimp only [pickL, pickR, nthH, delH, dropH, List.cons_append, List.nil_append] at h
        refine net_Net_Send_ok (FL := cel b_7 39 [(Value.int .i64 x_6.1), (Value.int .u32 x_6.2.1), (Value.int .i64 x_6.2.2.1), (Value.int .u32 x_6.2.2.2.1), (Value.int .i64 x_6.2.2.2.2.1), (Value.slice p_9 Bytes.length c_9)] :: row enc5 5 1 p_9 c_9 Bytes :: cel b_5 3 [(Value.int .i64 s.2.2.2.1)] :: cel b_4 30 [(Value.int .u32 1), (Value.int .i64 1)] :: cel b_3 26 [(Value.pointer (some (Addr.mk b_2 0 none)))] :: cel b_1 5 [(Value.int .u8 stop)] :: pt l_1 (.loop { embrasurelaw13_NetAll_lo1 fn_e_1 e_1 d with state := .busy }) :: FL2) (fun w h => Rd.nil) rfl (Nat.le_refl _) h hp ?_
        rintro r_3 r_4 list_7 last_6 m_11 p_11 n_17 c_11 w rfl h hp
        have cpp_11 := rowCap h 1 rfl
        refine ⟨_, _, rfl, ?_⟩
        refine ⟨_, cellL h 5 0 rfl rfl rfl, ?_⟩
        refine storeL (ys := [(Value.int .i64 (IntKind.wrap .i64 (s.2.2.2.1 + 1)))]) h 5 0 rfl rfl rfl sz3 rfl rfl ?_
        intro w h
        dsimp only [setH, setVs, setV] at h
        refine ⟨_, cellL h 5 0 rfl rfl rfl, ?_⟩
        refine ⟨_, cellL h 8 0 rfl rfl rfl, ?_⟩
        refine cond_both hp (fun hp => ?_) (fun hp => ?_)
        · refine ⟨_, objAt h 9 rfl, ?_⟩
          replace h := h.putK 9 rfl (loopS (embrasurelaw13_NetAll_lo1 fn_e_1 e_1 d) 1 (fun (n : Nat) => ((if n = 0 then none else (some (.exit 2))) : Option Code)))
          dsimp only [setH] at h
          replace h := h.pick [9]
          dsimp only [pickL, pickR, nthH, delH, dropH, List.cons_append, List.nil_append] at h
          replace h := h.sel [0, 0, 0, 3, 3, 3, 3, 0] 2
          dsimp only [pickL, pickR, nthH, delH, dropH, List.cons_append, List.nil_append] at h
          exact hR false (1, list_7, last_6, (IntKind.wrap .i64 (s.2.2.2.1 + 1)), m_11) _ (Mem.exsI p_11 (Mem.exsI c_11 (h.pack 8 [pt l_1 (loopS (embrasurelaw13_NetAll_lo1 fn_e_1 e_1 d) 1 (fun (n : Nat) => ((if n = 0 then none else (some (.exit 2))) : Option Code))), cel b_2 59 [(Value.slice p_11 list_7.length c_11), (Value.int .i64 last_6)], row enc39 39 6 p_11 c_11 list_7, cel b_5 3 [(Value.int .i64 (IntKind.wrap .i64 (s.2.2.2.1 + 1)))], cel b_4 30 [(Value.int .u32 1), (Value.int .i64 1)], cel b_3 26 [(Value.pointer (some (Addr.mk b_2 0 none)))], cel b_1 5 [(Value.int .u8 stop)], poolP enc5 5 1 m_11] rfl))) hp
        refine ⟨_, objAt h 9 rfl, ?_⟩
        replace h := h.putK 9 rfl (loopS (embrasurelaw13_NetAll_lo1 fn_e_1 e_1 d) 0 (fun (n : Nat) => ((if n = 0 then none else (some (.exit 2))) : Option Code)))
        dsimp only [setH] at h
        replace h := h.pick [9]
        dsimp only [pickL, pickR, nthH, delH, dropH, List.cons_append, List.nil_append] at h
        replace h := h.sel [0, 0, 0, 3, 3, 3, 3, 0] 2
        dsimp only [pickL, pickR, nthH, delH, dropH, List.cons_append, List.nil_append] at h
        exact hR true (0, list_7, last_6, (IntKind.wrap .i64 (s.2.2.2.1 + 1)), m_11) _ (Mem.exsI p_11 (Mem.exsI c_11 (h.pack 8 [pt l_1 (loopS (embrasurelaw13_NetAll_lo1 fn_e_1 e_1 d) 0 (fun (n : Nat) => ((if n = 0 then none else (some (.exit 2))) : Option Code))), cel b_2 59 [(Value.slice p_11 list_7.length c_11), (Value.int .i64 last_6)], row enc39 39 6 p_11 c_11 list_7, cel b_5 3 [(Value.int .i64 (IntKind.wrap .i64 (s.2.2.2.1 + 1)))], cel b_4 30 [(Value.int .u32 1), (Value.int .i64 1)], cel b_3 26 [(Value.pointer (some (Addr.mk b_2 0 none)))], cel b_1 5 [(Value.int .u8 stop)], poolP enc5 5 1 m_11] rfl))) hp
      clear hq
      obtain ⟨I_1, ⟨n_16, h0⟩, hq⟩ := hp
      replace h := h.sel [0, 8, 1, 1, 1, 1, 1, 1, 0, 0] 0
      dsimp only [pickL, pickR, nthH, delH, dropH, List.cons_append, List.nil_append] at h
      refine ⟨fun n_14 stop3_4 x5_4 a6_3 n8_2 s9 k10 m_10 w => ∃ (Bytes_1 : List (Int)), ∃ (p_10 : Option Addr), ∃ (n_13 : Nat), ∃ (c_10 : Nat), (Addr.mk b_1 0 none) = stop3_4 ∧ (Addr.mk b_3 0 none) = x5_4 ∧ (Addr.mk b_4 0 none) = a6_3 ∧ (Addr.mk b_5 0 none) = n8_2 ∧ (Addr.mk b_7 0 none) = s9 ∧ ([] : List Nat) = m_10 ∧ n_13 = Bytes_1.length ∧ I_1 n_14 Bytes_1 k10 ∧ Mem (cel b_7 39 [(Value.int .i64 x_6.1), (Value.int .u32 x_6.2.1), (Value.int .i64 x_6.2.2.1), (Value.int .u32 x_6.2.2.2.1), (Value.int .i64 x_6.2.2.2.2.1), (Value.slice p_10 n_13 c_10)] :: row enc5 5 1 p_10 c_10 Bytes_1 :: cel b_2 59 [(Value.slice p_8 s.2.1.length c_8), (Value.int .i64 s.2.2.1)] :: row enc39 39 6 p_8 c_8 s.2.1 :: cel b_5 3 [(Value.int .i64 s.2.2.2.1)] :: cel b_4 30 [(Value.int .u32 1), (Value.int .i64 1)] :: cel b_3 26 [(Value.pointer (some (Addr.mk b_2 0 none)))] :: cel b_1 5 [(Value.int .u8 stop)] :: pt l_1 (.loop { embrasurelaw13_NetAll_lo1 fn_e_1 e_1 d with state := .busy }) :: poolP enc5 5 1 s.2.2.2.2 :: FL2) w, ⟨n_16, x_6.2.2.2.2.2, qx_6p5, x_6.2.2.2.2.2.length, qx_6c5, rfl, rfl, rfl, rfl, rfl, rfl, rfl, h0, h⟩, ?_⟩
      clear h0 h
      rintro n_14 stop3_4 x5_4 a6_3 n8_2 s9 k10 m_10 w ⟨Bytes_1, p_10, n_13, c_10, rfl, rfl, rfl, rfl, rfl, rfl, rfl, hp, h⟩
      replace hp := hq n_14 Bytes_1 k10 hp
      clear hq
      unfold embrasurelaw13_NetAll_l8
      have cpp_10 := rowCap h 1 rfl
      refine ⟨_, _, _, cellL h 0 5 rfl rfl rfl, ?_⟩
      refine cond_both' hp (fun hp => ?_) (fun hp => ?_)
      · exact ⟨Bytes_1, p_10, Bytes_1.length, c_10, rfl, rfl, rfl, rfl, rfl, rfl, hp, h⟩
      replace h := h.drew
      refine ⟨_, _, _, cellL h 0 5 rfl rfl rfl, ?_⟩
      refine ⟨_, _, _, cellL h 0 5 rfl rfl rfl, ?_⟩
      obtain ⟨ia_3, ja_3, hp⟩ := hp
      obtain ⟨a_3, ha_3⟩ := rdAddr (rowRd h 1 encL5 rfl) rfl ia_3 ja_3
      refine ⟨a_3, ha_3, ia_3, ja_3, ?_⟩
      obtain ⟨x_7, hx_7, hc⟩ := rdCell0 (rowRd h 1 encL5 rfl) ha_3 rfl ia_3 ja_3
      replace hp := hp x_7 hx_7
      refine ⟨_, hc _ rfl, ?_⟩
      obtain ⟨ia_4, ja_4, hp⟩ := hp
      obtain ⟨a_4, ha_4⟩ := rdAddr (rowRd h 1 encL5 rfl) rfl ia_4 ja_4
      refine ⟨a_4, ha_4, ia_4, ja_4, ?_⟩
      refine rowSetW (ys := [(Value.int .u8 (IntKind.wrap .u8 (x_7 + 1)))]) (x := (IntKind.wrap .u8 (x_7 + 1))) h 1 encL5 rfl ha_4 rfl ia_4 ja_4 sz5 rfl rfl rfl ?_
      intro w h
      dsimp only [setH, setVs, setV] at h
      obtain ⟨n_15, hn, hp⟩ := hp
      exact ⟨n_15, hn, (List.set Bytes_1 (Int.toNat k10) (IntKind.wrap .u8 (x_7 + 1))), p_10, Bytes_1.length, c_10, rfl, rfl, rfl, rfl, rfl, rfl, (lenSet rfl), hp, h⟩
    intro s_1 w h hp
    replace h := h.pick [1]
    dsimp only [pickL, pickR, nthH, delH, dropH, List.cons_append, List.nil_append] at h
    obtain ⟨p_12, h⟩ := Mem.exs h
    obtain ⟨c_12, h⟩ := Mem.exs h
    replace h := h.unpack
    dsimp only [pickL, pickR, nthH, delH, dropH, List.cons_append, List.nil_append] at h
    replace h := h.pick [11, 7]
    dsimp only [pickL, pickR, nthH, delH, dropH, List.cons_append, List.nil_append] at h
    replace h := poolMerge h
    have cpp_12 := rowCap h 3 rfl
    refine ⟨_, objAt h 1 rfl, loopS_ns _, ?_⟩
    replace h := h.putK 1 rfl (.loop { embrasurelaw13_NetAll_lo1 fn_e_1 e_1 d with state := .exhausted, pending := (fun (n : Nat) => ((if n = 0 then none else (some (.exit 2))) : Option Code)) s_1.1 })
    dsimp only [setH] at h
    rcases hp with ⟨hst, hp⟩ | ⟨hst, hp⟩
    · refine Or.inl ?_
      refine ⟨congrArg (fun (n : Nat) => ((if n = 0 then none else (some (.exit 2))) : Option Code)) hst, ?_⟩
      replace h := h.sel [4, 4, 4, 2, 2, 2, 0, 2] 3
      dsimp only [pickL, pickR, nthH, delH, dropH, List.cons_append, List.nil_append] at h
      exact ⟨s_1.2.2.2.1, s_1.2.1, p_12, s_1.2.1.length, c_12, s_1.2.2.1, (m_1 ++ s_1.2.2.2.2), rfl, rfl, rfl, rfl, rfl, rfl, rfl, hp, h⟩
    · refine Or.inr (?_)
      refine ⟨show (fun (n : Nat) => ((if n = 0 then none else (some (.exit 2))) : Option Code)) s_1.1 = _ from if_neg hst, ?_⟩
      replace h := h.sel [4, 4, 4, 2, 2, 2, 0, 2] 3
      dsimp only [pickL, pickR, nthH, delH, dropH, List.cons_append, List.nil_append] at h
      exact ⟨s_1.2.2.2.1, s_1.2.1, p_12, s_1.2.1.length, c_12, s_1.2.2.1, (m_1 ++ s_1.2.2.2.2), rfl, rfl, rfl, rfl, rfl, rfl, rfl, hp, h⟩
  clear hq
  obtain ⟨I, ⟨n_8, h0⟩, hq⟩ := hp
  refine ⟨fun n_5 list0_1p list0_1l list0_1c stop3_1 t4_1 x5_1 a6_1 i7 m_4 w => ∃ (list_3 : List (Int × Int × Int × Int × Int × (Option Addr × Nat × Nat))), ∃ (p_4 : Option Addr), ∃ (n_4 : Nat), ∃ (c_4 : Nat), ∃ (last_2 : Int), ∃ (m_3 : List ((Option Addr × Nat × Nat) × List (Int))), p_1 = list0_1p ∧ list.length = list0_1l ∧ c_1 = list0_1c ∧ (Addr.mk b_1 0 none) = stop3_1 ∧ false = t4_1 ∧ (Addr.mk b_3 0 none) = x5_1 ∧ (Addr.mk b_4 0 none) = a6_1 ∧ n_4 = list_3.length ∧ I n_5 list_3 last_2 i7 m_3 ∧ Mem (cel b_4 30 [(Value.int .u32 1), (Value.int .i64 1)] :: cel b_3 26 [(Value.pointer (some (Addr.mk b_2 0 none)))] :: cel b_2 59 [(Value.slice p_4 n_4 c_4), (Value.int .i64 last_2)] :: row enc39 39 6 p_4 c_4 list_3 :: cel b_1 5 [(Value.int .u8 stop)] :: poolP enc5 5 1 m_3 :: marksP m_4 :: FL) w, ⟨n_8, list_1, p_2, list_1.length, c_2, last, ([] : List ((Option Addr × Nat × Nat) × List (Int))), rfl, rfl, rfl, rfl, rfl, rfl, rfl, rfl, h0, h⟩, ?_⟩
  clear h0 h
  rintro n_5 list0_1p list0_1l list0_1c stop3_1 t4_1 x5_1 a6_1 i7 m_4 w ⟨list_3, p_4, n_4, c_4, last_2, m_3, rfl, rfl, rfl, rfl, rfl, rfl, rfl, rfl, hp, h⟩
  replace hp := hq n_5 list_3 last_2 i7 m_3 hp
  clear hq
  unfold embrasurelaw13_NetAll_l9
  have cpp_4 := rowCap h 3 rfl
  refine cond_both' hp (fun hp => ?_) (fun hp => ?_)
  · exact ⟨list_3, p_4, list_3.length, c_4, last_2, m_3, rfl, rfl, rfl, rfl, rfl, rfl, rfl, rfl, hp, h⟩
  obtain ⟨ia_1, ja_1, hp⟩ := hp
  obtain ⟨a_1, ha_1⟩ := rdAddrD (hF_list _ (h.drop 7)) rfl ia_1 ja_1
  refine ⟨a_1, ha_1, ia_1, ja_1, ?_⟩
  obtain ⟨x_1, hx_1, cs, hR, hc0, hc1, hc2⟩ := rdCellD (hF_list _ (h.drop 7)) ha_1 rfl ia_1 ja_1
  replace hp := hp x_1 hx_1
  obtain ⟨qp0, qn0, qc0, rfl, rfl, hc_qp0, hF_qp0⟩ := hR
  refine ⟨_, _, _, hc0 _ rfl, ?_⟩
  refine cond_both hp (fun hp => ?_) (fun hp => ?_)
  · replace h := h.pick [6]
    dsimp only [pickL, pickR, nthH, delH, dropH, List.cons_append, List.nil_append] at h
    refine finishMarks _ h ?_
    intro w h
    replace h := h.sel [] 6
    dsimp only [pickL, pickR, nthH, delH, dropH, List.cons_append, List.nil_append] at h
    exact hR true _ h hp
  replace h := h.drew
  refine ⟨_, cellL h 1 0 rfl rfl rfl, ?_⟩
  refine ⟨_, cellL h 0 0 rfl rfl rfl, _, cellL h 0 1 rfl rfl rfl, ?_⟩
  refine ⟨_, cellL h 0 0 rfl rfl rfl, _, cellL h 0 1 rfl rfl rfl, ?_⟩
  obtain ⟨ia_2, ja_2, hp⟩ := hp
  obtain ⟨a_2, ha_2⟩ := rdAddrD (hF_list _ (h.drop 7)) rfl ia_2 ja_2
  refine ⟨a_2, ha_2, ia_2, ja_2, ?_⟩
  obtain ⟨x_2, hx_2, cs, hR, hc0, hc1, hc2⟩ := rdCellD (hF_list _ (h.drop 7)) ha_2 rfl ia_2 ja_2
  replace hp := hp x_2 hx_2
  obtain ⟨q_1p0, q_1n0, q_1c0, rfl, rfl, hc_q_1p0, hF_q_1p0⟩ := hR
  refine ⟨_, _, _, hc0 _ rfl, ?_⟩
  replace h := h.pick [2, 2, 3]
  dsimp only [pickL, pickR, nthH, delH, dropH, List.cons_append, List.nil_append] at h
  refine net_Net_Send_ok (FL := cel b_4 30 [(Value.int .u32 1), (Value.int .i64 1)] :: cel b_3 26 [(Value.pointer (some (Addr.mk b_2 0 none)))] :: cel b_1 5 [(Value.int .u8 stop)] :: marksP m_4 :: FL) (fun w h => (hF_q_1p0 _ (h.drop 4))) rfl hc_q_1p0 h hp ?_
  rintro r_1 r_2 list_4 last_3 m_5 p_5 n_6 c_5 w rfl h hp
  have cpp_5 := rowCap h 1 rfl
  refine ⟨_, _, rfl, ?_⟩
  replace h := h.sel [3, 3, 0, 0, 1, 0, 0] 0
  dsimp only [pickL, pickR, nthH, delH, dropH, List.cons_append, List.nil_append] at h
  obtain ⟨n_7, hn, hp⟩ := hp
  exact ⟨n_7, hn, list_4, p_5, list_4.length, c_5, last_3, m_5, rfl, rfl, rfl, rfl, rfl, rfl, rfl, rfl, hp, h⟩

end Go.Proofs.Ytdgjmiacfpihnaa
