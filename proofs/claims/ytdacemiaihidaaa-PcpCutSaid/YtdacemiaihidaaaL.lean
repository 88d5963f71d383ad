/- Each function over plain data (printed by a program of this claim's author). -/
import Derived.Test.YtdacemiaihidaaaL2
namespace Go.Proofs.Ytdacemiaihidaaa
open Go Go.Eng Go.Proofs
set_option maxRecDepth 100000
set_option maxHeartbeats 2000000

/-! embrasure/embrasurelaw10.PcpCut (5) -/
def embrasurelaw10_PcpCut_wp (l_Ver : Int) (l_Inside : Int) (l_Port : Int) (l_Secs : Int) (l_Nonce : Int) (l_Result : Int) (l_Epoch : Int) (l_Host : Int) (client : Int) (at_ : Int) (K : Bool → Prop) : Prop :=
  embrasurelaw10_awake_wp (fun (r : Bool) => cond (!r) (K false) (pcp_Ask_wp l_Ver l_Inside l_Port l_Secs l_Nonce l_Result l_Epoch l_Host client (fun (rs : List (Int)) => pcp_Answer_wp l_Ver l_Inside l_Port l_Secs l_Nonce l_Result l_Epoch l_Host (fun (rs_1 : List (Int)) => ∃ (I : Nat → Int → Prop), (∃ (n_15 : Nat), I n_15 0) ∧ ∀ (n_3 : Nat) (t26 : Int), I n_3 t26 → (cond (decide ((t26 : Int) < ((2 : Nat) : Int))) (0 ≤ (t26 : Int) ∧ (t26 : Int) < ((2 : Nat) : Int) ∧ (∀ (x_1 : (List (Int))), [rs, rs_1][Int.toNat t26]? = some x_1 → (cond ((((x_1.length : Nat) : Int) : Int) == 0) (∃ (n_4 : Nat), n_4 < n_3 ∧ I n_4 (IntKind.wrap .i64 (t26 + 1))) ((([] : List (Int)).length + x_1.length) * 1 ≤ 140737488355328 ∧ (0 ≤ (0 : Int) ∧ (0 : Int) < (((([] : List (Int)) ++ x_1).length : Nat) : Int) ∧ (∀ (x_2 : Int), (([] : List (Int)) ++ x_1)[Int.toNat 0]? = some x_2 → (0 ≤ (0 : Int) ∧ (0 : Int) < (((([] : List (Int)) ++ x_1).length : Nat) : Int) ∧ (joinP0 (cond ((((x_1.length : Nat) : Int) : Int) != 60) (K false) (pcp_Version_wp x_1 (fun (r_1 : Int) => cond ((r_1 : Int) != 2) (K false) (∃ (n_5 : Nat), n_5 < n_3 ∧ I n_5 (IntKind.wrap .i64 (t26 + 1)))))) (fun (Q : Prop) => 0 ≤ ((Int.tmod (IntKind.wrap .i64 at_) 60) : Int) ∧ ((Int.tmod (IntKind.wrap .i64 at_) 60) : Int) ≤ ((x_1.length : Nat) : Int) ∧ ((((([] : List (Int)).length + x_1.length) * 1 ≤ 140737488355328 ∧ (((([] : List (Int)) ++ x_1).length + [at_].length) * 1 ≤ 140737488355328 ∧ (∃ (I_1 : Nat → Int → Prop), (∃ (n_8 : Nat), I_1 n_8 0) ∧ ∀ (n_6 : Nat) (t59 : Int), I_1 n_6 t59 → (cond (decide ((t59 : Int) < ((3 : Nat) : Int))) (0 ≤ (t59 : Int) ∧ (t59 : Int) < ((3 : Nat) : Int) ∧ (∀ (x_4 : (List (Int))), [((x_1.take (Int.toNat (Int.tmod (IntKind.wrap .i64 at_) 60))).drop 0), ((([] : List (Int)) ++ x_1) ++ [at_]), (List.set (([] : List (Int)) ++ x_1) (Int.toNat 0) (bitsV .xor .u8 x_2 (IntKind.wrap .u8 (1 + (Int.tmod at_ 200)))))][Int.toNat t59]? = some x_4 → (pcp_ReadAsk_wp x_4 (fun (r_2 : Int) (r_3 : Int) (r_4 : Int) (r_5 : Int) (r_6 : Int) (r_7 : Int) (r_8 : Int) (r_9 : Int) (r_10 : Int) (r_11 : Int) => pcp_ReadAnswer_wp x_4 (fun (r_12 : Int) (r_13 : Int) (r_14 : Int) (r_15 : Int) (r_16 : Int) (r_17 : Int) (r_18 : Int) (r_19 : Int) (r_20 : Int) => joinP1 (fun (t79 : Bool) => cond t79 (K false) (∃ (n_7 : Nat), n_7 < n_6 ∧ I_1 n_7 (IntKind.wrap .i64 (t59 + 1)))) (fun (Q_1 : Bool → Prop) => cond ((r_11 : Int) != 3) (Q_1 true) (Q_1 ((r_20 : Int) != 3)))))))) (Q ))))) ∧ ((([] : List (Int)).length + x_1.length) * 1 ≤ 140737488355328 ∧ (((([] : List (Int)) ++ x_1).length + [at_].length) * 1 ≤ 140737488355328 ∧ (∃ (I_2 : Nat → Int → Prop), (∃ (n_11 : Nat), I_2 n_11 0) ∧ ∀ (n_9 : Nat) (t59_2 : Int), I_2 n_9 t59_2 → (cond (decide ((t59_2 : Int) < ((3 : Nat) : Int))) (0 ≤ (t59_2 : Int) ∧ (t59_2 : Int) < ((3 : Nat) : Int) ∧ (∀ (x_5 : (List (Int))), [((x_1.take (Int.toNat (Int.tmod (IntKind.wrap .i64 at_) 60))).drop 0), ((([] : List (Int)) ++ x_1) ++ [at_]), (List.set (([] : List (Int)) ++ x_1) (Int.toNat 0) (bitsV .xor .u8 x_2 (IntKind.wrap .u8 (1 + (Int.tmod at_ 200)))))][Int.toNat t59_2]? = some x_5 → (pcp_ReadAsk_wp x_5 (fun (r_21 : Int) (r_22 : Int) (r_23 : Int) (r_24 : Int) (r_25 : Int) (r_26 : Int) (r_27 : Int) (r_28 : Int) (r_29 : Int) (r_30 : Int) => pcp_ReadAnswer_wp x_5 (fun (r_31 : Int) (r_32 : Int) (r_33 : Int) (r_34 : Int) (r_35 : Int) (r_36 : Int) (r_37 : Int) (r_38 : Int) (r_39 : Int) => joinP1 (fun (t79_1 : Bool) => cond t79_1 (K false) (∃ (n_10 : Nat), n_10 < n_9 ∧ I_2 n_10 (IntKind.wrap .i64 (t59_2 + 1)))) (fun (Q_2 : Bool → Prop) => cond ((r_30 : Int) != 3) (Q_2 true) (Q_2 ((r_39 : Int) != 3)))))))) (Q )))))) ∧ ((([] : List (Int)).length + x_1.length) * 1 ≤ 140737488355328 ∧ (((([] : List (Int)) ++ x_1).length + [at_].length) * 1 ≤ 140737488355328 ∧ (∃ (I_3 : Nat → Int → Prop), (∃ (n_14 : Nat), I_3 n_14 0) ∧ ∀ (n_12 : Nat) (t59_4 : Int), I_3 n_12 t59_4 → (cond (decide ((t59_4 : Int) < ((3 : Nat) : Int))) (0 ≤ (t59_4 : Int) ∧ (t59_4 : Int) < ((3 : Nat) : Int) ∧ (∀ (x_6 : (List (Int))), [((x_1.take (Int.toNat (Int.tmod (IntKind.wrap .i64 at_) 60))).drop 0), ((([] : List (Int)) ++ x_1) ++ [at_]), (List.set (([] : List (Int)) ++ x_1) (Int.toNat 0) (bitsV .xor .u8 x_2 (IntKind.wrap .u8 (1 + (Int.tmod at_ 200)))))][Int.toNat t59_4]? = some x_6 → (pcp_ReadAsk_wp x_6 (fun (r_40 : Int) (r_41 : Int) (r_42 : Int) (r_43 : Int) (r_44 : Int) (r_45 : Int) (r_46 : Int) (r_47 : Int) (r_48 : Int) (r_49 : Int) => pcp_ReadAnswer_wp x_6 (fun (r_50 : Int) (r_51 : Int) (r_52 : Int) (r_53 : Int) (r_54 : Int) (r_55 : Int) (r_56 : Int) (r_57 : Int) (r_58 : Int) => joinP1 (fun (t79_2 : Bool) => cond t79_2 (K false) (∃ (n_13 : Nat), n_13 < n_12 ∧ I_3 n_13 (IntKind.wrap .i64 (t59_4 + 1)))) (fun (Q_3 : Bool → Prop) => cond ((r_49 : Int) != 3) (Q_3 true) (Q_3 ((r_58 : Int) != 3)))))))) (Q ))))))))))))))) (K true))))))
theorem embrasurelaw10_PcpCut_ok {l_Ver : Int} {l_Inside : Int} {l_Port : Int} {l_Secs : Int} {l_Nonce : Int} {l_Result : Int} {l_Epoch : Int} {l_Host : Int} {client : Int} {at_ : Int} {FL : List HP} {w : World} {K : Bool → Prop} {R : Value → World → Prop}
  (h : Mem (FL) w) (hp : embrasurelaw10_PcpCut_wp l_Ver l_Inside l_Port l_Secs l_Nonce l_Result l_Epoch l_Host client at_ K)
  (hR : ∀ (r : Bool) (w : World), Mem (FL) w → K r → R (Value.bool r) w) :
  CallV Try.prog 5 #[(Value.agg #[(Value.int .i64 l_Ver), (Value.int .i64 l_Inside), (Value.int .i64 l_Port), (Value.int .i64 l_Secs), (Value.int .u64 l_Nonce), (Value.int .i64 l_Result), (Value.int .i64 l_Epoch), (Value.int .u32 l_Host)]), (Value.int .u32 client), (Value.int .u8 at_)] w R := by
  refine embrasurelaw10_PcpCut_call ?_
  unfold embrasurelaw10_PcpCut
  unfold embrasurelaw10_PcpCut_wp at hp
  refine newL (o := [(Value.int .i64 l_Ver), (Value.int .i64 l_Inside), (Value.int .i64 l_Port), (Value.int .i64 l_Secs), (Value.int .u64 l_Nonce), (Value.int .i64 l_Result), (Value.int .i64 l_Epoch), (Value.int .u32 l_Host)]) h ?_
  intro b_1 w h
  refine embrasurelaw10_awake_ok h hp ?_
  intro r w h hp
  refine ⟨_, rfl, ?_⟩
  refine cond_both hp (fun hp => ?_) (fun hp => ?_)
  · replace h := h.sel [] 1
    dsimp only [pickL, pickR, nthH, delH, dropH, List.cons_append, List.nil_append] at h
    exact hR false _ h hp
  replace h := h.drew
  refine ⟨fun w => Mem (cel b_1 25 [(Value.int .i64 l_Ver), (Value.int .i64 l_Inside), (Value.int .i64 l_Port), (Value.int .i64 l_Secs), (Value.int .u64 l_Nonce), (Value.int .i64 l_Result), (Value.int .i64 l_Epoch), (Value.int .u32 l_Host)] :: FL) w, (h.sel [0] 0), ?_⟩
  refine ⟨_, cellL h 0 0 rfl rfl rfl, _, cellL h 0 1 rfl rfl rfl, _, cellL h 0 2 rfl rfl rfl, _, cellL h 0 3 rfl rfl rfl, _, cellL h 0 4 rfl rfl rfl, _, cellL h 0 5 rfl rfl rfl, _, cellL h 0 6 rfl rfl rfl, _, cellL h 0 7 rfl rfl rfl, ?_⟩
  refine ⟨_, cellL h 0 0 rfl rfl rfl, _, cellL h 0 1 rfl rfl rfl, _, cellL h 0 2 rfl rfl rfl, _, cellL h 0 3 rfl rfl rfl, _, cellL h 0 4 rfl rfl rfl, _, cellL h 0 5 rfl rfl rfl, _, cellL h 0 6 rfl rfl rfl, _, cellL h 0 7 rfl rfl rfl, ?_⟩
  refine ⟨?_, ?_⟩
  · intro w h
    change Mem _ _ at h
    refine ⟨_, cellL h 0 0 rfl rfl rfl, _, cellL h 0 1 rfl rfl rfl, _, cellL h 0 2 rfl rfl rfl, _, cellL h 0 3 rfl rfl rfl, _, cellL h 0 4 rfl rfl rfl, _, cellL h 0 5 rfl rfl rfl, _, cellL h 0 6 rfl rfl rfl, _, cellL h 0 7 rfl rfl rfl, ?_⟩
    exact ⟨rfl, rfl⟩
  refine pcp_Ask_ok h hp ?_
  rintro rs p_1 n_1 c_1 w rfl h hp
  have cpp_1 := rowCap h 0 rfl
  refine ⟨_, _, _, rfl, ?_⟩
  refine ⟨(h.sel [1] 1), ?_⟩
  refine pcp_Answer_ok h hp ?_
  rintro rs_1 p_2 n_2 c_2 w rfl h hp
  have cpp_2 := rowCap h 0 rfl
  refine ⟨_, _, _, rfl, ?_⟩
  refine ⟨(h.sel [2] 2), ?_⟩
  refine newL (o := [(Value.slice p_1 rs.length c_1), (Value.slice p_2 rs_1.length c_2)]) h ?_
  intro b_2 w h
  refine ⟨(h.sel [3] 3), ?_⟩
  refine ⟨?_, ?_⟩
  · intro w h
    change Mem _ _ at h
    exact ⟨rfl, rfl⟩
  obtain ⟨I, ⟨n_15, h0⟩, hq⟩ := hp
  replace h := h.sel [0, 1, 0, 0] 0
  dsimp only [pickL, pickR, nthH, delH, dropH, List.cons_append, List.nil_append] at h
  refine ⟨fun n_3 at2 t24p t24l t24c t25 t26 w => at_ = at2 ∧ (some ⟨b_2, 0, none⟩) = t24p ∧ 2 = t24l ∧ 2 = t24c ∧ ((2 : Nat) : Int) = t25 ∧ I n_3 t26 ∧ Mem (cel b_2 27 [(Value.slice p_1 rs.length c_1), (Value.slice p_2 rs_1.length c_2)] :: row enc5 5 1 p_1 c_1 rs :: row enc5 5 1 p_2 c_2 rs_1 :: cel b_1 25 [(Value.int .i64 l_Ver), (Value.int .i64 l_Inside), (Value.int .i64 l_Port), (Value.int .i64 l_Secs), (Value.int .u64 l_Nonce), (Value.int .i64 l_Result), (Value.int .i64 l_Epoch), (Value.int .u32 l_Host)] :: FL) w, ⟨n_15, rfl, rfl, rfl, rfl, rfl, h0, h⟩, ?_⟩
  clear h0 h
  rintro n_3 at2 t24p t24l t24c t25 t26 w ⟨rfl, rfl, rfl, rfl, rfl, hp, h⟩
  replace hp := hq n_3 t26 hp
  clear hq
  unfold embrasurelaw10_PcpCut_l1
  refine cond_both' hp (fun hp => ?_) (fun hp => ?_)
  · replace h := h.sel [] 4
    dsimp only [pickL, pickR, nthH, delH, dropH, List.cons_append, List.nil_append] at h
    exact hR true _ h hp
  obtain ⟨ia_1, ja_1, hp⟩ := hp
  obtain ⟨a_1, ha_1⟩ := rdAddrD (celRdD (R := encR27 (row enc5 5 1 p_1 c_1 rs :: row enc5 5 1 p_2 c_2 rs_1 :: FL)) (z := 1) h 0 rfl [rs, rs_1] [[(Value.slice p_1 rs.length c_1)], [(Value.slice p_2 rs_1.length c_2)]] rfl rfl (Fa2.cons ⟨_, _, _, rfl, rfl, cpp_1, (fun w h => (rowRd h 0 encL5 rfl))⟩ (Fa2.cons ⟨_, _, _, rfl, rfl, cpp_2, (fun w h => (rowRd h 1 encL5 rfl))⟩ Fa2.nil))) rfl ia_1 ja_1
  refine ⟨a_1, ha_1, ia_1, ja_1, ?_⟩
  obtain ⟨x_1, hx_1, cs, hR, hc0, hc1, hc2⟩ := rdCellD (celRdD (R := encR27 (row enc5 5 1 p_1 c_1 rs :: row enc5 5 1 p_2 c_2 rs_1 :: FL)) (z := 1) h 0 rfl [rs, rs_1] [[(Value.slice p_1 rs.length c_1)], [(Value.slice p_2 rs_1.length c_2)]] rfl rfl (Fa2.cons ⟨_, _, _, rfl, rfl, cpp_1, (fun w h => (rowRd h 0 encL5 rfl))⟩ (Fa2.cons ⟨_, _, _, rfl, rfl, cpp_2, (fun w h => (rowRd h 1 encL5 rfl))⟩ Fa2.nil))) ha_1 rfl ia_1 ja_1
  replace hp := hp x_1 hx_1
  obtain ⟨qp0, qn0, qc0, rfl, rfl, hc_qp0, hF_qp0⟩ := hR
  refine ⟨_, _, _, hc0 _ rfl, ?_⟩
  refine cond_both hp (fun hp => ?_) (fun hp => ?_)
  · obtain ⟨n_4, hn, hp⟩ := hp
    exact ⟨n_4, hn, rfl, rfl, rfl, rfl, rfl, hp, h⟩
  refine newL (o := []) h ?_
  intro b_3 w h
  have sr := (hF_qp0 _ (h.sel [2, 2] 3))
  replace h := rowOfCel h 0 encL5 rfl ([] : List (Int)) rfl
  dsimp only [setH, setVs, setV] at h
  obtain ⟨hb, hp⟩ := hp
  refine appendL slt27 und27 encL5 encO5 h 0 rfl rfl sr rfl hb ?_
  intro p_3 c_3 w h
  dsimp only [setH, setVs, setV] at h
  have cpp_3 := rowCap h 0 rfl
  refine ⟨_, _, _, rfl, ?_⟩
  obtain ⟨ia_2, ja_2, hp⟩ := hp
  obtain ⟨a_2, ha_2⟩ := rdAddr (rowRd h 0 encL5 rfl) rfl ia_2 ja_2
  refine ⟨a_2, ha_2, ia_2, ja_2, ?_⟩
  obtain ⟨x_2, hx_2, hc⟩ := rdCell0 (rowRd h 0 encL5 rfl) ha_2 rfl ia_2 ja_2
  replace hp := hp x_2 hx_2
  refine ⟨_, hc _ rfl, ?_⟩
  refine ⟨by decide, ?_⟩
  obtain ⟨ia_3, ja_3, hp⟩ := hp
  obtain ⟨a_3, ha_3⟩ := rdAddr (rowRd h 0 encL5 rfl) rfl ia_3 ja_3
  refine ⟨a_3, ha_3, ia_3, ja_3, ?_⟩
  refine rowSetW (ys := [(Value.int .u8 (bitsV .xor .u8 x_2 (IntKind.wrap .u8 (1 + (Int.tmod at_ 200)))))]) (x := (bitsV .xor .u8 x_2 (IntKind.wrap .u8 (1 + (Int.tmod at_ 200))))) h 0 encL5 rfl ha_3 rfl ia_3 ja_3 sz5 rfl rfl rfl ?_
  intro w h
  dsimp only [setH, setVs, setV] at h
  obtain ⟨Q, hq, hp⟩ := hp
  refine ⟨fun at2_1 x8p x8l x8c t24_1p t24_1l t24_1c t25_1 t26_1 w => at_ = at2_1 ∧ qp0 = x8p ∧ x_1.length = x8l ∧ qc0 = x8c ∧ (some ⟨b_2, 0, none⟩) = t24_1p ∧ 2 = t24_1l ∧ 2 = t24_1c ∧ ((2 : Nat) : Int) = t25_1 ∧ t26 = t26_1 ∧ Q ∧ Mem (cel b_2 27 [(Value.slice p_1 rs.length c_1), (Value.slice p_2 rs_1.length c_2)] :: row enc5 5 1 p_1 c_1 rs :: row enc5 5 1 p_2 c_2 rs_1 :: cel b_1 25 [(Value.int .i64 l_Ver), (Value.int .i64 l_Inside), (Value.int .i64 l_Port), (Value.int .i64 l_Secs), (Value.int .u64 l_Nonce), (Value.int .i64 l_Result), (Value.int .i64 l_Epoch), (Value.int .u32 l_Host)] :: FL) w, ?_, ?_⟩
  · rintro at2_1 x8p x8l x8c t24_1p t24_1l t24_1c t25_1 t26_1 w ⟨rfl, rfl, rfl, rfl, rfl, rfl, rfl, rfl, rfl, hp, h⟩
    replace hp := hq  hp
    unfold embrasurelaw10_PcpCut_j2
    refine cond_both hp (fun hp => ?_) (fun hp => ?_)
    · replace h := h.sel [] 4
      dsimp only [pickL, pickR, nthH, delH, dropH, List.cons_append, List.nil_append] at h
      exact hR false _ h hp
    refine pcp_Version_ok (FL := cel b_2 27 [(Value.slice p_1 rs.length c_1), (Value.slice p_2 rs_1.length c_2)] :: row enc5 5 1 p_1 c_1 rs :: row enc5 5 1 p_2 c_2 rs_1 :: cel b_1 25 [(Value.int .i64 l_Ver), (Value.int .i64 l_Inside), (Value.int .i64 l_Port), (Value.int .i64 l_Secs), (Value.int .u64 l_Nonce), (Value.int .i64 l_Result), (Value.int .i64 l_Epoch), (Value.int .u32 l_Host)] :: FL) (fun w h => (hF_qp0 _ (h.sel [1, 1] 2))) rfl hc_qp0 h hp ?_
    intro r_1 w h hp
    refine ⟨_, rfl, ?_⟩
    refine cond_both' hp (fun hp => ?_) (fun hp => ?_)
    · obtain ⟨n_5, hn, hp⟩ := hp
      exact ⟨n_5, hn, rfl, rfl, rfl, rfl, rfl, hp, h⟩
    replace h := h.sel [] 4
    dsimp only [pickL, pickR, nthH, delH, dropH, List.cons_append, List.nil_append] at h
    exact hR false _ h hp
  clear hq
  replace h := h.drew
  refine ⟨fun w => Mem (FL) w, (h.sel [] 5), ?_⟩
  refine ⟨by decide, ?_⟩
  obtain ⟨g_1ha, g_1hb, hp⟩ := hp
  have vg_1_lh : 0 ≤ (Int.toNat (Int.tmod (IntKind.wrap .i64 at_) 60)) := (Nat.zero_le _)
  have vg_1_hm : (Int.toNat (Int.tmod (IntKind.wrap .i64 at_) 60)) ≤ qc0 := (Nat.le_trans (natLe g_1ha g_1hb) hc_qp0)
  have vg_1_mc : qc0 ≤ qc0 := (Nat.le_refl _)
  have vg_1_hl : (Int.toNat (Int.tmod (IntKind.wrap .i64 at_) 60)) ≤ x_1.length := (leLen g_1ha g_1hb rfl)
  refine ⟨g_1ha, (leCap g_1hb hc_qp0), ?_⟩
  refine ⟨?_, ?_⟩
  · replace hp := hp.1
    refine newL (o := []) h ?_
    intro b_4 w h
    refine ⟨(h.sel [] 6), ?_⟩
    refine ⟨?_, ?_⟩
    · replace hp := hp.1
      have sr_1 := (hF_qp0 _ (h.sel [3, 3] 4))
      replace h := rowOfCel h 0 encL5 rfl ([] : List (Int)) rfl
      dsimp only [setH, setVs, setV] at h
      obtain ⟨hb, hp⟩ := hp
      refine appendL slt27 und27 encL5 encO5 h 0 rfl rfl sr_1 rfl hb ?_
      intro p_4 c_4 w h
      dsimp only [setH, setVs, setV] at h
      have cpp_4 := rowCap h 0 rfl
      refine ⟨_, _, _, rfl, ?_⟩
      refine ⟨(h.sel [] 6), ?_⟩
      refine newL (o := [(Value.int .u8 at_)]) h ?_
      intro b_5 w h
      refine ⟨(h.sel [] 7), ?_⟩
      have sr_2 := (celRd h 0 encL5 rfl [at_] rfl)
      obtain ⟨hb, hp⟩ := hp
      refine appendL slt27 und27 encL5 encO5 h 1 rfl rfl sr_2 rfl hb ?_
      intro p_5 c_5 w h
      dsimp only [setH, setVs, setV] at h
      have cpp_5 := rowCap h 1 rfl
      refine ⟨_, _, _, rfl, ?_⟩
      refine ⟨(h.sel [] 7), ?_⟩
      refine newL (o := [(Value.slice (slAddr qp0 1 0 qc0) ((Int.toNat (Int.tmod (IntKind.wrap .i64 at_) 60)) - 0) (qc0 - 0)), (Value.slice p_5 ((([] : List (Int)) ++ x_1) ++ [at_]).length c_5), (Value.slice p_3 (([] : List (Int)) ++ x_1).length c_3)]) h ?_
      intro b_6 w h
      refine ⟨(h.sel [] 8), ?_⟩
      refine ⟨?_, ?_⟩
      · intro w h
        change Mem _ _ at h
        exact ⟨rfl, rfl⟩
      obtain ⟨I_1, ⟨n_8, h0⟩, hq⟩ := hp
      replace h := h.sel [0, 1, 1, 0, 0, 0, 0, 0] 0
      dsimp only [pickL, pickR, nthH, delH, dropH, List.cons_append, List.nil_append] at h
      refine ⟨fun n_6 at2_2 x8_1p x8_1l x8_1c t24_2p t24_2l t24_2c t25_2 t26_2 t57p t57l t57c t58 t59 w => at_ = at2_2 ∧ qp0 = x8_1p ∧ x_1.length = x8_1l ∧ qc0 = x8_1c ∧ (some ⟨b_2, 0, none⟩) = t24_2p ∧ 2 = t24_2l ∧ 2 = t24_2c ∧ ((2 : Nat) : Int) = t25_2 ∧ t26 = t26_2 ∧ (some ⟨b_6, 0, none⟩) = t57p ∧ 3 = t57l ∧ 3 = t57c ∧ ((3 : Nat) : Int) = t58 ∧ I_1 n_6 t59 ∧ Mem (cel b_6 27 [(Value.slice (slAddr qp0 1 0 qc0) ((Int.toNat (Int.tmod (IntKind.wrap .i64 at_) 60)) - 0) (qc0 - 0)), (Value.slice p_5 ((([] : List (Int)) ++ x_1) ++ [at_]).length c_5), (Value.slice p_3 (([] : List (Int)) ++ x_1).length c_3)] :: row enc5 5 1 p_5 c_5 ((([] : List (Int)) ++ x_1) ++ [at_]) :: row enc5 5 1 p_3 c_3 (List.set (([] : List (Int)) ++ x_1) (Int.toNat 0) (bitsV .xor .u8 x_2 (IntKind.wrap .u8 (1 + (Int.tmod at_ 200))))) :: cel b_5 5 [(Value.int .u8 at_)] :: cel b_2 27 [(Value.slice p_1 rs.length c_1), (Value.slice p_2 rs_1.length c_2)] :: row enc5 5 1 p_1 c_1 rs :: row enc5 5 1 p_2 c_2 rs_1 :: cel b_1 25 [(Value.int .i64 l_Ver), (Value.int .i64 l_Inside), (Value.int .i64 l_Port), (Value.int .i64 l_Secs), (Value.int .u64 l_Nonce), (Value.int .i64 l_Result), (Value.int .i64 l_Epoch), (Value.int .u32 l_Host)] :: FL) w, ⟨n_8, rfl, rfl, rfl, rfl, rfl, rfl, rfl, rfl, rfl, rfl, rfl, rfl, rfl, h0, h⟩, ?_⟩
      clear h0 h
      rintro n_6 at2_2 x8_1p x8_1l x8_1c t24_2p t24_2l t24_2c t25_2 t26_2 t57p t57l t57c t58 t59 w ⟨rfl, rfl, rfl, rfl, rfl, rfl, rfl, rfl, rfl, rfl, rfl, rfl, rfl, hp, h⟩
      replace hp := hq n_6 t59 hp
      clear hq
      unfold embrasurelaw10_PcpCut_l3
      refine cond_both' hp (fun hp => ?_) (fun hp => ?_)
      · replace h := h.sel [4, 4, 4, 4] 4
        dsimp only [pickL, pickR, nthH, delH, dropH, List.cons_append, List.nil_append] at h
        exact ⟨rfl, rfl, rfl, rfl, rfl, rfl, rfl, rfl, rfl, hp, h⟩
      obtain ⟨ia_4, ja_4, hp⟩ := hp
      obtain ⟨a_4, ha_4⟩ := rdAddrD (celRdD (R := encR27 (row enc5 5 1 p_1 c_1 rs :: row enc5 5 1 p_2 c_2 rs_1 :: row enc5 5 1 p_5 c_5 ((([] : List (Int)) ++ x_1) ++ [at_]) :: row enc5 5 1 p_3 c_3 (List.set (([] : List (Int)) ++ x_1) (Int.toNat 0) (bitsV .xor .u8 x_2 (IntKind.wrap .u8 (1 + (Int.tmod at_ 200))))) :: FL)) (z := 1) h 0 rfl [((x_1.take (Int.toNat (Int.tmod (IntKind.wrap .i64 at_) 60))).drop 0), ((([] : List (Int)) ++ x_1) ++ [at_]), (List.set (([] : List (Int)) ++ x_1) (Int.toNat 0) (bitsV .xor .u8 x_2 (IntKind.wrap .u8 (1 + (Int.tmod at_ 200)))))] [[(Value.slice (slAddr qp0 1 0 qc0) ((Int.toNat (Int.tmod (IntKind.wrap .i64 at_) 60)) - 0) (qc0 - 0))], [(Value.slice p_5 ((([] : List (Int)) ++ x_1) ++ [at_]).length c_5)], [(Value.slice p_3 (([] : List (Int)) ++ x_1).length c_3)]] rfl rfl (Fa2.cons ⟨_, _, _, rfl, (viewLen vg_1_hl), (Nat.sub_le_sub_right vg_1_hm _), (fun w h => (Rd.view (hF_qp0 _ (h.sel [0, 0] 2)) (l := 0) (h := (Int.toNat (Int.tmod (IntKind.wrap .i64 at_) 60))) (m := qc0) vg_1_hm))⟩ (Fa2.cons ⟨_, _, _, rfl, rfl, cpp_5, (fun w h => (rowRd h 2 encL5 rfl))⟩ (Fa2.cons ⟨_, _, _, rfl, (lenSet rfl), cpp_3, (fun w h => (rowRd h 3 encL5 rfl))⟩ Fa2.nil)))) rfl ia_4 ja_4
      refine ⟨a_4, ha_4, ia_4, ja_4, ?_⟩
      obtain ⟨x_4, hx_4, cs, hR, hc0, hc1, hc2⟩ := rdCellD (celRdD (R := encR27 (row enc5 5 1 p_1 c_1 rs :: row enc5 5 1 p_2 c_2 rs_1 :: row enc5 5 1 p_5 c_5 ((([] : List (Int)) ++ x_1) ++ [at_]) :: row enc5 5 1 p_3 c_3 (List.set (([] : List (Int)) ++ x_1) (Int.toNat 0) (bitsV .xor .u8 x_2 (IntKind.wrap .u8 (1 + (Int.tmod at_ 200))))) :: FL)) (z := 1) h 0 rfl [((x_1.take (Int.toNat (Int.tmod (IntKind.wrap .i64 at_) 60))).drop 0), ((([] : List (Int)) ++ x_1) ++ [at_]), (List.set (([] : List (Int)) ++ x_1) (Int.toNat 0) (bitsV .xor .u8 x_2 (IntKind.wrap .u8 (1 + (Int.tmod at_ 200)))))] [[(Value.slice (slAddr qp0 1 0 qc0) ((Int.toNat (Int.tmod (IntKind.wrap .i64 at_) 60)) - 0) (qc0 - 0))], [(Value.slice p_5 ((([] : List (Int)) ++ x_1) ++ [at_]).length c_5)], [(Value.slice p_3 (([] : List (Int)) ++ x_1).length c_3)]] rfl rfl (Fa2.cons ⟨_, _, _, rfl, (viewLen vg_1_hl), (Nat.sub_le_sub_right vg_1_hm _), (fun w h => (Rd.view (hF_qp0 _ (h.sel [0, 0] 2)) (l := 0) (h := (Int.toNat (Int.tmod (IntKind.wrap .i64 at_) 60))) (m := qc0) vg_1_hm))⟩ (Fa2.cons ⟨_, _, _, rfl, rfl, cpp_5, (fun w h => (rowRd h 2 encL5 rfl))⟩ (Fa2.cons ⟨_, _, _, rfl, (lenSet rfl), cpp_3, (fun w h => (rowRd h 3 encL5 rfl))⟩ Fa2.nil)))) ha_4 rfl ia_4 ja_4
      replace hp := hp x_4 hx_4
      obtain ⟨q_1p0, q_1n0, q_1c0, rfl, rfl, hc_q_1p0, hF_q_1p0⟩ := hR
      refine ⟨_, _, _, hc0 _ rfl, ?_⟩
      refine pcp_ReadAsk_ok (FL := cel b_6 27 [(Value.slice (slAddr qp0 1 0 qc0) ((Int.toNat (Int.tmod (IntKind.wrap .i64 at_) 60)) - 0) (qc0 - 0)), (Value.slice p_5 ((([] : List (Int)) ++ x_1) ++ [at_]).length c_5), (Value.slice p_3 (([] : List (Int)) ++ x_1).length c_3)] :: row enc5 5 1 p_5 c_5 ((([] : List (Int)) ++ x_1) ++ [at_]) :: row enc5 5 1 p_3 c_3 (List.set (([] : List (Int)) ++ x_1) (Int.toNat 0) (bitsV .xor .u8 x_2 (IntKind.wrap .u8 (1 + (Int.tmod at_ 200))))) :: cel b_5 5 [(Value.int .u8 at_)] :: cel b_2 27 [(Value.slice p_1 rs.length c_1), (Value.slice p_2 rs_1.length c_2)] :: row enc5 5 1 p_1 c_1 rs :: row enc5 5 1 p_2 c_2 rs_1 :: cel b_1 25 [(Value.int .i64 l_Ver), (Value.int .i64 l_Inside), (Value.int .i64 l_Port), (Value.int .i64 l_Secs), (Value.int .u64 l_Nonce), (Value.int .i64 l_Result), (Value.int .i64 l_Epoch), (Value.int .u32 l_Host)] :: FL) (fun w h => (hF_q_1p0 _ (h.sel [5, 5, 1, 1] 4))) rfl hc_q_1p0 h hp ?_
      intro r_2 r_3 r_4 r_5 r_6 r_7 r_8 r_9 r_10 r_11 w h hp
      refine ⟨_, _, _, _, _, _, _, _, _, _, rfl, ?_⟩
      refine newL (o := [(Value.int .i64 0), (Value.int .i64 0), (Value.int .i64 0), (Value.int .i64 0), (Value.int .u64 0), (Value.int .i64 0), (Value.int .i64 0), (Value.int .u32 0)]) h ?_
      intro b_7 w h
      refine storeL (ys := [(Value.int .i64 r_2), (Value.int .i64 r_3), (Value.int .i64 r_4), (Value.int .i64 r_5), (Value.int .u64 r_6), (Value.int .i64 r_7), (Value.int .i64 r_8), (Value.int .u32 r_9)]) h 0 0 rfl rfl rfl sz25 rfl rfl ?_
      intro w h
      dsimp only [setH, setVs, setV] at h
      refine pcp_ReadAnswer_ok (FL := cel b_7 25 [(Value.int .i64 r_2), (Value.int .i64 r_3), (Value.int .i64 r_4), (Value.int .i64 r_5), (Value.int .u64 r_6), (Value.int .i64 r_7), (Value.int .i64 r_8), (Value.int .u32 r_9)] :: cel b_6 27 [(Value.slice (slAddr qp0 1 0 qc0) ((Int.toNat (Int.tmod (IntKind.wrap .i64 at_) 60)) - 0) (qc0 - 0)), (Value.slice p_5 ((([] : List (Int)) ++ x_1) ++ [at_]).length c_5), (Value.slice p_3 (([] : List (Int)) ++ x_1).length c_3)] :: row enc5 5 1 p_5 c_5 ((([] : List (Int)) ++ x_1) ++ [at_]) :: row enc5 5 1 p_3 c_3 (List.set (([] : List (Int)) ++ x_1) (Int.toNat 0) (bitsV .xor .u8 x_2 (IntKind.wrap .u8 (1 + (Int.tmod at_ 200))))) :: cel b_5 5 [(Value.int .u8 at_)] :: cel b_2 27 [(Value.slice p_1 rs.length c_1), (Value.slice p_2 rs_1.length c_2)] :: row enc5 5 1 p_1 c_1 rs :: row enc5 5 1 p_2 c_2 rs_1 :: cel b_1 25 [(Value.int .i64 l_Ver), (Value.int .i64 l_Inside), (Value.int .i64 l_Port), (Value.int .i64 l_Secs), (Value.int .u64 l_Nonce), (Value.int .i64 l_Result), (Value.int .i64 l_Epoch), (Value.int .u32 l_Host)] :: FL) (fun w h => (hF_q_1p0 _ (h.sel [6, 6, 2, 2] 5))) rfl hc_q_1p0 h hp ?_
      intro r_12 r_13 r_14 r_15 r_16 r_17 r_18 r_19 r_20 w h hp
      refine ⟨_, _, _, _, _, _, _, _, _, rfl, ?_⟩
      refine newL (o := [(Value.int .i64 0), (Value.int .i64 0), (Value.int .i64 0), (Value.int .i64 0), (Value.int .u64 0), (Value.int .i64 0), (Value.int .i64 0), (Value.int .u32 0)]) h ?_
      intro b_8 w h
      refine storeL (ys := [(Value.int .i64 r_12), (Value.int .i64 r_13), (Value.int .i64 r_14), (Value.int .i64 r_15), (Value.int .u64 r_16), (Value.int .i64 r_17), (Value.int .i64 r_18), (Value.int .u32 r_19)]) h 0 0 rfl rfl rfl sz25 rfl rfl ?_
      intro w h
      dsimp only [setH, setVs, setV] at h
      obtain ⟨Q_1, hq, hp⟩ := hp
      refine ⟨fun at2_3 x8_2p x8_2l x8_2c t24_3p t24_3l t24_3c t25_3 t26_3 t57_1p t57_1l t57_1c t58_1 t59_1 t79 w => at_ = at2_3 ∧ qp0 = x8_2p ∧ x_1.length = x8_2l ∧ qc0 = x8_2c ∧ (some ⟨b_2, 0, none⟩) = t24_3p ∧ 2 = t24_3l ∧ 2 = t24_3c ∧ ((2 : Nat) : Int) = t25_3 ∧ t26 = t26_3 ∧ (some ⟨b_6, 0, none⟩) = t57_1p ∧ 3 = t57_1l ∧ 3 = t57_1c ∧ ((3 : Nat) : Int) = t58_1 ∧ t59 = t59_1 ∧ Q_1 t79 ∧ Mem (cel b_8 25 [(Value.int .i64 r_12), (Value.int .i64 r_13), (Value.int .i64 r_14), (Value.int .i64 r_15), (Value.int .u64 r_16), (Value.int .i64 r_17), (Value.int .i64 r_18), (Value.int .u32 r_19)] :: cel b_7 25 [(Value.int .i64 r_2), (Value.int .i64 r_3), (Value.int .i64 r_4), (Value.int .i64 r_5), (Value.int .u64 r_6), (Value.int .i64 r_7), (Value.int .i64 r_8), (Value.int .u32 r_9)] :: cel b_6 27 [(Value.slice (slAddr qp0 1 0 qc0) ((Int.toNat (Int.tmod (IntKind.wrap .i64 at_) 60)) - 0) (qc0 - 0)), (Value.slice p_5 ((([] : List (Int)) ++ x_1) ++ [at_]).length c_5), (Value.slice p_3 (([] : List (Int)) ++ x_1).length c_3)] :: row enc5 5 1 p_5 c_5 ((([] : List (Int)) ++ x_1) ++ [at_]) :: row enc5 5 1 p_3 c_3 (List.set (([] : List (Int)) ++ x_1) (Int.toNat 0) (bitsV .xor .u8 x_2 (IntKind.wrap .u8 (1 + (Int.tmod at_ 200))))) :: cel b_5 5 [(Value.int .u8 at_)] :: cel b_2 27 [(Value.slice p_1 rs.length c_1), (Value.slice p_2 rs_1.length c_2)] :: row enc5 5 1 p_1 c_1 rs :: row enc5 5 1 p_2 c_2 rs_1 :: cel b_1 25 [(Value.int .i64 l_Ver), (Value.int .i64 l_Inside), (Value.int .i64 l_Port), (Value.int .i64 l_Secs), (Value.int .u64 l_Nonce), (Value.int .i64 l_Result), (Value.int .i64 l_Epoch), (Value.int .u32 l_Host)] :: FL) w, ?_, ?_⟩
      · rintro at2_3 x8_2p x8_2l x8_2c t24_3p t24_3l t24_3c t25_3 t26_3 t57_1p t57_1l t57_1c t58_1 t59_1 t79 w ⟨rfl, rfl, rfl, rfl, rfl, rfl, rfl, rfl, rfl, rfl, rfl, rfl, rfl, rfl, hp, h⟩
        replace hp := hq t79 hp
        unfold embrasurelaw10_PcpCut_j4
        refine cond_both hp (fun hp => ?_) (fun hp => ?_)
        · replace h := h.sel [] 10
          dsimp only [pickL, pickR, nthH, delH, dropH, List.cons_append, List.nil_append] at h
          exact hR false _ h hp
        replace h := h.sel [2, 2, 2, 2, 2, 2, 2, 2] 2
        dsimp only [pickL, pickR, nthH, delH, dropH, List.cons_append, List.nil_append] at h
        obtain ⟨n_7, hn, hp⟩ := hp
        exact ⟨n_7, hn, rfl, rfl, rfl, rfl, rfl, rfl, rfl, rfl, rfl, rfl, rfl, rfl, rfl, hp, h⟩
      clear hq
      refine cond_both hp (fun hp => ?_) (fun hp => ?_)
      · exact ⟨rfl, rfl, rfl, rfl, rfl, rfl, rfl, rfl, rfl, rfl, rfl, rfl, rfl, rfl, hp, h⟩
      exact ⟨rfl, rfl, rfl, rfl, rfl, rfl, rfl, rfl, rfl, rfl, rfl, rfl, rfl, rfl, hp, h⟩
    replace hp := hp.2
    refine newL (o := [(Value.int .u8 at_)]) h ?_
    intro b_9 w h
    refine ⟨(h.sel [] 7), ?_⟩
    have sr_3 := (hF_qp0 _ (h.sel [4, 4] 5))
    replace h := rowOfCel h 1 encL5 rfl ([] : List (Int)) rfl
    dsimp only [setH, setVs, setV] at h
    obtain ⟨hb, hp⟩ := hp
    refine appendL slt27 und27 encL5 encO5 h 1 rfl rfl sr_3 rfl hb ?_
    intro p_6 c_6 w h
    dsimp only [setH, setVs, setV] at h
    have cpp_6 := rowCap h 1 rfl
    refine ⟨_, _, _, rfl, ?_⟩
    refine ⟨(h.sel [] 7), ?_⟩
    have sr_4 := (celRd h 0 encL5 rfl [at_] rfl)
    obtain ⟨hb, hp⟩ := hp
    refine appendL slt27 und27 encL5 encO5 h 1 rfl rfl sr_4 rfl hb ?_
    intro p_7 c_7 w h
    dsimp only [setH, setVs, setV] at h
    have cpp_7 := rowCap h 1 rfl
    refine ⟨_, _, _, rfl, ?_⟩
    refine ⟨(h.sel [] 7), ?_⟩
    refine newL (o := [(Value.slice (slAddr qp0 1 0 qc0) ((Int.toNat (Int.tmod (IntKind.wrap .i64 at_) 60)) - 0) (qc0 - 0)), (Value.slice p_7 ((([] : List (Int)) ++ x_1) ++ [at_]).length c_7), (Value.slice p_3 (([] : List (Int)) ++ x_1).length c_3)]) h ?_
    intro b_10 w h
    refine ⟨(h.sel [] 8), ?_⟩
    refine ⟨?_, ?_⟩
    · intro w h
      change Mem _ _ at h
      exact ⟨rfl, rfl⟩
    obtain ⟨I_2, ⟨n_11, h0⟩, hq⟩ := hp
    replace h := h.sel [0, 1, 1, 0, 0, 0, 0, 0] 0
    dsimp only [pickL, pickR, nthH, delH, dropH, List.cons_append, List.nil_append] at h
    refine ⟨fun n_9 at2_4 x8_3p x8_3l x8_3c t24_4p t24_4l t24_4c t25_4 t26_4 t57_2p t57_2l t57_2c t58_2 t59_2 w => at_ = at2_4 ∧ qp0 = x8_3p ∧ x_1.length = x8_3l ∧ qc0 = x8_3c ∧ (some ⟨b_2, 0, none⟩) = t24_4p ∧ 2 = t24_4l ∧ 2 = t24_4c ∧ ((2 : Nat) : Int) = t25_4 ∧ t26 = t26_4 ∧ (some ⟨b_10, 0, none⟩) = t57_2p ∧ 3 = t57_2l ∧ 3 = t57_2c ∧ ((3 : Nat) : Int) = t58_2 ∧ I_2 n_9 t59_2 ∧ Mem (cel b_10 27 [(Value.slice (slAddr qp0 1 0 qc0) ((Int.toNat (Int.tmod (IntKind.wrap .i64 at_) 60)) - 0) (qc0 - 0)), (Value.slice p_7 ((([] : List (Int)) ++ x_1) ++ [at_]).length c_7), (Value.slice p_3 (([] : List (Int)) ++ x_1).length c_3)] :: row enc5 5 1 p_7 c_7 ((([] : List (Int)) ++ x_1) ++ [at_]) :: row enc5 5 1 p_3 c_3 (List.set (([] : List (Int)) ++ x_1) (Int.toNat 0) (bitsV .xor .u8 x_2 (IntKind.wrap .u8 (1 + (Int.tmod at_ 200))))) :: cel b_9 5 [(Value.int .u8 at_)] :: cel b_2 27 [(Value.slice p_1 rs.length c_1), (Value.slice p_2 rs_1.length c_2)] :: row enc5 5 1 p_1 c_1 rs :: row enc5 5 1 p_2 c_2 rs_1 :: cel b_1 25 [(Value.int .i64 l_Ver), (Value.int .i64 l_Inside), (Value.int .i64 l_Port), (Value.int .i64 l_Secs), (Value.int .u64 l_Nonce), (Value.int .i64 l_Result), (Value.int .i64 l_Epoch), (Value.int .u32 l_Host)] :: FL) w, ⟨n_11, rfl, rfl, rfl, rfl, rfl, rfl, rfl, rfl, rfl, rfl, rfl, rfl, rfl, h0, h⟩, ?_⟩
    clear h0 h
    rintro n_9 at2_4 x8_3p x8_3l x8_3c t24_4p t24_4l t24_4c t25_4 t26_4 t57_2p t57_2l t57_2c t58_2 t59_2 w ⟨rfl, rfl, rfl, rfl, rfl, rfl, rfl, rfl, rfl, rfl, rfl, rfl, rfl, hp, h⟩
    replace hp := hq n_9 t59_2 hp
    clear hq
    unfold embrasurelaw10_PcpCut_l5
    refine cond_both' hp (fun hp => ?_) (fun hp => ?_)
    · replace h := h.sel [4, 4, 4, 4] 4
      dsimp only [pickL, pickR, nthH, delH, dropH, List.cons_append, List.nil_append] at h
      exact ⟨rfl, rfl, rfl, rfl, rfl, rfl, rfl, rfl, rfl, hp, h⟩
    obtain ⟨ia_5, ja_5, hp⟩ := hp
    obtain ⟨a_5, ha_5⟩ := rdAddrD (celRdD (R := encR27 (row enc5 5 1 p_1 c_1 rs :: row enc5 5 1 p_2 c_2 rs_1 :: row enc5 5 1 p_7 c_7 ((([] : List (Int)) ++ x_1) ++ [at_]) :: row enc5 5 1 p_3 c_3 (List.set (([] : List (Int)) ++ x_1) (Int.toNat 0) (bitsV .xor .u8 x_2 (IntKind.wrap .u8 (1 + (Int.tmod at_ 200))))) :: FL)) (z := 1) h 0 rfl [((x_1.take (Int.toNat (Int.tmod (IntKind.wrap .i64 at_) 60))).drop 0), ((([] : List (Int)) ++ x_1) ++ [at_]), (List.set (([] : List (Int)) ++ x_1) (Int.toNat 0) (bitsV .xor .u8 x_2 (IntKind.wrap .u8 (1 + (Int.tmod at_ 200)))))] [[(Value.slice (slAddr qp0 1 0 qc0) ((Int.toNat (Int.tmod (IntKind.wrap .i64 at_) 60)) - 0) (qc0 - 0))], [(Value.slice p_7 ((([] : List (Int)) ++ x_1) ++ [at_]).length c_7)], [(Value.slice p_3 (([] : List (Int)) ++ x_1).length c_3)]] rfl rfl (Fa2.cons ⟨_, _, _, rfl, (viewLen vg_1_hl), (Nat.sub_le_sub_right vg_1_hm _), (fun w h => (Rd.view (hF_qp0 _ (h.sel [0, 0] 2)) (l := 0) (h := (Int.toNat (Int.tmod (IntKind.wrap .i64 at_) 60))) (m := qc0) vg_1_hm))⟩ (Fa2.cons ⟨_, _, _, rfl, rfl, cpp_7, (fun w h => (rowRd h 2 encL5 rfl))⟩ (Fa2.cons ⟨_, _, _, rfl, (lenSet rfl), cpp_3, (fun w h => (rowRd h 3 encL5 rfl))⟩ Fa2.nil)))) rfl ia_5 ja_5
    refine ⟨a_5, ha_5, ia_5, ja_5, ?_⟩
    obtain ⟨x_5, hx_5, cs, hR, hc0, hc1, hc2⟩ := rdCellD (celRdD (R := encR27 (row enc5 5 1 p_1 c_1 rs :: row enc5 5 1 p_2 c_2 rs_1 :: row enc5 5 1 p_7 c_7 ((([] : List (Int)) ++ x_1) ++ [at_]) :: row enc5 5 1 p_3 c_3 (List.set (([] : List (Int)) ++ x_1) (Int.toNat 0) (bitsV .xor .u8 x_2 (IntKind.wrap .u8 (1 + (Int.tmod at_ 200))))) :: FL)) (z := 1) h 0 rfl [((x_1.take (Int.toNat (Int.tmod (IntKind.wrap .i64 at_) 60))).drop 0), ((([] : List (Int)) ++ x_1) ++ [at_]), (List.set (([] : List (Int)) ++ x_1) (Int.toNat 0) (bitsV .xor .u8 x_2 (IntKind.wrap .u8 (1 + (Int.tmod at_ 200)))))] [[(Value.slice (slAddr qp0 1 0 qc0) ((Int.toNat (Int.tmod (IntKind.wrap .i64 at_) 60)) - 0) (qc0 - 0))], [(Value.slice p_7 ((([] : List (Int)) ++ x_1) ++ [at_]).length c_7)], [(Value.slice p_3 (([] : List (Int)) ++ x_1).length c_3)]] rfl rfl (Fa2.cons ⟨_, _, _, rfl, (viewLen vg_1_hl), (Nat.sub_le_sub_right vg_1_hm _), (fun w h => (Rd.view (hF_qp0 _ (h.sel [0, 0] 2)) (l := 0) (h := (Int.toNat (Int.tmod (IntKind.wrap .i64 at_) 60))) (m := qc0) vg_1_hm))⟩ (Fa2.cons ⟨_, _, _, rfl, rfl, cpp_7, (fun w h => (rowRd h 2 encL5 rfl))⟩ (Fa2.cons ⟨_, _, _, rfl, (lenSet rfl), cpp_3, (fun w h => (rowRd h 3 encL5 rfl))⟩ Fa2.nil)))) ha_5 rfl ia_5 ja_5
    replace hp := hp x_5 hx_5
    obtain ⟨q_2p0, q_2n0, q_2c0, rfl, rfl, hc_q_2p0, hF_q_2p0⟩ := hR
    refine ⟨_, _, _, hc0 _ rfl, ?_⟩
    refine pcp_ReadAsk_ok (FL := cel b_10 27 [(Value.slice (slAddr qp0 1 0 qc0) ((Int.toNat (Int.tmod (IntKind.wrap .i64 at_) 60)) - 0) (qc0 - 0)), (Value.slice p_7 ((([] : List (Int)) ++ x_1) ++ [at_]).length c_7), (Value.slice p_3 (([] : List (Int)) ++ x_1).length c_3)] :: row enc5 5 1 p_7 c_7 ((([] : List (Int)) ++ x_1) ++ [at_]) :: row enc5 5 1 p_3 c_3 (List.set (([] : List (Int)) ++ x_1) (Int.toNat 0) (bitsV .xor .u8 x_2 (IntKind.wrap .u8 (1 + (Int.tmod at_ 200))))) :: cel b_9 5 [(Value.int .u8 at_)] :: cel b_2 27 [(Value.slice p_1 rs.length c_1), (Value.slice p_2 rs_1.length c_2)] :: row enc5 5 1 p_1 c_1 rs :: row enc5 5 1 p_2 c_2 rs_1 :: cel b_1 25 [(Value.int .i64 l_Ver), (Value.int .i64 l_Inside), (Value.int .i64 l_Port), (Value.int .i64 l_Secs), (Value.int .u64 l_Nonce), (Value.int .i64 l_Result), (Value.int .i64 l_Epoch), (Value.int .u32 l_Host)] :: FL) (fun w h => (hF_q_2p0 _ (h.sel [5, 5, 1, 1] 4))) rfl hc_q_2p0 h hp ?_
    intro r_21 r_22 r_23 r_24 r_25 r_26 r_27 r_28 r_29 r_30 w h hp
    refine ⟨_, _, _, _, _, _, _, _, _, _, rfl, ?_⟩
    refine newL (o := [(Value.int .i64 0), (Value.int .i64 0), (Value.int .i64 0), (Value.int .i64 0), (Value.int .u64 0), (Value.int .i64 0), (Value.int .i64 0), (Value.int .u32 0)]) h ?_
    intro b_11 w h
    refine storeL (ys := [(Value.int .i64 r_21), (Value.int .i64 r_22), (Value.int .i64 r_23), (Value.int .i64 r_24), (Value.int .u64 r_25), (Value.int .i64 r_26), (Value.int .i64 r_27), (Value.int .u32 r_28)]) h 0 0 rfl rfl rfl sz25 rfl rfl ?_
    intro w h
    dsimp only [setH, setVs, setV] at h
    refine pcp_ReadAnswer_ok (FL := cel b_11 25 [(Value.int .i64 r_21), (Value.int .i64 r_22), (Value.int .i64 r_23), (Value.int .i64 r_24), (Value.int .u64 r_25), (Value.int .i64 r_26), (Value.int .i64 r_27), (Value.int .u32 r_28)] :: cel b_10 27 [(Value.slice (slAddr qp0 1 0 qc0) ((Int.toNat (Int.tmod (IntKind.wrap .i64 at_) 60)) - 0) (qc0 - 0)), (Value.slice p_7 ((([] : List (Int)) ++ x_1) ++ [at_]).length c_7), (Value.slice p_3 (([] : List (Int)) ++ x_1).length c_3)] :: row enc5 5 1 p_7 c_7 ((([] : List (Int)) ++ x_1) ++ [at_]) :: row enc5 5 1 p_3 c_3 (List.set (([] : List (Int)) ++ x_1) (Int.toNat 0) (bitsV .xor .u8 x_2 (IntKind.wrap .u8 (1 + (Int.tmod at_ 200))))) :: cel b_9 5 [(Value.int .u8 at_)] :: cel b_2 27 [(Value.slice p_1 rs.length c_1), (Value.slice p_2 rs_1.length c_2)] :: row enc5 5 1 p_1 c_1 rs :: row enc5 5 1 p_2 c_2 rs_1 :: cel b_1 25 [(Value.int .i64 l_Ver), (Value.int .i64 l_Inside), (Value.int .i64 l_Port), (Value.int .i64 l_Secs), (Value.int .u64 l_Nonce), (Value.int .i64 l_Result), (Value.int .i64 l_Epoch), (Value.int .u32 l_Host)] :: FL) (fun w h => (hF_q_2p0 _ (h.sel [6, 6, 2, 2] 5))) rfl hc_q_2p0 h hp ?_
    intro r_31 r_32 r_33 r_34 r_35 r_36 r_37 r_38 r_39 w h hp
    refine ⟨_, _, _, _, _, _, _, _, _, rfl, ?_⟩
    refine newL (o := [(Value.int .i64 0), (Value.int .i64 0), (Value.int .i64 0), (Value.int .i64 0), (Value.int .u64 0), (Value.int .i64 0), (Value.int .i64 0), (Value.int .u32 0)]) h ?_
    intro b_12 w h
    refine storeL (ys := [(Value.int .i64 r_31), (Value.int .i64 r_32), (Value.int .i64 r_33), (Value.int .i64 r_34), (Value.int .u64 r_35), (Value.int .i64 r_36), (Value.int .i64 r_37), (Value.int .u32 r_38)]) h 0 0 rfl rfl rfl sz25 rfl rfl ?_
    intro w h
    dsimp only [setH, setVs, setV] at h
    obtain ⟨Q_2, hq, hp⟩ := hp
    refine ⟨fun at2_5 x8_4p x8_4l x8_4c t24_5p t24_5l t24_5c t25_5 t26_5 t57_3p t57_3l t57_3c t58_3 t59_3 t79_1 w => at_ = at2_5 ∧ qp0 = x8_4p ∧ x_1.length = x8_4l ∧ qc0 = x8_4c ∧ (some ⟨b_2, 0, none⟩) = t24_5p ∧ 2 = t24_5l ∧ 2 = t24_5c ∧ ((2 : Nat) : Int) = t25_5 ∧ t26 = t26_5 ∧ (some ⟨b_10, 0, none⟩) = t57_3p ∧ 3 = t57_3l ∧ 3 = t57_3c ∧ ((3 : Nat) : Int) = t58_3 ∧ t59_2 = t59_3 ∧ Q_2 t79_1 ∧ Mem (cel b_12 25 [(Value.int .i64 r_31), (Value.int .i64 r_32), (Value.int .i64 r_33), (Value.int .i64 r_34), (Value.int .u64 r_35), (Value.int .i64 r_36), (Value.int .i64 r_37), (Value.int .u32 r_38)] :: cel b_11 25 [(Value.int .i64 r_21), (Value.int .i64 r_22), (Value.int .i64 r_23), (Value.int .i64 r_24), (Value.int .u64 r_25), (Value.int .i64 r_26), (Value.int .i64 r_27), (Value.int .u32 r_28)] :: cel b_10 27 [(Value.slice (slAddr qp0 1 0 qc0) ((Int.toNat (Int.tmod (IntKind.wrap .i64 at_) 60)) - 0) (qc0 - 0)), (Value.slice p_7 ((([] : List (Int)) ++ x_1) ++ [at_]).length c_7), (Value.slice p_3 (([] : List (Int)) ++ x_1).length c_3)] :: row enc5 5 1 p_7 c_7 ((([] : List (Int)) ++ x_1) ++ [at_]) :: row enc5 5 1 p_3 c_3 (List.set (([] : List (Int)) ++ x_1) (Int.toNat 0) (bitsV .xor .u8 x_2 (IntKind.wrap .u8 (1 + (Int.tmod at_ 200))))) :: cel b_9 5 [(Value.int .u8 at_)] :: cel b_2 27 [(Value.slice p_1 rs.length c_1), (Value.slice p_2 rs_1.length c_2)] :: row enc5 5 1 p_1 c_1 rs :: row enc5 5 1 p_2 c_2 rs_1 :: cel b_1 25 [(Value.int .i64 l_Ver), (Value.int .i64 l_Inside), (Value.int .i64 l_Port), (Value.int .i64 l_Secs), (Value.int .u64 l_Nonce), (Value.int .i64 l_Result), (Value.int .i64 l_Epoch), (Value.int .u32 l_Host)] :: FL) w, ?_, ?_⟩
    · rintro at2_5 x8_4p x8_4l x8_4c t24_5p t24_5l t24_5c t25_5 t26_5 t57_3p t57_3l t57_3c t58_3 t59_3 t79_1 w ⟨rfl, rfl, rfl, rfl, rfl, rfl, rfl, rfl, rfl, rfl, rfl, rfl, rfl, rfl, hp, h⟩
      replace hp := hq t79_1 hp
      unfold embrasurelaw10_PcpCut_j6
      refine cond_both hp (fun hp => ?_) (fun hp => ?_)
      · replace h := h.sel [] 10
        dsimp only [pickL, pickR, nthH, delH, dropH, List.cons_append, List.nil_append] at h
        exact hR false _ h hp
      replace h := h.sel [2, 2, 2, 2, 2, 2, 2, 2] 2
      dsimp only [pickL, pickR, nthH, delH, dropH, List.cons_append, List.nil_append] at h
      obtain ⟨n_10, hn, hp⟩ := hp
      exact ⟨n_10, hn, rfl, rfl, rfl, rfl, rfl, rfl, rfl, rfl, rfl, rfl, rfl, rfl, rfl, hp, h⟩
    clear hq
    refine cond_both hp (fun hp => ?_) (fun hp => ?_)
    · exact ⟨rfl, rfl, rfl, rfl, rfl, rfl, rfl, rfl, rfl, rfl, rfl, rfl, rfl, rfl, hp, h⟩
    exact ⟨rfl, rfl, rfl, rfl, rfl, rfl, rfl, rfl, rfl, rfl, rfl, rfl, rfl, rfl, hp, h⟩
  replace hp := hp.2
  refine newL (o := [(Value.int .u8 at_)]) h ?_
  intro b_13 w h
  refine ⟨(h.sel [] 6), ?_⟩
  refine newL (o := []) h ?_
  intro b_14 w h
  refine ⟨(h.sel [] 7), ?_⟩
  have sr_5 := (hF_qp0 _ (h.sel [4, 4] 5))
  replace h := rowOfCel h 0 encL5 rfl ([] : List (Int)) rfl
  dsimp only [setH, setVs, setV] at h
  obtain ⟨hb, hp⟩ := hp
  refine appendL slt27 und27 encL5 encO5 h 0 rfl rfl sr_5 rfl hb ?_
  intro p_8 c_8 w h
  dsimp only [setH, setVs, setV] at h
  have cpp_8 := rowCap h 0 rfl
  refine ⟨_, _, _, rfl, ?_⟩
  refine ⟨(h.sel [] 7), ?_⟩
  have sr_6 := (celRd h 1 encL5 rfl [at_] rfl)
  obtain ⟨hb, hp⟩ := hp
  refine appendL slt27 und27 encL5 encO5 h 0 rfl rfl sr_6 rfl hb ?_
  intro p_9 c_9 w h
  dsimp only [setH, setVs, setV] at h
  have cpp_9 := rowCap h 0 rfl
  refine ⟨_, _, _, rfl, ?_⟩
  refine ⟨(h.sel [] 7), ?_⟩
  refine newL (o := [(Value.slice (slAddr qp0 1 0 qc0) ((Int.toNat (Int.tmod (IntKind.wrap .i64 at_) 60)) - 0) (qc0 - 0)), (Value.slice p_9 ((([] : List (Int)) ++ x_1) ++ [at_]).length c_9), (Value.slice p_3 (([] : List (Int)) ++ x_1).length c_3)]) h ?_
  intro b_15 w h
  refine ⟨(h.sel [] 8), ?_⟩
  refine ⟨?_, ?_⟩
  · intro w h
    change Mem _ _ at h
    exact ⟨rfl, rfl⟩
  obtain ⟨I_3, ⟨n_14, h0⟩, hq⟩ := hp
  replace h := h.sel [0, 0, 1, 0, 0, 0, 0, 0] 0
  dsimp only [pickL, pickR, nthH, delH, dropH, List.cons_append, List.nil_append] at h
  refine ⟨fun n_12 at2_6 x8_5p x8_5l x8_5c t24_6p t24_6l t24_6c t25_6 t26_6 t57_4p t57_4l t57_4c t58_4 t59_4 w => at_ = at2_6 ∧ qp0 = x8_5p ∧ x_1.length = x8_5l ∧ qc0 = x8_5c ∧ (some ⟨b_2, 0, none⟩) = t24_6p ∧ 2 = t24_6l ∧ 2 = t24_6c ∧ ((2 : Nat) : Int) = t25_6 ∧ t26 = t26_6 ∧ (some ⟨b_15, 0, none⟩) = t57_4p ∧ 3 = t57_4l ∧ 3 = t57_4c ∧ ((3 : Nat) : Int) = t58_4 ∧ I_3 n_12 t59_4 ∧ Mem (cel b_15 27 [(Value.slice (slAddr qp0 1 0 qc0) ((Int.toNat (Int.tmod (IntKind.wrap .i64 at_) 60)) - 0) (qc0 - 0)), (Value.slice p_9 ((([] : List (Int)) ++ x_1) ++ [at_]).length c_9), (Value.slice p_3 (([] : List (Int)) ++ x_1).length c_3)] :: row enc5 5 1 p_9 c_9 ((([] : List (Int)) ++ x_1) ++ [at_]) :: row enc5 5 1 p_3 c_3 (List.set (([] : List (Int)) ++ x_1) (Int.toNat 0) (bitsV .xor .u8 x_2 (IntKind.wrap .u8 (1 + (Int.tmod at_ 200))))) :: cel b_13 5 [(Value.int .u8 at_)] :: cel b_2 27 [(Value.slice p_1 rs.length c_1), (Value.slice p_2 rs_1.length c_2)] :: row enc5 5 1 p_1 c_1 rs :: row enc5 5 1 p_2 c_2 rs_1 :: cel b_1 25 [(Value.int .i64 l_Ver), (Value.int .i64 l_Inside), (Value.int .i64 l_Port), (Value.int .i64 l_Secs), (Value.int .u64 l_Nonce), (Value.int .i64 l_Result), (Value.int .i64 l_Epoch), (Value.int .u32 l_Host)] :: FL) w, ⟨n_14, rfl, rfl, rfl, rfl, rfl, rfl, rfl, rfl, rfl, rfl, rfl, rfl, rfl, h0, h⟩, ?_⟩
  clear h0 h
  rintro n_12 at2_6 x8_5p x8_5l x8_5c t24_6p t24_6l t24_6c t25_6 t26_6 t57_4p t57_4l t57_4c t58_4 t59_4 w ⟨rfl, rfl, rfl, rfl, rfl, rfl, rfl, rfl, rfl, rfl, rfl, rfl, rfl, hp, h⟩
  replace hp := hq n_12 t59_4 hp
  clear hq
  unfold embrasurelaw10_PcpCut_l7
  refine cond_both' hp (fun hp => ?_) (fun hp => ?_)
  · replace h := h.sel [4, 4, 4, 4] 4
    dsimp only [pickL, pickR, nthH, delH, dropH, List.cons_append, List.nil_append] at h
    exact ⟨rfl, rfl, rfl, rfl, rfl, rfl, rfl, rfl, rfl, hp, h⟩
  obtain ⟨ia_6, ja_6, hp⟩ := hp
  obtain ⟨a_6, ha_6⟩ := rdAddrD (celRdD (R := encR27 (row enc5 5 1 p_1 c_1 rs :: row enc5 5 1 p_2 c_2 rs_1 :: row enc5 5 1 p_9 c_9 ((([] : List (Int)) ++ x_1) ++ [at_]) :: row enc5 5 1 p_3 c_3 (List.set (([] : List (Int)) ++ x_1) (Int.toNat 0) (bitsV .xor .u8 x_2 (IntKind.wrap .u8 (1 + (Int.tmod at_ 200))))) :: FL)) (z := 1) h 0 rfl [((x_1.take (Int.toNat (Int.tmod (IntKind.wrap .i64 at_) 60))).drop 0), ((([] : List (Int)) ++ x_1) ++ [at_]), (List.set (([] : List (Int)) ++ x_1) (Int.toNat 0) (bitsV .xor .u8 x_2 (IntKind.wrap .u8 (1 + (Int.tmod at_ 200)))))] [[(Value.slice (slAddr qp0 1 0 qc0) ((Int.toNat (Int.tmod (IntKind.wrap .i64 at_) 60)) - 0) (qc0 - 0))], [(Value.slice p_9 ((([] : List (Int)) ++ x_1) ++ [at_]).length c_9)], [(Value.slice p_3 (([] : List (Int)) ++ x_1).length c_3)]] rfl rfl (Fa2.cons ⟨_, _, _, rfl, (viewLen vg_1_hl), (Nat.sub_le_sub_right vg_1_hm _), (fun w h => (Rd.view (hF_qp0 _ (h.sel [0, 0] 2)) (l := 0) (h := (Int.toNat (Int.tmod (IntKind.wrap .i64 at_) 60))) (m := qc0) vg_1_hm))⟩ (Fa2.cons ⟨_, _, _, rfl, rfl, cpp_9, (fun w h => (rowRd h 2 encL5 rfl))⟩ (Fa2.cons ⟨_, _, _, rfl, (lenSet rfl), cpp_3, (fun w h => (rowRd h 3 encL5 rfl))⟩ Fa2.nil)))) rfl ia_6 ja_6
  refine ⟨a_6, ha_6, ia_6, ja_6, ?_⟩
  obtain ⟨x_6, hx_6, cs, hR, hc0, hc1, hc2⟩ := rdCellD (celRdD (R := encR27 (row enc5 5 1 p_1 c_1 rs :: row enc5 5 1 p_2 c_2 rs_1 :: row enc5 5 1 p_9 c_9 ((([] : List (Int)) ++ x_1) ++ [at_]) :: row enc5 5 1 p_3 c_3 (List.set (([] : List (Int)) ++ x_1) (Int.toNat 0) (bitsV .xor .u8 x_2 (IntKind.wrap .u8 (1 + (Int.tmod at_ 200))))) :: FL)) (z := 1) h 0 rfl [((x_1.take (Int.toNat (Int.tmod (IntKind.wrap .i64 at_) 60))).drop 0), ((([] : List (Int)) ++ x_1) ++ [at_]), (List.set (([] : List (Int)) ++ x_1) (Int.toNat 0) (bitsV .xor .u8 x_2 (IntKind.wrap .u8 (1 + (Int.tmod at_ 200)))))] [[(Value.slice (slAddr qp0 1 0 qc0) ((Int.toNat (Int.tmod (IntKind.wrap .i64 at_) 60)) - 0) (qc0 - 0))], [(Value.slice p_9 ((([] : List (Int)) ++ x_1) ++ [at_]).length c_9)], [(Value.slice p_3 (([] : List (Int)) ++ x_1).length c_3)]] rfl rfl (Fa2.cons ⟨_, _, _, rfl, (viewLen vg_1_hl), (Nat.sub_le_sub_right vg_1_hm _), (fun w h => (Rd.view (hF_qp0 _ (h.sel [0, 0] 2)) (l := 0) (h := (Int.toNat (Int.tmod (IntKind.wrap .i64 at_) 60))) (m := qc0) vg_1_hm))⟩ (Fa2.cons ⟨_, _, _, rfl, rfl, cpp_9, (fun w h => (rowRd h 2 encL5 rfl))⟩ (Fa2.cons ⟨_, _, _, rfl, (lenSet rfl), cpp_3, (fun w h => (rowRd h 3 encL5 rfl))⟩ Fa2.nil)))) ha_6 rfl ia_6 ja_6
  replace hp := hp x_6 hx_6
  obtain ⟨q_3p0, q_3n0, q_3c0, rfl, rfl, hc_q_3p0, hF_q_3p0⟩ := hR
  refine ⟨_, _, _, hc0 _ rfl, ?_⟩
  refine pcp_ReadAsk_ok (FL := cel b_15 27 [(Value.slice (slAddr qp0 1 0 qc0) ((Int.toNat (Int.tmod (IntKind.wrap .i64 at_) 60)) - 0) (qc0 - 0)), (Value.slice p_9 ((([] : List (Int)) ++ x_1) ++ [at_]).length c_9), (Value.slice p_3 (([] : List (Int)) ++ x_1).length c_3)] :: row enc5 5 1 p_9 c_9 ((([] : List (Int)) ++ x_1) ++ [at_]) :: row enc5 5 1 p_3 c_3 (List.set (([] : List (Int)) ++ x_1) (Int.toNat 0) (bitsV .xor .u8 x_2 (IntKind.wrap .u8 (1 + (Int.tmod at_ 200))))) :: cel b_13 5 [(Value.int .u8 at_)] :: cel b_2 27 [(Value.slice p_1 rs.length c_1), (Value.slice p_2 rs_1.length c_2)] :: row enc5 5 1 p_1 c_1 rs :: row enc5 5 1 p_2 c_2 rs_1 :: cel b_1 25 [(Value.int .i64 l_Ver), (Value.int .i64 l_Inside), (Value.int .i64 l_Port), (Value.int .i64 l_Secs), (Value.int .u64 l_Nonce), (Value.int .i64 l_Result), (Value.int .i64 l_Epoch), (Value.int .u32 l_Host)] :: FL) (fun w h => (hF_q_3p0 _ (h.sel [5, 5, 1, 1] 4))) rfl hc_q_3p0 h hp ?_
  intro r_40 r_41 r_42 r_43 r_44 r_45 r_46 r_47 r_48 r_49 w h hp
  refine ⟨_, _, _, _, _, _, _, _, _, _, rfl, ?_⟩
  refine newL (o := [(Value.int .i64 0), (Value.int .i64 0), (Value.int .i64 0), (Value.int .i64 0), (Value.int .u64 0), (Value.int .i64 0), (Value.int .i64 0), (Value.int .u32 0)]) h ?_
  intro b_16 w h
  refine storeL (ys := [(Value.int .i64 r_40), (Value.int .i64 r_41), (Value.int .i64 r_42), (Value.int .i64 r_43), (Value.int .u64 r_44), (Value.int .i64 r_45), (Value.int .i64 r_46), (Value.int .u32 r_47)]) h 0 0 rfl rfl rfl sz25 rfl rfl ?_
  intro w h
  dsimp only [setH, setVs, setV] at h
  refine pcp_ReadAnswer_ok (FL := cel b_16 25 [(Value.int .i64 r_40), (Value.int .i64 r_41), (Value.int .i64 r_42), (Value.int .i64 r_43), (Value.int .u64 r_44), (Value.int .i64 r_45), (Value.int .i64 r_46), (Value.int .u32 r_47)] :: cel b_15 27 [(Value.slice (slAddr qp0 1 0 qc0) ((Int.toNat (Int.tmod (IntKind.wrap .i64 at_) 60)) - 0) (qc0 - 0)), (Value.slice p_9 ((([] : List (Int)) ++ x_1) ++ [at_]).length c_9), (Value.slice p_3 (([] : List (Int)) ++ x_1).length c_3)] :: row enc5 5 1 p_9 c_9 ((([] : List (Int)) ++ x_1) ++ [at_]) :: row enc5 5 1 p_3 c_3 (List.set (([] : List (Int)) ++ x_1) (Int.toNat 0) (bitsV .xor .u8 x_2 (IntKind.wrap .u8 (1 + (Int.tmod at_ 200))))) :: cel b_13 5 [(Value.int .u8 at_)] :: cel b_2 27 [(Value.slice p_1 rs.length c_1), (Value.slice p_2 rs_1.length c_2)] :: row enc5 5 1 p_1 c_1 rs :: row enc5 5 1 p_2 c_2 rs_1 :: cel b_1 25 [(Value.int .i64 l_Ver), (Value.int .i64 l_Inside), (Value.int .i64 l_Port), (Value.int .i64 l_Secs), (Value.int .u64 l_Nonce), (Value.int .i64 l_Result), (Value.int .i64 l_Epoch), (Value.int .u32 l_Host)] :: FL) (fun w h => (hF_q_3p0 _ (h.sel [6, 6, 2, 2] 5))) rfl hc_q_3p0 h hp ?_
  intro r_50 r_51 r_52 r_53 r_54 r_55 r_56 r_57 r_58 w h hp
  refine ⟨_, _, _, _, _, _, _, _, _, rfl, ?_⟩
  refine newL (o := [(Value.int .i64 0), (Value.int .i64 0), (Value.int .i64 0), (Value.int .i64 0), (Value.int .u64 0), (Value.int .i64 0), (Value.int .i64 0), (Value.int .u32 0)]) h ?_
  intro b_17 w h
  refine storeL (ys := [(Value.int .i64 r_50), (Value.int .i64 r_51), (Value.int .i64 r_52), (Value.int .i64 r_53), (Value.int .u64 r_54), (Value.int .i64 r_55), (Value.int .i64 r_56), (Value.int .u32 r_57)]) h 0 0 rfl rfl rfl sz25 rfl rfl ?_
  intro w h
  dsimp only [setH, setVs, setV] at h
  obtain ⟨Q_3, hq, hp⟩ := hp
  refine ⟨fun at2_7 x8_6p x8_6l x8_6c t24_7p t24_7l t24_7c t25_7 t26_7 t57_5p t57_5l t57_5c t58_5 t59_5 t79_2 w => at_ = at2_7 ∧ qp0 = x8_6p ∧ x_1.length = x8_6l ∧ qc0 = x8_6c ∧ (some ⟨b_2, 0, none⟩) = t24_7p ∧ 2 = t24_7l ∧ 2 = t24_7c ∧ ((2 : Nat) : Int) = t25_7 ∧ t26 = t26_7 ∧ (some ⟨b_15, 0, none⟩) = t57_5p ∧ 3 = t57_5l ∧ 3 = t57_5c ∧ ((3 : Nat) : Int) = t58_5 ∧ t59_4 = t59_5 ∧ Q_3 t79_2 ∧ Mem (cel b_17 25 [(Value.int .i64 r_50), (Value.int .i64 r_51), (Value.int .i64 r_52), (Value.int .i64 r_53), (Value.int .u64 r_54), (Value.int .i64 r_55), (Value.int .i64 r_56), (Value.int .u32 r_57)] :: cel b_16 25 [(Value.int .i64 r_40), (Value.int .i64 r_41), (Value.int .i64 r_42), (Value.int .i64 r_43), (Value.int .u64 r_44), (Value.int .i64 r_45), (Value.int .i64 r_46), (Value.int .u32 r_47)] :: cel b_15 27 [(Value.slice (slAddr qp0 1 0 qc0) ((Int.toNat (Int.tmod (IntKind.wrap .i64 at_) 60)) - 0) (qc0 - 0)), (Value.slice p_9 ((([] : List (Int)) ++ x_1) ++ [at_]).length c_9), (Value.slice p_3 (([] : List (Int)) ++ x_1).length c_3)] :: row enc5 5 1 p_9 c_9 ((([] : List (Int)) ++ x_1) ++ [at_]) :: row enc5 5 1 p_3 c_3 (List.set (([] : List (Int)) ++ x_1) (Int.toNat 0) (bitsV .xor .u8 x_2 (IntKind.wrap .u8 (1 + (Int.tmod at_ 200))))) :: cel b_13 5 [(Value.int .u8 at_)] :: cel b_2 27 [(Value.slice p_1 rs.length c_1), (Value.slice p_2 rs_1.length c_2)] :: row enc5 5 1 p_1 c_1 rs :: row enc5 5 1 p_2 c_2 rs_1 :: cel b_1 25 [(Value.int .i64 l_Ver), (Value.int .i64 l_Inside), (Value.int .i64 l_Port), (Value.int .i64 l_Secs), (Value.int .u64 l_Nonce), (Value.int .i64 l_Result), (Value.int .i64 l_Epoch), (Value.int .u32 l_Host)] :: FL) w, ?_, ?_⟩
  · rintro at2_7 x8_6p x8_6l x8_6c t24_7p t24_7l t24_7c t25_7 t26_7 t57_5p t57_5l t57_5c t58_5 t59_5 t79_2 w ⟨rfl, rfl, rfl, rfl, rfl, rfl, rfl, rfl, rfl, rfl, rfl, rfl, rfl, rfl, hp, h⟩
    replace hp := hq t79_2 hp
    unfold embrasurelaw10_PcpCut_j8
    refine cond_both hp (fun hp => ?_) (fun hp => ?_)
    · replace h := h.sel [] 10
      dsimp only [pickL, pickR, nthH, delH, dropH, List.cons_append, List.nil_append] at h
      exact hR false _ h hp
    replace h := h.sel [2, 2, 2, 2, 2, 2, 2, 2] 2
    dsimp only [pickL, pickR, nthH, delH, dropH, List.cons_append, List.nil_append] at h
    obtain ⟨n_13, hn, hp⟩ := hp
    exact ⟨n_13, hn, rfl, rfl, rfl, rfl, rfl, rfl, rfl, rfl, rfl, rfl, rfl, rfl, rfl, hp, h⟩
  clear hq
  refine cond_both hp (fun hp => ?_) (fun hp => ?_)
  · exact ⟨rfl, rfl, rfl, rfl, rfl, rfl, rfl, rfl, rfl, rfl, rfl, rfl, rfl, rfl, hp, h⟩
  exact ⟨rfl, rfl, rfl, rfl, rfl, rfl, rfl, rfl, rfl, rfl, rfl, rfl, rfl, rfl, hp, h⟩

end Go.Proofs.Ytdacemiaihidaaa
