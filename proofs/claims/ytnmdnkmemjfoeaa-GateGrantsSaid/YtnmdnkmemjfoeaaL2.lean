/- Each function over plain data (printed by a program of this claim's author). -/
import Derived.Test.YtnmdnkmemjfoeaaL1
namespace Go.Proofs.Ytnmdnkmemjfoeaa
open Go Go.Eng Go.Proofs
set_option maxRecDepth 100000
set_option maxHeartbeats 2000000
def pcp_Answer_wp (l_Ver l_Inside l_Port l_Secs l_Nonce l_Result l_Epoch l_Host : Int) (K : List (Int) → Prop) : Prop :=
  pcp_fits_wp l_Ver l_Inside l_Port l_Secs l_Nonce l_Result l_Epoch l_Host (fun (r : Bool) => cond (!r) (K ([] : List (Int))) (((pcp_big_wp (IntKind.wrap .u64 l_Secs) 4 (fun (rs : List (Int)) => (pcp_big_wp (IntKind.wrap .u64 l_Epoch) 4 (fun (rs_1 : List (Int)) => 0 ≤ (12 : Int) ∧ 12 ≤ (12 : Int) ∧ (12 : Int) ≤ 140737488355328 ∧ ((1 : Nat) : Int) * 12 ≤ 140737488355328 ∧ (pcp_row_wp l_Ver l_Inside l_Port l_Secs l_Nonce l_Result l_Epoch l_Host [[2, 129, 0, (IntKind.wrap .u8 l_Result)], rs, rs_1, (List.replicate (Int.toNat 12) 0)] (fun (rs_2 : List (Int)) => K rs_2)))) ∧ (0 ≤ (12 : Int) ∧ 12 ≤ (12 : Int) ∧ (12 : Int) ≤ 140737488355328 ∧ ((1 : Nat) : Int) * 12 ≤ 140737488355328 ∧ (pcp_big_wp (IntKind.wrap .u64 l_Epoch) 4 (fun (rs_3 : List (Int)) => pcp_row_wp l_Ver l_Inside l_Port l_Secs l_Nonce l_Result l_Epoch l_Host [[2, 129, 0, (IntKind.wrap .u8 l_Result)], rs, rs_3, (List.replicate (Int.toNat 12) 0)] (fun (rs_4 : List (Int)) => K rs_4)))))) ∧ (0 ≤ (12 : Int) ∧ 12 ≤ (12 : Int) ∧ (12 : Int) ≤ 140737488355328 ∧ ((1 : Nat) : Int) * 12 ≤ 140737488355328 ∧ (pcp_big_wp (IntKind.wrap .u64 l_Secs) 4 (fun (rs_5 : List (Int)) => pcp_big_wp (IntKind.wrap .u64 l_Epoch) 4 (fun (rs_6 : List (Int)) => pcp_row_wp l_Ver l_Inside l_Port l_Secs l_Nonce l_Result l_Epoch l_Host [[2, 129, 0, (IntKind.wrap .u8 l_Result)], rs_5, rs_6, (List.replicate (Int.toNat 12) 0)] (fun (rs_7 : List (Int)) => K rs_7)))))) ∧ (pcp_big_wp (IntKind.wrap .u64 l_Secs) 4 (fun (rs_8 : List (Int)) => ((pcp_big_wp (IntKind.wrap .u64 l_Epoch) 4 (fun (rs_9 : List (Int)) => 0 ≤ (12 : Int) ∧ 12 ≤ (12 : Int) ∧ (12 : Int) ≤ 140737488355328 ∧ ((1 : Nat) : Int) * 12 ≤ 140737488355328 ∧ (pcp_row_wp l_Ver l_Inside l_Port l_Secs l_Nonce l_Result l_Epoch l_Host [[2, 129, 0, (IntKind.wrap .u8 l_Result)], rs_8, rs_9, (List.replicate (Int.toNat 12) 0)] (fun (rs_10 : List (Int)) => K rs_10)))) ∧ (0 ≤ (12 : Int) ∧ 12 ≤ (12 : Int) ∧ (12 : Int) ≤ 140737488355328 ∧ ((1 : Nat) : Int) * 12 ≤ 140737488355328 ∧ (pcp_big_wp (IntKind.wrap .u64 l_Epoch) 4 (fun (rs_11 : List (Int)) => pcp_row_wp l_Ver l_Inside l_Port l_Secs l_Nonce l_Result l_Epoch l_Host [[2, 129, 0, (IntKind.wrap .u8 l_Result)], rs_8, rs_11, (List.replicate (Int.toNat 12) 0)] (fun (rs_12 : List (Int)) => K rs_12))))) ∧ (pcp_big_wp (IntKind.wrap .u64 l_Epoch) 4 (fun (rs_13 : List (Int)) => (0 ≤ (12 : Int) ∧ 12 ≤ (12 : Int) ∧ (12 : Int) ≤ 140737488355328 ∧ ((1 : Nat) : Int) * 12 ≤ 140737488355328 ∧ (pcp_row_wp l_Ver l_Inside l_Port l_Secs l_Nonce l_Result l_Epoch l_Host [[2, 129, 0, (IntKind.wrap .u8 l_Result)], rs_8, rs_13, (List.replicate (Int.toNat 12) 0)] (fun (rs_14 : List (Int)) => K rs_14))) ∧ (0 ≤ (12 : Int) ∧ 12 ≤ (12 : Int) ∧ (12 : Int) ≤ 140737488355328 ∧ ((1 : Nat) : Int) * 12 ≤ 140737488355328 ∧ (pcp_row_wp l_Ver l_Inside l_Port l_Secs l_Nonce l_Result l_Epoch l_Host [[2, 129, 0, (IntKind.wrap .u8 l_Result)], rs_8, rs_13, (List.replicate (Int.toNat 12) 0)] (fun (rs_15 : List (Int)) => K rs_15))))) ∧ (0 ≤ (12 : Int) ∧ 12 ≤ (12 : Int) ∧ (12 : Int) ≤ 140737488355328 ∧ ((1 : Nat) : Int) * 12 ≤ 140737488355328 ∧ ((pcp_big_wp (IntKind.wrap .u64 l_Epoch) 4 (fun (rs_16 : List (Int)) => pcp_row_wp l_Ver l_Inside l_Port l_Secs l_Nonce l_Result l_Epoch l_Host [[2, 129, 0, (IntKind.wrap .u8 l_Result)], rs_8, rs_16, (List.replicate (Int.toNat 12) 0)] (fun (rs_17 : List (Int)) => K rs_17))) ∧ (pcp_big_wp (IntKind.wrap .u64 l_Epoch) 4 (fun (rs_18 : List (Int)) => pcp_row_wp l_Ver l_Inside l_Port l_Secs l_Nonce l_Result l_Epoch l_Host [[2, 129, 0, (IntKind.wrap .u8 l_Result)], rs_8, rs_18, (List.replicate (Int.toNat 12) 0)] (fun (rs_19 : List (Int)) => K rs_19))))))) ∧ (0 ≤ (12 : Int) ∧ 12 ≤ (12 : Int) ∧ (12 : Int) ≤ 140737488355328 ∧ ((1 : Nat) : Int) * 12 ≤ 140737488355328 ∧ ((pcp_big_wp (IntKind.wrap .u64 l_Secs) 4 (fun (rs_20 : List (Int)) => pcp_big_wp (IntKind.wrap .u64 l_Epoch) 4 (fun (rs_21 : List (Int)) => pcp_row_wp l_Ver l_Inside l_Port l_Secs l_Nonce l_Result l_Epoch l_Host [[2, 129, 0, (IntKind.wrap .u8 l_Result)], rs_20, rs_21, (List.replicate (Int.toNat 12) 0)] (fun (rs_22 : List (Int)) => K rs_22)))) ∧ (pcp_big_wp (IntKind.wrap .u64 l_Secs) 4 (fun (rs_23 : List (Int)) => (pcp_big_wp (IntKind.wrap .u64 l_Epoch) 4 (fun (rs_24 : List (Int)) => pcp_row_wp l_Ver l_Inside l_Port l_Secs l_Nonce l_Result l_Epoch l_Host [[2, 129, 0, (IntKind.wrap .u8 l_Result)], rs_23, rs_24, (List.replicate (Int.toNat 12) 0)] (fun (rs_25 : List (Int)) => K rs_25))) ∧ (pcp_big_wp (IntKind.wrap .u64 l_Epoch) 4 (fun (rs_26 : List (Int)) => pcp_row_wp l_Ver l_Inside l_Port l_Secs l_Nonce l_Result l_Epoch l_Host [[2, 129, 0, (IntKind.wrap .u8 l_Result)], rs_23, rs_26, (List.replicate (Int.toNat 12) 0)] (fun (rs_27 : List (Int)) => K rs_27)))))))))
theorem pcp_Answer_ok {l_Ver l_Inside l_Port l_Secs l_Nonce l_Result l_Epoch l_Host : Int} {FL : List HP} {w : World} {K : List (Int) → Prop} {R : Value → World → Prop}
  (h : Mem (FL) w) (hp : pcp_Answer_wp l_Ver l_Inside l_Port l_Secs l_Nonce l_Result l_Epoch l_Host K)
  (hR : ∀ (rs : List (Int)) (p_1 : Option Addr) (n_1 c_1 : Nat) (w : World), n_1 = rs.length → Mem (row enc5 5 1 p_1 c_1 rs :: FL) w → K rs → R (Value.slice p_1 n_1 c_1) w) :
  CallV Try.prog 40 #[(Value.agg #[Value.int .i64 l_Ver, Value.int .i64 l_Inside, Value.int .i64 l_Port, Value.int .i64 l_Secs, Value.int .u64 l_Nonce, Value.int .i64 l_Result, Value.int .i64 l_Epoch, Value.int .u32 l_Host])] w R := by
  refine pcp_Answer_call ?_
  unfold pcp_Answer
  unfold pcp_Answer_wp at hp
  refine newL (o := [Value.int .i64 l_Ver, Value.int .i64 l_Inside, Value.int .i64 l_Port, Value.int .i64 l_Secs, Value.int .u64 l_Nonce, Value.int .i64 l_Result, Value.int .i64 l_Epoch, Value.int .u32 l_Host]) h ?_
  intro b_1 w h
  refine ⟨_, cellL h 0 0 rfl rfl rfl, _, cellL h 0 1 rfl rfl rfl, _, cellL h 0 2 rfl rfl rfl, _, cellL h 0 3 rfl rfl rfl, _, cellL h 0 4 rfl rfl rfl, _, cellL h 0 5 rfl rfl rfl, _, cellL h 0 6 rfl rfl rfl, _, cellL h 0 7 rfl rfl rfl, ?_⟩
  refine pcp_fits_ok h hp ?_
  intro r w h hp
  refine ⟨_, rfl, ?_⟩
  refine cond_both hp (fun hp => ?_) (fun hp => ?_)
  · replace h := rowNil enc5 5 1 h
    replace h := h.sel [0] 1
    dsimp only [pickL, pickR, nthH, delH, dropH, List.cons_append, List.nil_append] at h
    exact hR ([] : List (Int)) (none ) 0 0 _ rfl h hp
  replace h := h.drew
  refine ⟨fun w => Mem (cel b_1 41 [Value.int .i64 l_Ver, Value.int .i64 l_Inside, Value.int .i64 l_Port, Value.int .i64 l_Secs, Value.int .u64 l_Nonce, Value.int .i64 l_Result, Value.int .i64 l_Epoch, Value.int .u32 l_Host] :: FL) w, (h.sel [0] 0), ?_⟩
  refine ⟨_, cellL h 0 0 rfl rfl rfl, _, cellL h 0 1 rfl rfl rfl, _, cellL h 0 2 rfl rfl rfl, _, cellL h 0 3 rfl rfl rfl, _, cellL h 0 4 rfl rfl rfl, _, cellL h 0 5 rfl rfl rfl, _, cellL h 0 6 rfl rfl rfl, _, cellL h 0 7 rfl rfl rfl, ?_⟩
  refine ⟨?_, ?_⟩
  · intro w h
    change Mem _ _ at h
    refine ⟨_, cellL h 0 0 rfl rfl rfl, _, cellL h 0 1 rfl rfl rfl, _, cellL h 0 2 rfl rfl rfl, _, cellL h 0 3 rfl rfl rfl, _, cellL h 0 4 rfl rfl rfl, _, cellL h 0 5 rfl rfl rfl, _, cellL h 0 6 rfl rfl rfl, _, cellL h 0 7 rfl rfl rfl, ?_⟩
    exact ⟨rfl, rfl⟩
  refine ⟨_, cellL h 0 5 rfl rfl rfl, ?_⟩
  refine ⟨?_, ?_⟩
  · intro w h
    change Mem _ _ at h
    refine ⟨_, cellL h 0 5 rfl rfl rfl, ?_⟩
    exact ⟨rfl, rfl⟩
  refine ⟨_, cellL h 0 3 rfl rfl rfl, ?_⟩
  refine ⟨?_, ?_⟩
  · intro w h
    change Mem _ _ at h
    refine ⟨_, cellL h 0 3 rfl rfl rfl, ?_⟩
    exact ⟨rfl, rfl⟩
  refine ⟨_, cellL h 0 6 rfl rfl rfl, ?_⟩
  refine ⟨?_, ?_⟩
  · intro w h
    change Mem _ _ at h
    refine ⟨_, cellL h 0 6 rfl rfl rfl, ?_⟩
    exact ⟨rfl, rfl⟩
  refine ⟨?_, ?_⟩
  · replace hp := hp.1
    refine newL (o := [Value.int .u8 2, Value.int .u8 129, Value.int .u8 0, Value.int .u8 (IntKind.wrap .u8 l_Result)]) h ?_
    intro b_2 w h
    refine ⟨(h.sel [1] 1), ?_⟩
    refine ⟨?_, ?_⟩
    · replace hp := hp.1
      refine pcp_big_ok h hp ?_
      rintro rs p_2 n_1 c_1 w rfl h hp
      have cpp_2 := rowCap h 0 rfl
      refine ⟨_, _, _, rfl, ?_⟩
      refine ⟨(h.sel [2] 2), ?_⟩
      refine ⟨?_, ?_⟩
      · replace hp := hp.1
        refine pcp_big_ok h hp ?_
        rintro rs_1 p_3 n_2 c_2 w rfl h hp
        have cpp_3 := rowCap h 0 rfl
        refine ⟨_, _, _, rfl, ?_⟩
        refine ⟨(h.sel [3] 3), ?_⟩
        obtain ⟨g_1a, g_1b, g_1d, g_1e, hp⟩ := hp
        refine ⟨g_1a, g_1b, g_1d, g_1e, ?_⟩
        have g_1c : 0 ≤ (12 : Int) := Int.le_trans g_1a g_1b
        refine makeL (x0 := 0) (T := 5) h encL5 rfl (natLe2 g_1a g_1c g_1b) ?_
        intro b_3 w h
        refine ⟨(h.sel [4] 4), ?_⟩
        refine newL (o := [Value.slice (some ⟨b_2, 0, none⟩) 4 4, Value.slice p_2 rs.length c_1, Value.slice p_3 rs_1.length c_2, Value.slice (some ⟨b_3, 0, none⟩) (Int.toNat 12) (Int.toNat 12)]) h ?_
        intro b_4 w h
        refine ⟨(h.sel [5] 5), ?_⟩
        refine pcp_row_ok (FL := cel b_4 22 [Value.slice (some ⟨b_2, 0, none⟩) 4 4, Value.slice p_2 rs.length c_1, Value.slice p_3 rs_1.length c_2, Value.slice (some ⟨b_3, 0, none⟩) (Int.toNat 12) (Int.toNat 12)] :: row enc5 5 1 (some ⟨b_3, 0, none⟩) (Int.toNat 12) (List.replicate (Int.toNat 12) 0) :: row enc5 5 1 p_3 c_2 rs_1 :: row enc5 5 1 p_2 c_1 rs :: cel b_2 5 [Value.int .u8 2, Value.int .u8 129, Value.int .u8 0, Value.int .u8 (IntKind.wrap .u8 l_Result)] :: cel b_1 41 [Value.int .i64 l_Ver, Value.int .i64 l_Inside, Value.int .i64 l_Port, Value.int .i64 l_Secs, Value.int .u64 l_Nonce, Value.int .i64 l_Result, Value.int .i64 l_Epoch, Value.int .u32 l_Host] :: FL) (fun w h => celRdD (z := 1) h 0 rfl [[2, 129, 0, (IntKind.wrap .u8 l_Result)], rs, rs_1, (List.replicate (Int.toNat 12) 0)] [[Value.slice (some ⟨b_2, 0, none⟩) 4 4], [Value.slice p_2 rs.length c_1], [Value.slice p_3 rs_1.length c_2], [Value.slice (some ⟨b_3, 0, none⟩) (Int.toNat 12) (Int.toNat 12)]] rfl rfl (Fa2.cons ⟨_, _, _, rfl, rfl, (Nat.le_refl _), (fun w h => (celRd h 4 encL5 rfl [2, 129, 0, (IntKind.wrap .u8 l_Result)] rfl))⟩ (Fa2.cons ⟨_, _, _, rfl, rfl, cpp_2, (fun w h => (rowRd h 3 encL5 rfl))⟩ (Fa2.cons ⟨_, _, _, rfl, rfl, cpp_3, (fun w h => (rowRd h 2 encL5 rfl))⟩ (Fa2.cons ⟨_, _, _, rfl, (List.length_replicate).symm, (natLe2 g_1a g_1c g_1b), (fun w h => (rowRd h 1 encL5 rfl))⟩ Fa2.nil))))) rfl (Nat.le_refl _) h hp ?_
        rintro rs_2 p_4 n_3 c_3 w rfl h hp
        have cpp_4 := rowCap h 0 rfl
        refine ⟨_, _, _, rfl, ?_⟩
        replace h := h.sel [0] 6
        dsimp only [pickL, pickR, nthH, delH, dropH, List.cons_append, List.nil_append] at h
        exact hR rs_2 p_4 rs_2.length c_3 _ rfl h hp
      replace hp := hp.2
      obtain ⟨g_2a, g_2b, g_2d, g_2e, hp⟩ := hp
      refine ⟨g_2a, g_2b, g_2d, g_2e, ?_⟩
      have g_2c : 0 ≤ (12 : Int) := Int.le_trans g_2a g_2b
      refine makeL (x0 := 0) (T := 5) h encL5 rfl (natLe2 g_2a g_2c g_2b) ?_
      intro b_5 w h
      refine ⟨(h.sel [3] 3), ?_⟩
      refine pcp_big_ok h hp ?_
      rintro rs_3 p_5 n_4 c_4 w rfl h hp
      have cpp_5 := rowCap h 0 rfl
      refine ⟨_, _, _, rfl, ?_⟩
      refine ⟨(h.sel [4] 4), ?_⟩
      refine newL (o := [Value.slice (some ⟨b_2, 0, none⟩) 4 4, Value.slice p_2 rs.length c_1, Value.slice p_5 rs_3.length c_4, Value.slice (some ⟨b_5, 0, none⟩) (Int.toNat 12) (Int.toNat 12)]) h ?_
      intro b_6 w h
      refine ⟨(h.sel [5] 5), ?_⟩
      refine pcp_row_ok (FL := cel b_6 22 [Value.slice (some ⟨b_2, 0, none⟩) 4 4, Value.slice p_2 rs.length c_1, Value.slice p_5 rs_3.length c_4, Value.slice (some ⟨b_5, 0, none⟩) (Int.toNat 12) (Int.toNat 12)] :: row enc5 5 1 p_5 c_4 rs_3 :: row enc5 5 1 (some ⟨b_5, 0, none⟩) (Int.toNat 12) (List.replicate (Int.toNat 12) 0) :: row enc5 5 1 p_2 c_1 rs :: cel b_2 5 [Value.int .u8 2, Value.int .u8 129, Value.int .u8 0, Value.int .u8 (IntKind.wrap .u8 l_Result)] :: cel b_1 41 [Value.int .i64 l_Ver, Value.int .i64 l_Inside, Value.int .i64 l_Port, Value.int .i64 l_Secs, Value.int .u64 l_Nonce, Value.int .i64 l_Result, Value.int .i64 l_Epoch, Value.int .u32 l_Host] :: FL) (fun w h => celRdD (z := 1) h 0 rfl [[2, 129, 0, (IntKind.wrap .u8 l_Result)], rs, rs_3, (List.replicate (Int.toNat 12) 0)] [[Value.slice (some ⟨b_2, 0, none⟩) 4 4], [Value.slice p_2 rs.length c_1], [Value.slice p_5 rs_3.length c_4], [Value.slice (some ⟨b_5, 0, none⟩) (Int.toNat 12) (Int.toNat 12)]] rfl rfl (Fa2.cons ⟨_, _, _, rfl, rfl, (Nat.le_refl _), (fun w h => (celRd h 4 encL5 rfl [2, 129, 0, (IntKind.wrap .u8 l_Result)] rfl))⟩ (Fa2.cons ⟨_, _, _, rfl, rfl, cpp_2, (fun w h => (rowRd h 3 encL5 rfl))⟩ (Fa2.cons ⟨_, _, _, rfl, rfl, cpp_5, (fun w h => (rowRd h 1 encL5 rfl))⟩ (Fa2.cons ⟨_, _, _, rfl, (List.length_replicate).symm, (natLe2 g_2a g_2c g_2b), (fun w h => (rowRd h 2 encL5 rfl))⟩ Fa2.nil))))) rfl (Nat.le_refl _) h hp ?_
      rintro rs_4 p_6 n_5 c_5 w rfl h hp
      have cpp_6 := rowCap h 0 rfl
      refine ⟨_, _, _, rfl, ?_⟩
      replace h := h.sel [0] 6
      dsimp only [pickL, pickR, nthH, delH, dropH, List.cons_append, List.nil_append] at h
      exact hR rs_4 p_6 rs_4.length c_5 _ rfl h hp
    replace hp := hp.2
    obtain ⟨g_3a, g_3b, g_3d, g_3e, hp⟩ := hp
    refine ⟨g_3a, g_3b, g_3d, g_3e, ?_⟩
    have g_3c : 0 ≤ (12 : Int) := Int.le_trans g_3a g_3b
    refine makeL (x0 := 0) (T := 5) h encL5 rfl (natLe2 g_3a g_3c g_3b) ?_
    intro b_7 w h
    refine ⟨(h.sel [2] 2), ?_⟩
    refine pcp_big_ok h hp ?_
    rintro rs_5 p_7 n_6 c_6 w rfl h hp
    have cpp_7 := rowCap h 0 rfl
    refine ⟨_, _, _, rfl, ?_⟩
    refine ⟨(h.sel [3] 3), ?_⟩
    refine pcp_big_ok h hp ?_
    rintro rs_6 p_8 n_7 c_7 w rfl h hp
    have cpp_8 := rowCap h 0 rfl
    refine ⟨_, _, _, rfl, ?_⟩
    refine ⟨(h.sel [4] 4), ?_⟩
    refine newL (o := [Value.slice (some ⟨b_2, 0, none⟩) 4 4, Value.slice p_7 rs_5.length c_6, Value.slice p_8 rs_6.length c_7, Value.slice (some ⟨b_7, 0, none⟩) (Int.toNat 12) (Int.toNat 12)]) h ?_
    intro b_8 w h
    refine ⟨(h.sel [5] 5), ?_⟩
    refine pcp_row_ok (FL := cel b_8 22 [Value.slice (some ⟨b_2, 0, none⟩) 4 4, Value.slice p_7 rs_5.length c_6, Value.slice p_8 rs_6.length c_7, Value.slice (some ⟨b_7, 0, none⟩) (Int.toNat 12) (Int.toNat 12)] :: row enc5 5 1 p_8 c_7 rs_6 :: row enc5 5 1 p_7 c_6 rs_5 :: row enc5 5 1 (some ⟨b_7, 0, none⟩) (Int.toNat 12) (List.replicate (Int.toNat 12) 0) :: cel b_2 5 [Value.int .u8 2, Value.int .u8 129, Value.int .u8 0, Value.int .u8 (IntKind.wrap .u8 l_Result)] :: cel b_1 41 [Value.int .i64 l_Ver, Value.int .i64 l_Inside, Value.int .i64 l_Port, Value.int .i64 l_Secs, Value.int .u64 l_Nonce, Value.int .i64 l_Result, Value.int .i64 l_Epoch, Value.int .u32 l_Host] :: FL) (fun w h => celRdD (z := 1) h 0 rfl [[2, 129, 0, (IntKind.wrap .u8 l_Result)], rs_5, rs_6, (List.replicate (Int.toNat 12) 0)] [[Value.slice (some ⟨b_2, 0, none⟩) 4 4], [Value.slice p_7 rs_5.length c_6], [Value.slice p_8 rs_6.length c_7], [Value.slice (some ⟨b_7, 0, none⟩) (Int.toNat 12) (Int.toNat 12)]] rfl rfl (Fa2.cons ⟨_, _, _, rfl, rfl, (Nat.le_refl _), (fun w h => (celRd h 4 encL5 rfl [2, 129, 0, (IntKind.wrap .u8 l_Result)] rfl))⟩ (Fa2.cons ⟨_, _, _, rfl, rfl, cpp_7, (fun w h => (rowRd h 2 encL5 rfl))⟩ (Fa2.cons ⟨_, _, _, rfl, rfl, cpp_8, (fun w h => (rowRd h 1 encL5 rfl))⟩ (Fa2.cons ⟨_, _, _, rfl, (List.length_replicate).symm, (natLe2 g_3a g_3c g_3b), (fun w h => (rowRd h 3 encL5 rfl))⟩ Fa2.nil))))) rfl (Nat.le_refl _) h hp ?_
    rintro rs_7 p_9 n_8 c_8 w rfl h hp
    have cpp_9 := rowCap h 0 rfl
    refine ⟨_, _, _, rfl, ?_⟩
    replace h := h.sel [0] 6
    dsimp only [pickL, pickR, nthH, delH, dropH, List.cons_append, List.nil_append] at h
    exact hR rs_7 p_9 rs_7.length c_8 _ rfl h hp
  refine ⟨?_, ?_⟩
  · replace hp := hp.2.1
    refine pcp_big_ok h hp ?_
    rintro rs_8 p_10 n_9 c_9 w rfl h hp
    have cpp_10 := rowCap h 0 rfl
    refine ⟨_, _, _, rfl, ?_⟩
    refine ⟨(h.sel [1] 1), ?_⟩
    refine ⟨?_, ?_⟩
    · replace hp := hp.1
      refine newL (o := [Value.int .u8 2, Value.int .u8 129, Value.int .u8 0, Value.int .u8 (IntKind.wrap .u8 l_Result)]) h ?_
      intro b_9 w h
      refine ⟨(h.sel [2] 2), ?_⟩
      refine ⟨?_, ?_⟩
      · replace hp := hp.1
        refine pcp_big_ok h hp ?_
        rintro rs_9 p_11 n_10 c_10 w rfl h hp
        have cpp_11 := rowCap h 0 rfl
        refine ⟨_, _, _, rfl, ?_⟩
        refine ⟨(h.sel [3] 3), ?_⟩
        obtain ⟨g_4a, g_4b, g_4d, g_4e, hp⟩ := hp
        refine ⟨g_4a, g_4b, g_4d, g_4e, ?_⟩
        have g_4c : 0 ≤ (12 : Int) := Int.le_trans g_4a g_4b
        refine makeL (x0 := 0) (T := 5) h encL5 rfl (natLe2 g_4a g_4c g_4b) ?_
        intro b_10 w h
        refine ⟨(h.sel [4] 4), ?_⟩
        refine newL (o := [Value.slice (some ⟨b_9, 0, none⟩) 4 4, Value.slice p_10 rs_8.length c_9, Value.slice p_11 rs_9.length c_10, Value.slice (some ⟨b_10, 0, none⟩) (Int.toNat 12) (Int.toNat 12)]) h ?_
        intro b_11 w h
        refine ⟨(h.sel [5] 5), ?_⟩
        refine pcp_row_ok (FL := cel b_11 22 [Value.slice (some ⟨b_9, 0, none⟩) 4 4, Value.slice p_10 rs_8.length c_9, Value.slice p_11 rs_9.length c_10, Value.slice (some ⟨b_10, 0, none⟩) (Int.toNat 12) (Int.toNat 12)] :: row enc5 5 1 (some ⟨b_10, 0, none⟩) (Int.toNat 12) (List.replicate (Int.toNat 12) 0) :: row enc5 5 1 p_11 c_10 rs_9 :: cel b_9 5 [Value.int .u8 2, Value.int .u8 129, Value.int .u8 0, Value.int .u8 (IntKind.wrap .u8 l_Result)] :: row enc5 5 1 p_10 c_9 rs_8 :: cel b_1 41 [Value.int .i64 l_Ver, Value.int .i64 l_Inside, Value.int .i64 l_Port, Value.int .i64 l_Secs, Value.int .u64 l_Nonce, Value.int .i64 l_Result, Value.int .i64 l_Epoch, Value.int .u32 l_Host] :: FL) (fun w h => celRdD (z := 1) h 0 rfl [[2, 129, 0, (IntKind.wrap .u8 l_Result)], rs_8, rs_9, (List.replicate (Int.toNat 12) 0)] [[Value.slice (some ⟨b_9, 0, none⟩) 4 4], [Value.slice p_10 rs_8.length c_9], [Value.slice p_11 rs_9.length c_10], [Value.slice (some ⟨b_10, 0, none⟩) (Int.toNat 12) (Int.toNat 12)]] rfl rfl (Fa2.cons ⟨_, _, _, rfl, rfl, (Nat.le_refl _), (fun w h => (celRd h 3 encL5 rfl [2, 129, 0, (IntKind.wrap .u8 l_Result)] rfl))⟩ (Fa2.cons ⟨_, _, _, rfl, rfl, cpp_10, (fun w h => (rowRd h 4 encL5 rfl))⟩ (Fa2.cons ⟨_, _, _, rfl, rfl, cpp_11, (fun w h => (rowRd h 2 encL5 rfl))⟩ (Fa2.cons ⟨_, _, _, rfl, (List.length_replicate).symm, (natLe2 g_4a g_4c g_4b), (fun w h => (rowRd h 1 encL5 rfl))⟩ Fa2.nil))))) rfl (Nat.le_refl _) h hp ?_
        rintro rs_10 p_12 n_11 c_11 w rfl h hp
        have cpp_12 := rowCap h 0 rfl
        refine ⟨_, _, _, rfl, ?_⟩
        replace h := h.sel [0] 6
        dsimp only [pickL, pickR, nthH, delH, dropH, List.cons_append, List.nil_append] at h
        exact hR rs_10 p_12 rs_10.length c_11 _ rfl h hp
      replace hp := hp.2
      obtain ⟨g_5a, g_5b, g_5d, g_5e, hp⟩ := hp
      refine ⟨g_5a, g_5b, g_5d, g_5e, ?_⟩
      have g_5c : 0 ≤ (12 : Int) := Int.le_trans g_5a g_5b
      refine makeL (x0 := 0) (T := 5) h encL5 rfl (natLe2 g_5a g_5c g_5b) ?_
      intro b_12 w h
      refine ⟨(h.sel [3] 3), ?_⟩
      refine pcp_big_ok h hp ?_
      rintro rs_11 p_13 n_12 c_12 w rfl h hp
      have cpp_13 := rowCap h 0 rfl
      refine ⟨_, _, _, rfl, ?_⟩
      refine ⟨(h.sel [4] 4), ?_⟩
      refine newL (o := [Value.slice (some ⟨b_9, 0, none⟩) 4 4, Value.slice p_10 rs_8.length c_9, Value.slice p_13 rs_11.length c_12, Value.slice (some ⟨b_12, 0, none⟩) (Int.toNat 12) (Int.toNat 12)]) h ?_
      intro b_13 w h
      refine ⟨(h.sel [5] 5), ?_⟩
      refine pcp_row_ok (FL := cel b_13 22 [Value.slice (some ⟨b_9, 0, none⟩) 4 4, Value.slice p_10 rs_8.length c_9, Value.slice p_13 rs_11.length c_12, Value.slice (some ⟨b_12, 0, none⟩) (Int.toNat 12) (Int.toNat 12)] :: row enc5 5 1 p_13 c_12 rs_11 :: row enc5 5 1 (some ⟨b_12, 0, none⟩) (Int.toNat 12) (List.replicate (Int.toNat 12) 0) :: cel b_9 5 [Value.int .u8 2, Value.int .u8 129, Value.int .u8 0, Value.int .u8 (IntKind.wrap .u8 l_Result)] :: row enc5 5 1 p_10 c_9 rs_8 :: cel b_1 41 [Value.int .i64 l_Ver, Value.int .i64 l_Inside, Value.int .i64 l_Port, Value.int .i64 l_Secs, Value.int .u64 l_Nonce, Value.int .i64 l_Result, Value.int .i64 l_Epoch, Value.int .u32 l_Host] :: FL) (fun w h => celRdD (z := 1) h 0 rfl [[2, 129, 0, (IntKind.wrap .u8 l_Result)], rs_8, rs_11, (List.replicate (Int.toNat 12) 0)] [[Value.slice (some ⟨b_9, 0, none⟩) 4 4], [Value.slice p_10 rs_8.length c_9], [Value.slice p_13 rs_11.length c_12], [Value.slice (some ⟨b_12, 0, none⟩) (Int.toNat 12) (Int.toNat 12)]] rfl rfl (Fa2.cons ⟨_, _, _, rfl, rfl, (Nat.le_refl _), (fun w h => (celRd h 3 encL5 rfl [2, 129, 0, (IntKind.wrap .u8 l_Result)] rfl))⟩ (Fa2.cons ⟨_, _, _, rfl, rfl, cpp_10, (fun w h => (rowRd h 4 encL5 rfl))⟩ (Fa2.cons ⟨_, _, _, rfl, rfl, cpp_13, (fun w h => (rowRd h 1 encL5 rfl))⟩ (Fa2.cons ⟨_, _, _, rfl, (List.length_replicate).symm, (natLe2 g_5a g_5c g_5b), (fun w h => (rowRd h 2 encL5 rfl))⟩ Fa2.nil))))) rfl (Nat.le_refl _) h hp ?_
      rintro rs_12 p_14 n_13 c_13 w rfl h hp
      have cpp_14 := rowCap h 0 rfl
      refine ⟨_, _, _, rfl, ?_⟩
      replace h := h.sel [0] 6
      dsimp only [pickL, pickR, nthH, delH, dropH, List.cons_append, List.nil_append] at h
      exact hR rs_12 p_14 rs_12.length c_13 _ rfl h hp
    refine ⟨?_, ?_⟩
    · replace hp := hp.2.1
      refine pcp_big_ok h hp ?_
      rintro rs_13 p_15 n_14 c_14 w rfl h hp
      have cpp_15 := rowCap h 0 rfl
      refine ⟨_, _, _, rfl, ?_⟩
      refine ⟨(h.sel [2] 2), ?_⟩
      refine ⟨?_, ?_⟩
      · replace hp := hp.1
        refine newL (o := [Value.int .u8 2, Value.int .u8 129, Value.int .u8 0, Value.int .u8 (IntKind.wrap .u8 l_Result)]) h ?_
        intro b_14 w h
        refine ⟨(h.sel [3] 3), ?_⟩
        obtain ⟨g_6a, g_6b, g_6d, g_6e, hp⟩ := hp
        refine ⟨g_6a, g_6b, g_6d, g_6e, ?_⟩
        have g_6c : 0 ≤ (12 : Int) := Int.le_trans g_6a g_6b
        refine makeL (x0 := 0) (T := 5) h encL5 rfl (natLe2 g_6a g_6c g_6b) ?_
        intro b_15 w h
        refine ⟨(h.sel [4] 4), ?_⟩
        refine newL (o := [Value.slice (some ⟨b_14, 0, none⟩) 4 4, Value.slice p_10 rs_8.length c_9, Value.slice p_15 rs_13.length c_14, Value.slice (some ⟨b_15, 0, none⟩) (Int.toNat 12) (Int.toNat 12)]) h ?_
        intro b_16 w h
        refine ⟨(h.sel [5] 5), ?_⟩
        refine pcp_row_ok (FL := cel b_16 22 [Value.slice (some ⟨b_14, 0, none⟩) 4 4, Value.slice p_10 rs_8.length c_9, Value.slice p_15 rs_13.length c_14, Value.slice (some ⟨b_15, 0, none⟩) (Int.toNat 12) (Int.toNat 12)] :: row enc5 5 1 (some ⟨b_15, 0, none⟩) (Int.toNat 12) (List.replicate (Int.toNat 12) 0) :: cel b_14 5 [Value.int .u8 2, Value.int .u8 129, Value.int .u8 0, Value.int .u8 (IntKind.wrap .u8 l_Result)] :: row enc5 5 1 p_15 c_14 rs_13 :: row enc5 5 1 p_10 c_9 rs_8 :: cel b_1 41 [Value.int .i64 l_Ver, Value.int .i64 l_Inside, Value.int .i64 l_Port, Value.int .i64 l_Secs, Value.int .u64 l_Nonce, Value.int .i64 l_Result, Value.int .i64 l_Epoch, Value.int .u32 l_Host] :: FL) (fun w h => celRdD (z := 1) h 0 rfl [[2, 129, 0, (IntKind.wrap .u8 l_Result)], rs_8, rs_13, (List.replicate (Int.toNat 12) 0)] [[Value.slice (some ⟨b_14, 0, none⟩) 4 4], [Value.slice p_10 rs_8.length c_9], [Value.slice p_15 rs_13.length c_14], [Value.slice (some ⟨b_15, 0, none⟩) (Int.toNat 12) (Int.toNat 12)]] rfl rfl (Fa2.cons ⟨_, _, _, rfl, rfl, (Nat.le_refl _), (fun w h => (celRd h 2 encL5 rfl [2, 129, 0, (IntKind.wrap .u8 l_Result)] rfl))⟩ (Fa2.cons ⟨_, _, _, rfl, rfl, cpp_10, (fun w h => (rowRd h 4 encL5 rfl))⟩ (Fa2.cons ⟨_, _, _, rfl, rfl, cpp_15, (fun w h => (rowRd h 3 encL5 rfl))⟩ (Fa2.cons ⟨_, _, _, rfl, (List.length_replicate).symm, (natLe2 g_6a g_6c g_6b), (fun w h => (rowRd h 1 encL5 rfl))⟩ Fa2.nil))))) rfl (Nat.le_refl _) h hp ?_
        rintro rs_14 p_16 n_15 c_15 w rfl h hp
        have cpp_16 := rowCap h 0 rfl
        refine ⟨_, _, _, rfl, ?_⟩
        replace h := h.sel [0] 6
        dsimp only [pickL, pickR, nthH, delH, dropH, List.cons_append, List.nil_append] at h
        exact hR rs_14 p_16 rs_14.length c_15 _ rfl h hp
      replace hp := hp.2
      obtain ⟨g_7a, g_7b, g_7d, g_7e, hp⟩ := hp
      refine ⟨g_7a, g_7b, g_7d, g_7e, ?_⟩
      have g_7c : 0 ≤ (12 : Int) := Int.le_trans g_7a g_7b
      refine makeL (x0 := 0) (T := 5) h encL5 rfl (natLe2 g_7a g_7c g_7b) ?_
      intro b_17 w h
      refine ⟨(h.sel [3] 3), ?_⟩
      refine newL (o := [Value.int .u8 2, Value.int .u8 129, Value.int .u8 0, Value.int .u8 (IntKind.wrap .u8 l_Result)]) h ?_
      intro b_18 w h
      refine ⟨(h.sel [4] 4), ?_⟩
      refine newL (o := [Value.slice (some ⟨b_18, 0, none⟩) 4 4, Value.slice p_10 rs_8.length c_9, Value.slice p_15 rs_13.length c_14, Value.slice (some ⟨b_17, 0, none⟩) (Int.toNat 12) (Int.toNat 12)]) h ?_
      intro b_19 w h
      refine ⟨(h.sel [5] 5), ?_⟩
      refine pcp_row_ok (FL := cel b_19 22 [Value.slice (some ⟨b_18, 0, none⟩) 4 4, Value.slice p_10 rs_8.length c_9, Value.slice p_15 rs_13.length c_14, Value.slice (some ⟨b_17, 0, none⟩) (Int.toNat 12) (Int.toNat 12)] :: cel b_18 5 [Value.int .u8 2, Value.int .u8 129, Value.int .u8 0, Value.int .u8 (IntKind.wrap .u8 l_Result)] :: row enc5 5 1 (some ⟨b_17, 0, none⟩) (Int.toNat 12) (List.replicate (Int.toNat 12) 0) :: row enc5 5 1 p_15 c_14 rs_13 :: row enc5 5 1 p_10 c_9 rs_8 :: cel b_1 41 [Value.int .i64 l_Ver, Value.int .i64 l_Inside, Value.int .i64 l_Port, Value.int .i64 l_Secs, Value.int .u64 l_Nonce, Value.int .i64 l_Result, Value.int .i64 l_Epoch, Value.int .u32 l_Host] :: FL) (fun w h => celRdD (z := 1) h 0 rfl [[2, 129, 0, (IntKind.wrap .u8 l_Result)], rs_8, rs_13, (List.replicate (Int.toNat 12) 0)] [[Value.slice (some ⟨b_18, 0, none⟩) 4 4], [Value.slice p_10 rs_8.length c_9], [Value.slice p_15 rs_13.length c_14], [Value.slice (some ⟨b_17, 0, none⟩) (Int.toNat 12) (Int.toNat 12)]] rfl rfl (Fa2.cons ⟨_, _, _, rfl, rfl, (Nat.le_refl _), (fun w h => (celRd h 1 encL5 rfl [2, 129, 0, (IntKind.wrap .u8 l_Result)] rfl))⟩ (Fa2.cons ⟨_, _, _, rfl, rfl, cpp_10, (fun w h => (rowRd h 4 encL5 rfl))⟩ (Fa2.cons ⟨_, _, _, rfl, rfl, cpp_15, (fun w h => (rowRd h 3 encL5 rfl))⟩ (Fa2.cons ⟨_, _, _, rfl, (List.length_replicate).symm, (natLe2 g_7a g_7c g_7b), (fun w h => (rowRd h 2 encL5 rfl))⟩ Fa2.nil))))) rfl (Nat.le_refl _) h hp ?_
      rintro rs_15 p_17 n_16 c_16 w rfl h hp
      have cpp_17 := rowCap h 0 rfl
      refine ⟨_, _, _, rfl, ?_⟩
      replace h := h.sel [0] 6
      dsimp only [pickL, pickR, nthH, delH, dropH, List.cons_append, List.nil_append] at h
      exact hR rs_15 p_17 rs_15.length c_16 _ rfl h hp
    replace hp := hp.2.2
    obtain ⟨g_8a, g_8b, g_8d, g_8e, hp⟩ := hp
    refine ⟨g_8a, g_8b, g_8d, g_8e, ?_⟩
    have g_8c : 0 ≤ (12 : Int) := Int.le_trans g_8a g_8b
    refine makeL (x0 := 0) (T := 5) h encL5 rfl (natLe2 g_8a g_8c g_8b) ?_
    intro b_20 w h
    refine ⟨(h.sel [2] 2), ?_⟩
    refine ⟨?_, ?_⟩
    · replace hp := hp.1
      refine newL (o := [Value.int .u8 2, Value.int .u8 129, Value.int .u8 0, Value.int .u8 (IntKind.wrap .u8 l_Result)]) h ?_
      intro b_21 w h
      refine ⟨(h.sel [3] 3), ?_⟩
      refine pcp_big_ok h hp ?_
      rintro rs_16 p_18 n_17 c_17 w rfl h hp
      have cpp_18 := rowCap h 0 rfl
      refine ⟨_, _, _, rfl, ?_⟩
      refine ⟨(h.sel [4] 4), ?_⟩
      refine newL (o := [Value.slice (some ⟨b_21, 0, none⟩) 4 4, Value.slice p_10 rs_8.length c_9, Value.slice p_18 rs_16.length c_17, Value.slice (some ⟨b_20, 0, none⟩) (Int.toNat 12) (Int.toNat 12)]) h ?_
      intro b_22 w h
      refine ⟨(h.sel [5] 5), ?_⟩
      refine pcp_row_ok (FL := cel b_22 22 [Value.slice (some ⟨b_21, 0, none⟩) 4 4, Value.slice p_10 rs_8.length c_9, Value.slice p_18 rs_16.length c_17, Value.slice (some ⟨b_20, 0, none⟩) (Int.toNat 12) (Int.toNat 12)] :: row enc5 5 1 p_18 c_17 rs_16 :: cel b_21 5 [Value.int .u8 2, Value.int .u8 129, Value.int .u8 0, Value.int .u8 (IntKind.wrap .u8 l_Result)] :: row enc5 5 1 (some ⟨b_20, 0, none⟩) (Int.toNat 12) (List.replicate (Int.toNat 12) 0) :: row enc5 5 1 p_10 c_9 rs_8 :: cel b_1 41 [Value.int .i64 l_Ver, Value.int .i64 l_Inside, Value.int .i64 l_Port, Value.int .i64 l_Secs, Value.int .u64 l_Nonce, Value.int .i64 l_Result, Value.int .i64 l_Epoch, Value.int .u32 l_Host] :: FL) (fun w h => celRdD (z := 1) h 0 rfl [[2, 129, 0, (IntKind.wrap .u8 l_Result)], rs_8, rs_16, (List.replicate (Int.toNat 12) 0)] [[Value.slice (some ⟨b_21, 0, none⟩) 4 4], [Value.slice p_10 rs_8.length c_9], [Value.slice p_18 rs_16.length c_17], [Value.slice (some ⟨b_20, 0, none⟩) (Int.toNat 12) (Int.toNat 12)]] rfl rfl (Fa2.cons ⟨_, _, _, rfl, rfl, (Nat.le_refl _), (fun w h => (celRd h 2 encL5 rfl [2, 129, 0, (IntKind.wrap .u8 l_Result)] rfl))⟩ (Fa2.cons ⟨_, _, _, rfl, rfl, cpp_10, (fun w h => (rowRd h 4 encL5 rfl))⟩ (Fa2.cons ⟨_, _, _, rfl, rfl, cpp_18, (fun w h => (rowRd h 1 encL5 rfl))⟩ (Fa2.cons ⟨_, _, _, rfl, (List.length_replicate).symm, (natLe2 g_8a g_8c g_8b), (fun w h => (rowRd h 3 encL5 rfl))⟩ Fa2.nil))))) rfl (Nat.le_refl _) h hp ?_
      rintro rs_17 p_19 n_18 c_18 w rfl h hp
      have cpp_19 := rowCap h 0 rfl
      refine ⟨_, _, _, rfl, ?_⟩
      replace h := h.sel [0] 6
      dsimp only [pickL, pickR, nthH, delH, dropH, List.cons_append, List.nil_append] at h
      exact hR rs_17 p_19 rs_17.length c_18 _ rfl h hp
    replace hp := hp.2
    refine pcp_big_ok h hp ?_
    rintro rs_18 p_20 n_19 c_19 w rfl h hp
    have cpp_20 := rowCap h 0 rfl
    refine ⟨_, _, _, rfl, ?_⟩
    refine ⟨(h.sel [3] 3), ?_⟩
    refine newL (o := [Value.int .u8 2, Value.int .u8 129, Value.int .u8 0, Value.int .u8 (IntKind.wrap .u8 l_Result)]) h ?_
    intro b_23 w h
    refine ⟨(h.sel [4] 4), ?_⟩
    refine newL (o := [Value.slice (some ⟨b_23, 0, none⟩) 4 4, Value.slice p_10 rs_8.length c_9, Value.slice p_20 rs_18.length c_19, Value.slice (some ⟨b_20, 0, none⟩) (Int.toNat 12) (Int.toNat 12)]) h ?_
    intro b_24 w h
    refine ⟨(h.sel [5] 5), ?_⟩
    refine pcp_row_ok (FL := cel b_24 22 [Value.slice (some ⟨b_23, 0, none⟩) 4 4, Value.slice p_10 rs_8.length c_9, Value.slice p_20 rs_18.length c_19, Value.slice (some ⟨b_20, 0, none⟩) (Int.toNat 12) (Int.toNat 12)] :: cel b_23 5 [Value.int .u8 2, Value.int .u8 129, Value.int .u8 0, Value.int .u8 (IntKind.wrap .u8 l_Result)] :: row enc5 5 1 p_20 c_19 rs_18 :: row enc5 5 1 (some ⟨b_20, 0, none⟩) (Int.toNat 12) (List.replicate (Int.toNat 12) 0) :: row enc5 5 1 p_10 c_9 rs_8 :: cel b_1 41 [Value.int .i64 l_Ver, Value.int .i64 l_Inside, Value.int .i64 l_Port, Value.int .i64 l_Secs, Value.int .u64 l_Nonce, Value.int .i64 l_Result, Value.int .i64 l_Epoch, Value.int .u32 l_Host] :: FL) (fun w h => celRdD (z := 1) h 0 rfl [[2, 129, 0, (IntKind.wrap .u8 l_Result)], rs_8, rs_18, (List.replicate (Int.toNat 12) 0)] [[Value.slice (some ⟨b_23, 0, none⟩) 4 4], [Value.slice p_10 rs_8.length c_9], [Value.slice p_20 rs_18.length c_19], [Value.slice (some ⟨b_20, 0, none⟩) (Int.toNat 12) (Int.toNat 12)]] rfl rfl (Fa2.cons ⟨_, _, _, rfl, rfl, (Nat.le_refl _), (fun w h => (celRd h 1 encL5 rfl [2, 129, 0, (IntKind.wrap .u8 l_Result)] rfl))⟩ (Fa2.cons ⟨_, _, _, rfl, rfl, cpp_10, (fun w h => (rowRd h 4 encL5 rfl))⟩ (Fa2.cons ⟨_, _, _, rfl, rfl, cpp_20, (fun w h => (rowRd h 2 encL5 rfl))⟩ (Fa2.cons ⟨_, _, _, rfl, (List.length_replicate).symm, (natLe2 g_8a g_8c g_8b), (fun w h => (rowRd h 3 encL5 rfl))⟩ Fa2.nil))))) rfl (Nat.le_refl _) h hp ?_
    rintro rs_19 p_21 n_20 c_20 w rfl h hp
    have cpp_21 := rowCap h 0 rfl
    refine ⟨_, _, _, rfl, ?_⟩
    replace h := h.sel [0] 6
    dsimp only [pickL, pickR, nthH, delH, dropH, List.cons_append, List.nil_append] at h
    exact hR rs_19 p_21 rs_19.length c_20 _ rfl h hp
  replace hp := hp.2.2
  obtain ⟨g_9a, g_9b, g_9d, g_9e, hp⟩ := hp
  refine ⟨g_9a, g_9b, g_9d, g_9e, ?_⟩
  have g_9c : 0 ≤ (12 : Int) := Int.le_trans g_9a g_9b
  refine makeL (x0 := 0) (T := 5) h encL5 rfl (natLe2 g_9a g_9c g_9b) ?_
  intro b_25 w h
  refine ⟨(h.sel [1] 1), ?_⟩
  refine ⟨?_, ?_⟩
  · replace hp := hp.1
    refine newL (o := [Value.int .u8 2, Value.int .u8 129, Value.int .u8 0, Value.int .u8 (IntKind.wrap .u8 l_Result)]) h ?_
    intro b_26 w h
    refine ⟨(h.sel [2] 2), ?_⟩
    refine pcp_big_ok h hp ?_
    rintro rs_20 p_22 n_21 c_21 w rfl h hp
    have cpp_22 := rowCap h 0 rfl
    refine ⟨_, _, _, rfl, ?_⟩
    refine ⟨(h.sel [3] 3), ?_⟩
    refine pcp_big_ok h hp ?_
    rintro rs_21 p_23 n_22 c_22 w rfl h hp
    have cpp_23 := rowCap h 0 rfl
    refine ⟨_, _, _, rfl, ?_⟩
    refine ⟨(h.sel [4] 4), ?_⟩
    refine newL (o := [Value.slice (some ⟨b_26, 0, none⟩) 4 4, Value.slice p_22 rs_20.length c_21, Value.slice p_23 rs_21.length c_22, Value.slice (some ⟨b_25, 0, none⟩) (Int.toNat 12) (Int.toNat 12)]) h ?_
    intro b_27 w h
    refine ⟨(h.sel [5] 5), ?_⟩
    refine pcp_row_ok (FL := cel b_27 22 [Value.slice (some ⟨b_26, 0, none⟩) 4 4, Value.slice p_22 rs_20.length c_21, Value.slice p_23 rs_21.length c_22, Value.slice (some ⟨b_25, 0, none⟩) (Int.toNat 12) (Int.toNat 12)] :: row enc5 5 1 p_23 c_22 rs_21 :: row enc5 5 1 p_22 c_21 rs_20 :: cel b_26 5 [Value.int .u8 2, Value.int .u8 129, Value.int .u8 0, Value.int .u8 (IntKind.wrap .u8 l_Result)] :: row enc5 5 1 (some ⟨b_25, 0, none⟩) (Int.toNat 12) (List.replicate (Int.toNat 12) 0) :: cel b_1 41 [Value.int .i64 l_Ver, Value.int .i64 l_Inside, Value.int .i64 l_Port, Value.int .i64 l_Secs, Value.int .u64 l_Nonce, Value.int .i64 l_Result, Value.int .i64 l_Epoch, Value.int .u32 l_Host] :: FL) (fun w h => celRdD (z := 1) h 0 rfl [[2, 129, 0, (IntKind.wrap .u8 l_Result)], rs_20, rs_21, (List.replicate (Int.toNat 12) 0)] [[Value.slice (some ⟨b_26, 0, none⟩) 4 4], [Value.slice p_22 rs_20.length c_21], [Value.slice p_23 rs_21.length c_22], [Value.slice (some ⟨b_25, 0, none⟩) (Int.toNat 12) (Int.toNat 12)]] rfl rfl (Fa2.cons ⟨_, _, _, rfl, rfl, (Nat.le_refl _), (fun w h => (celRd h 3 encL5 rfl [2, 129, 0, (IntKind.wrap .u8 l_Result)] rfl))⟩ (Fa2.cons ⟨_, _, _, rfl, rfl, cpp_22, (fun w h => (rowRd h 2 encL5 rfl))⟩ (Fa2.cons ⟨_, _, _, rfl, rfl, cpp_23, (fun w h => (rowRd h 1 encL5 rfl))⟩ (Fa2.cons ⟨_, _, _, rfl, (List.length_replicate).symm, (natLe2 g_9a g_9c g_9b), (fun w h => (rowRd h 4 encL5 rfl))⟩ Fa2.nil))))) rfl (Nat.le_refl _) h hp ?_
    rintro rs_22 p_24 n_23 c_23 w rfl h hp
    have cpp_24 := rowCap h 0 rfl
    refine ⟨_, _, _, rfl, ?_⟩
    replace h := h.sel [0] 6
    dsimp only [pickL, pickR, nthH, delH, dropH, List.cons_append, List.nil_append] at h
    exact hR rs_22 p_24 rs_22.length c_23 _ rfl h hp
  replace hp := hp.2
  refine pcp_big_ok h hp ?_
  rintro rs_23 p_25 n_24 c_24 w rfl h hp
  have cpp_25 := rowCap h 0 rfl
  refine ⟨_, _, _, rfl, ?_⟩
  refine ⟨(h.sel [2] 2), ?_⟩
  refine ⟨?_, ?_⟩
  · replace hp := hp.1
    refine newL (o := [Value.int .u8 2, Value.int .u8 129, Value.int .u8 0, Value.int .u8 (IntKind.wrap .u8 l_Result)]) h ?_
    intro b_28 w h
    refine ⟨(h.sel [3] 3), ?_⟩
    refine pcp_big_ok h hp ?_
    rintro rs_24 p_26 n_25 c_25 w rfl h hp
    have cpp_26 := rowCap h 0 rfl
    refine ⟨_, _, _, rfl, ?_⟩
    refine ⟨(h.sel [4] 4), ?_⟩
    refine newL (o := [Value.slice (some ⟨b_28, 0, none⟩) 4 4, Value.slice p_25 rs_23.length c_24, Value.slice p_26 rs_24.length c_25, Value.slice (some ⟨b_25, 0, none⟩) (Int.toNat 12) (Int.toNat 12)]) h ?_
    intro b_29 w h
    refine ⟨(h.sel [5] 5), ?_⟩
    refine pcp_row_ok (FL := cel b_29 22 [Value.slice (some ⟨b_28, 0, none⟩) 4 4, Value.slice p_25 rs_23.length c_24, Value.slice p_26 rs_24.length c_25, Value.slice (some ⟨b_25, 0, none⟩) (Int.toNat 12) (Int.toNat 12)] :: row enc5 5 1 p_26 c_25 rs_24 :: cel b_28 5 [Value.int .u8 2, Value.int .u8 129, Value.int .u8 0, Value.int .u8 (IntKind.wrap .u8 l_Result)] :: row enc5 5 1 p_25 c_24 rs_23 :: row enc5 5 1 (some ⟨b_25, 0, none⟩) (Int.toNat 12) (List.replicate (Int.toNat 12) 0) :: cel b_1 41 [Value.int .i64 l_Ver, Value.int .i64 l_Inside, Value.int .i64 l_Port, Value.int .i64 l_Secs, Value.int .u64 l_Nonce, Value.int .i64 l_Result, Value.int .i64 l_Epoch, Value.int .u32 l_Host] :: FL) (fun w h => celRdD (z := 1) h 0 rfl [[2, 129, 0, (IntKind.wrap .u8 l_Result)], rs_23, rs_24, (List.replicate (Int.toNat 12) 0)] [[Value.slice (some ⟨b_28, 0, none⟩) 4 4], [Value.slice p_25 rs_23.length c_24], [Value.slice p_26 rs_24.length c_25], [Value.slice (some ⟨b_25, 0, none⟩) (Int.toNat 12) (Int.toNat 12)]] rfl rfl (Fa2.cons ⟨_, _, _, rfl, rfl, (Nat.le_refl _), (fun w h => (celRd h 2 encL5 rfl [2, 129, 0, (IntKind.wrap .u8 l_Result)] rfl))⟩ (Fa2.cons ⟨_, _, _, rfl, rfl, cpp_25, (fun w h => (rowRd h 3 encL5 rfl))⟩ (Fa2.cons ⟨_, _, _, rfl, rfl, cpp_26, (fun w h => (rowRd h 1 encL5 rfl))⟩ (Fa2.cons ⟨_, _, _, rfl, (List.length_replicate).symm, (natLe2 g_9a g_9c g_9b), (fun w h => (rowRd h 4 encL5 rfl))⟩ Fa2.nil))))) rfl (Nat.le_refl _) h hp ?_
    rintro rs_25 p_27 n_26 c_26 w rfl h hp
    have cpp_27 := rowCap h 0 rfl
    refine ⟨_, _, _, rfl, ?_⟩
    replace h := h.sel [0] 6
    dsimp only [pickL, pickR, nthH, delH, dropH, List.cons_append, List.nil_append] at h
    exact hR rs_25 p_27 rs_25.length c_26 _ rfl h hp
  replace hp := hp.2
  refine pcp_big_ok h hp ?_
  rintro rs_26 p_28 n_27 c_27 w rfl h hp
  have cpp_28 := rowCap h 0 rfl
  refine ⟨_, _, _, rfl, ?_⟩
  refine ⟨(h.sel [3] 3), ?_⟩
  refine newL (o := [Value.int .u8 2, Value.int .u8 129, Value.int .u8 0, Value.int .u8 (IntKind.wrap .u8 l_Result)]) h ?_
  intro b_30 w h
  refine ⟨(h.sel [4] 4), ?_⟩
  refine newL (o := [Value.slice (some ⟨b_30, 0, none⟩) 4 4, Value.slice p_25 rs_23.length c_24, Value.slice p_28 rs_26.length c_27, Value.slice (some ⟨b_25, 0, none⟩) (Int.toNat 12) (Int.toNat 12)]) h ?_
  intro b_31 w h
  refine ⟨(h.sel [5] 5), ?_⟩
  refine pcp_row_ok (FL := cel b_31 22 [Value.slice (some ⟨b_30, 0, none⟩) 4 4, Value.slice p_25 rs_23.length c_24, Value.slice p_28 rs_26.length c_27, Value.slice (some ⟨b_25, 0, none⟩) (Int.toNat 12) (Int.toNat 12)] :: cel b_30 5 [Value.int .u8 2, Value.int .u8 129, Value.int .u8 0, Value.int .u8 (IntKind.wrap .u8 l_Result)] :: row enc5 5 1 p_28 c_27 rs_26 :: row enc5 5 1 p_25 c_24 rs_23 :: row enc5 5 1 (some ⟨b_25, 0, none⟩) (Int.toNat 12) (List.replicate (Int.toNat 12) 0) :: cel b_1 41 [Value.int .i64 l_Ver, Value.int .i64 l_Inside, Value.int .i64 l_Port, Value.int .i64 l_Secs, Value.int .u64 l_Nonce, Value.int .i64 l_Result, Value.int .i64 l_Epoch, Value.int .u32 l_Host] :: FL) (fun w h => celRdD (z := 1) h 0 rfl [[2, 129, 0, (IntKind.wrap .u8 l_Result)], rs_23, rs_26, (List.replicate (Int.toNat 12) 0)] [[Value.slice (some ⟨b_30, 0, none⟩) 4 4], [Value.slice p_25 rs_23.length c_24], [Value.slice p_28 rs_26.length c_27], [Value.slice (some ⟨b_25, 0, none⟩) (Int.toNat 12) (Int.toNat 12)]] rfl rfl (Fa2.cons ⟨_, _, _, rfl, rfl, (Nat.le_refl _), (fun w h => (celRd h 1 encL5 rfl [2, 129, 0, (IntKind.wrap .u8 l_Result)] rfl))⟩ (Fa2.cons ⟨_, _, _, rfl, rfl, cpp_25, (fun w h => (rowRd h 3 encL5 rfl))⟩ (Fa2.cons ⟨_, _, _, rfl, rfl, cpp_28, (fun w h => (rowRd h 2 encL5 rfl))⟩ (Fa2.cons ⟨_, _, _, rfl, (List.length_replicate).symm, (natLe2 g_9a g_9c g_9b), (fun w h => (rowRd h 4 encL5 rfl))⟩ Fa2.nil))))) rfl (Nat.le_refl _) h hp ?_
  rintro rs_27 p_29 n_28 c_28 w rfl h hp
  have cpp_29 := rowCap h 0 rfl
  refine ⟨_, _, _, rfl, ?_⟩
  replace h := h.sel [0] 6
  dsimp only [pickL, pickR, nthH, delH, dropH, List.cons_append, List.nil_append] at h
  exact hR rs_27 p_29 rs_27.length c_28 _ rfl h hp
def pmp_get_wp (b_1 : List (Int)) (K : Int → Prop) : Prop :=
  ∃ (I : Nat → Int → Int → Prop), (∃ (n_4 : Nat), I n_4 0 0) ∧ ∀ (n_2 : Nat) (n3 t8 : Int), I n_2 n3 t8 → (cond (decide (t8 < ((b_1.length : Nat) : Int))) (0 ≤ t8 ∧ (t8 : Int) < ((b_1.length : Nat) : Int) ∧ (∀ (x_1 : Int), b_1[Int.toNat t8]? = some x_1 → (∃ (n_3 : Nat), n_3 < n_2 ∧ I n_3 (bitsV .or .i64 (IntKind.wrap .i64 (n3 * 2 ^ (min (Int.toNat 8) (IntKind.bits .i64)))) (IntKind.wrap .i64 x_1)) (IntKind.wrap .i64 (t8 + 1))))) (K n3))
theorem pmp_get_ok {p_1 : Option Addr} {n_1 c_1 : Nat} {b_1 : List (Int)} {FL : List HP} {w : World} {K : Int → Prop} {R : Value → World → Prop}
  (hF_b_1 : ∀ w, Mem FL w → Rd w 1 p_1 enc5 b_1) (hl_b_1 : n_1 = b_1.length) (hc_b_1 : n_1 ≤ c_1)
  (h : Mem (FL) w) (hp : pmp_get_wp b_1 K)
  (hR : ∀ (r : Int) (w : World), Mem (FL) w → K r → R (Value.int .i64 r) w) :
  CallV Try.prog 26 #[Value.slice p_1 n_1 c_1] w R := by
  refine pmp_get_call ?_
  unfold pmp_get
  unfold pmp_get_wp at hp
  subst hl_b_1
  obtain ⟨I, ⟨n_4, h0⟩, hq⟩ := hp
  refine ⟨fun n_2 n3 t6p t6l t6c t7 t8 w => p_1 = t6p ∧ b_1.length = t6l ∧ c_1 = t6c ∧ ((b_1.length : Nat) : Int) = t7 ∧ I n_2 n3 t8 ∧ Mem (FL) w, ⟨n_4, rfl, rfl, rfl, rfl, h0, h⟩, ?_⟩
  clear h0 h
  rintro n_2 n3 t6p t6l t6c t7 t8 w ⟨rfl, rfl, rfl, rfl, hp, h⟩
  replace hp := hq n_2 n3 t8 hp
  clear hq
  unfold pmp_get_l1
  refine cond_both' hp (fun hp => ?_) (fun hp => ?_)
  · exact hR n3 _ h hp
  obtain ⟨ia_1, ja_1, hp⟩ := hp
  obtain ⟨a_1, ha_1⟩ := rdAddr (hF_b_1 _ (h.drop 0)) rfl ia_1 ja_1
  refine ⟨a_1, ha_1, ia_1, ja_1, ?_⟩
  obtain ⟨x_1, hx_1, hc⟩ := rdCell0 (hF_b_1 _ (h.drop 0)) ha_1 rfl ia_1 ja_1
  replace hp := hp x_1 hx_1
  refine ⟨_, hc _ rfl, ?_⟩
  refine ⟨by decide, ?_⟩
  obtain ⟨n_3, hn, hp⟩ := hp
  exact ⟨n_3, hn, rfl, rfl, rfl, rfl, hp, h⟩
def pmp_ReadAsk_c1_wp (host : Bool) (t : List (Int)) (K : Int → Int → Int → Int → Int → Int → Int → Int → Prop) : Prop :=
  cond host (K 0 0 0 0 0 0 0 0) (0 ≤ (6 : Int) ∧ (6 : Int) ≤ ((t.length : Nat) : Int) ∧ 0 ≤ (4 : Int) ∧ (4 : Int) ≤ (6 : Int) ∧ (0 ≤ (8 : Int) ∧ (8 : Int) ≤ ((t.length : Nat) : Int) ∧ 0 ≤ (6 : Int) ∧ (6 : Int) ≤ (8 : Int) ∧ (0 ≤ (12 : Int) ∧ (12 : Int) ≤ ((t.length : Nat) : Int) ∧ 0 ≤ (8 : Int) ∧ (8 : Int) ≤ (12 : Int) ∧ (pmp_get_wp ((t.take (Int.toNat 6)).drop (Int.toNat 4)) (fun (r : Int) => pmp_get_wp ((t.take (Int.toNat 8)).drop (Int.toNat 6)) (fun (r_1 : Int) => pmp_get_wp ((t.take (Int.toNat 12)).drop (Int.toNat 8)) (fun (r_2 : Int) => K 0 r r_1 r_2 0 0 0 0)))))))
theorem pmp_ReadAsk_c1_ok {b_1 : Nat} {p_1 : Option Addr} {n_1 c_1 : Nat} {host : Bool} {t : List (Int)} {FL : List HP} {w : World} {K : Int → Int → Int → Int → Int → Int → Int → Int → Prop} {R : Value → World → Prop}
  (hF_t : ∀ w, Mem FL w → Rd w 1 p_1 enc5 t) (hl_t : n_1 = t.length) (hc_t : n_1 ≤ c_1)
  (h : Mem (cel b_1 22 [Value.slice p_1 n_1 c_1] :: FL) w) (hp : pmp_ReadAsk_c1_wp host t K)
  (hR : ∀ (r r_1 r_2 r_3 r_4 r_5 r_6 r_7 : Int) (w : World), Mem (cel b_1 22 [Value.slice p_1 t.length c_1] :: FL) w → K r r_1 r_2 r_3 r_4 r_5 r_6 r_7 → R (Value.agg #[Value.int .i64 r, Value.int .i64 r_1, Value.int .i64 r_2, Value.int .i64 r_3, Value.int .u64 r_4, Value.int .i64 r_5, Value.int .i64 r_6, Value.int .u32 r_7]) w) :
  CallV Try.prog 25 #[Value.bool host, Value.pointer (some (Addr.mk b_1 0 none))] w R := by
  refine pmp_ReadAsk_c1_call ?_
  unfold pmp_ReadAsk_c1
  unfold pmp_ReadAsk_c1_wp at hp
  subst hl_t
  refine newL (o := [Value.int .i64 0, Value.int .i64 0, Value.int .i64 0, Value.int .i64 0, Value.int .u64 0, Value.int .i64 0, Value.int .i64 0, Value.int .u32 0]) h ?_
  intro b_2 w h
  refine cond_both hp (fun hp => ?_) (fun hp => ?_)
  · refine storeL (ys := [Value.int .i64 0, Value.int .i64 0, Value.int .i64 0, Value.int .i64 0, Value.int .u64 0, Value.int .i64 0, Value.int .i64 0, Value.int .u32 0]) h 0 0 rfl rfl rfl sz41 rfl rfl ?_
    intro w h
    dsimp only [setH, setVs, setV] at h
    refine ⟨_, cellL h 0 0 rfl rfl rfl, _, cellL h 0 1 rfl rfl rfl, _, cellL h 0 2 rfl rfl rfl, _, cellL h 0 3 rfl rfl rfl, _, cellL h 0 4 rfl rfl rfl, _, cellL h 0 5 rfl rfl rfl, _, cellL h 0 6 rfl rfl rfl, _, cellL h 0 7 rfl rfl rfl, ?_⟩
    replace h := h.sel [1] 1
    dsimp only [pickL, pickR, nthH, delH, dropH, List.cons_append, List.nil_append] at h
    exact hR 0 0 0 0 0 0 0 0 _ h hp
  replace h := h.drew
  refine ⟨fun w => Mem (cel b_1 22 [Value.slice p_1 t.length c_1] :: FL) w, (h.sel [1] 1), ?_⟩
  refine ⟨_, _, _, cellL h 1 0 rfl rfl rfl, ?_⟩
  obtain ⟨g_1ha, g_1hb, g_1la, g_1lb, hp⟩ := hp
  have vg_1_lh : (Int.toNat 4) ≤ (Int.toNat 6) := (natLe2 g_1la g_1ha g_1lb)
  have vg_1_hm : (Int.toNat 6) ≤ c_1 := (Nat.le_trans (natLe g_1ha g_1hb) hc_t)
  have vg_1_mc : c_1 ≤ c_1 := (Nat.le_refl _)
  have vg_1_hl : (Int.toNat 6) ≤ t.length := (leLen g_1ha g_1hb rfl)
  refine ⟨g_1ha, (leCap g_1hb hc_t), g_1la, (leNat g_1ha g_1lb), ?_⟩
  refine ⟨_, _, _, cellL h 1 0 rfl rfl rfl, ?_⟩
  refine ⟨?_, ?_⟩
  · intro w h
    change Mem _ _ at h
    refine ⟨_, _, _, cellL h 0 0 rfl rfl rfl, ?_⟩
    exact ⟨rfl, rfl⟩
  obtain ⟨g_2ha, g_2hb, g_2la, g_2lb, hp⟩ := hp
  have vg_2_lh : (Int.toNat 6) ≤ (Int.toNat 8) := (natLe2 g_2la g_2ha g_2lb)
  have vg_2_hm : (Int.toNat 8) ≤ c_1 := (Nat.le_trans (natLe g_2ha g_2hb) hc_t)
  have vg_2_mc : c_1 ≤ c_1 := (Nat.le_refl _)
  have vg_2_hl : (Int.toNat 8) ≤ t.length := (leLen g_2ha g_2hb rfl)
  refine ⟨g_2ha, (leCap g_2hb hc_t), g_2la, (leNat g_2ha g_2lb), ?_⟩
  refine ⟨_, _, _, cellL h 1 0 rfl rfl rfl, ?_⟩
  refine ⟨?_, ?_⟩
  · intro w h
    change Mem _ _ at h
    refine ⟨_, _, _, cellL h 0 0 rfl rfl rfl, ?_⟩
    exact ⟨rfl, rfl⟩
  obtain ⟨g_3ha, g_3hb, g_3la, g_3lb, hp⟩ := hp
  have vg_3_lh : (Int.toNat 8) ≤ (Int.toNat 12) := (natLe2 g_3la g_3ha g_3lb)
  have vg_3_hm : (Int.toNat 12) ≤ c_1 := (Nat.le_trans (natLe g_3ha g_3hb) hc_t)
  have vg_3_mc : c_1 ≤ c_1 := (Nat.le_refl _)
  have vg_3_hl : (Int.toNat 12) ≤ t.length := (leLen g_3ha g_3hb rfl)
  refine ⟨g_3ha, (leCap g_3hb hc_t), g_3la, (leNat g_3ha g_3lb), ?_⟩
  refine pmp_get_ok (FL := cel b_2 41 [Value.int .i64 0, Value.int .i64 0, Value.int .i64 0, Value.int .i64 0, Value.int .u64 0, Value.int .i64 0, Value.int .i64 0, Value.int .u32 0] :: cel b_1 22 [Value.slice p_1 t.length c_1] :: FL) (fun w h => (Rd.view (hF_t _ (h.drop 2)) (l := (Int.toNat 4)) (h := (Int.toNat 6)) (m := c_1) vg_1_hm)) (viewLen vg_1_hl) (Nat.sub_le_sub_right vg_1_hm _) h hp ?_
  intro r w h hp
  refine ⟨_, rfl, ?_⟩
  refine ⟨(h.sel [1] 1), ?_⟩
  refine pmp_get_ok (FL := cel b_2 41 [Value.int .i64 0, Value.int .i64 0, Value.int .i64 0, Value.int .i64 0, Value.int .u64 0, Value.int .i64 0, Value.int .i64 0, Value.int .u32 0] :: cel b_1 22 [Value.slice p_1 t.length c_1] :: FL) (fun w h => (Rd.view (hF_t _ (h.drop 2)) (l := (Int.toNat 6)) (h := (Int.toNat 8)) (m := c_1) vg_2_hm)) (viewLen vg_2_hl) (Nat.sub_le_sub_right vg_2_hm _) h hp ?_
  intro r_1 w h hp
  refine ⟨_, rfl, ?_⟩
  refine ⟨(h.sel [1] 1), ?_⟩
  refine pmp_get_ok (FL := cel b_2 41 [Value.int .i64 0, Value.int .i64 0, Value.int .i64 0, Value.int .i64 0, Value.int .u64 0, Value.int .i64 0, Value.int .i64 0, Value.int .u32 0] :: cel b_1 22 [Value.slice p_1 t.length c_1] :: FL) (fun w h => (Rd.view (hF_t _ (h.drop 2)) (l := (Int.toNat 8)) (h := (Int.toNat 12)) (m := c_1) vg_3_hm)) (viewLen vg_3_hl) (Nat.sub_le_sub_right vg_3_hm _) h hp ?_
  intro r_2 w h hp
  refine ⟨_, rfl, ?_⟩
  refine storeL (ys := [Value.int .i64 0, Value.int .i64 r, Value.int .i64 r_1, Value.int .i64 r_2, Value.int .u64 0, Value.int .i64 0, Value.int .i64 0, Value.int .u32 0]) h 0 0 rfl rfl rfl sz41 rfl rfl ?_
  intro w h
  dsimp only [setH, setVs, setV] at h
  refine ⟨_, cellL h 0 0 rfl rfl rfl, _, cellL h 0 1 rfl rfl rfl, _, cellL h 0 2 rfl rfl rfl, _, cellL h 0 3 rfl rfl rfl, _, cellL h 0 4 rfl rfl rfl, _, cellL h 0 5 rfl rfl rfl, _, cellL h 0 6 rfl rfl rfl, _, cellL h 0 7 rfl rfl rfl, ?_⟩
  replace h := h.sel [1] 1
  dsimp only [pickL, pickR, nthH, delH, dropH, List.cons_append, List.nil_append] at h
  exact hR 0 r r_1 r_2 0 0 0 0 _ h hp
def sEqY_wp (s : List (Int)) (s_1 : List (Int)) (K : Bool → Prop) : Prop :=
  cond ((((s.length : Nat) : Int) : Int) != ((s_1.length : Nat) : Int)) (K false) (∃ (I : Nat → Int → Prop), (∃ (n_5 : Nat), I n_5 0) ∧ ∀ (n_3 : Nat) (t13 : Int), I n_3 t13 → (cond (decide (t13 < ((s.length : Nat) : Int))) (0 ≤ t13 ∧ (t13 : Int) < ((s.length : Nat) : Int) ∧ (∀ (x_1 : Int), s[Int.toNat t13]? = some x_1 → (0 ≤ t13 ∧ (t13 : Int) < ((s_1.length : Nat) : Int) ∧ (∀ (x_2 : Int), s_1[Int.toNat t13]? = some x_2 → (cond (x_1 != x_2) (K false) (∃ (n_4 : Nat), n_4 < n_3 ∧ I n_4 (IntKind.wrap .i64 (t13 + 1)))))))) (K true)))
theorem sEqY_ok {p_1 : Option Addr} {n_1 c_1 : Nat} {p_2 : Option Addr} {n_2 c_2 : Nat} {s : List (Int)} {s_1 : List (Int)} {FL : List HP} {w : World} {K : Bool → Prop} {R : Value → World → Prop}
  (hF_s : ∀ w, Mem FL w → Rd w 1 p_1 enc5 s) (hl_s : n_1 = s.length) (hc_s : n_1 ≤ c_1)
  (hF_s_1 : ∀ w, Mem FL w → Rd w 1 p_2 enc5 s_1) (hl_s_1 : n_2 = s_1.length) (hc_s_1 : n_2 ≤ c_2)
  (h : Mem (FL) w) (hp : sEqY_wp s s_1 K)
  (hR : ∀ (r : Bool) (w : World), Mem (FL) w → K r → R (Value.bool r) w) :
  CallV Try.prog 53 #[Value.slice p_1 n_1 c_1, Value.slice p_2 n_2 c_2] w R := by
  refine sEqY_call ?_
  unfold sEqY
  unfold sEqY_wp at hp
  subst hl_s
  subst hl_s_1
  refine cond_both hp (fun hp => ?_) (fun hp => ?_)
  · exact hR false _ h hp
  obtain ⟨I, ⟨n_5, h0⟩, hq⟩ := hp
  refine ⟨fun n_3 s10p s10l s10c s21p s21l s21c t12 t13 w => p_1 = s10p ∧ s.length = s10l ∧ c_1 = s10c ∧ p_2 = s21p ∧ s_1.length = s21l ∧ c_2 = s21c ∧ ((s.length : Nat) : Int) = t12 ∧ I n_3 t13 ∧ Mem (FL) w, ⟨n_5, rfl, rfl, rfl, rfl, rfl, rfl, rfl, h0, h⟩, ?_⟩
  clear h0 h
  rintro n_3 s10p s10l s10c s21p s21l s21c t12 t13 w ⟨rfl, rfl, rfl, rfl, rfl, rfl, rfl, hp, h⟩
  replace hp := hq n_3 t13 hp
  clear hq
  unfold sEqY_l1
  refine cond_both' hp (fun hp => ?_) (fun hp => ?_)
  · exact hR true _ h hp
  replace h := h.drew
  obtain ⟨ia_1, ja_1, hp⟩ := hp
  obtain ⟨a_1, ha_1⟩ := rdAddr (hF_s _ (h.drop 0)) rfl ia_1 ja_1
  refine ⟨a_1, ha_1, ia_1, ja_1, ?_⟩
  obtain ⟨x_1, hx_1, hc⟩ := rdCell0 (hF_s _ (h.drop 0)) ha_1 rfl ia_1 ja_1
  replace hp := hp x_1 hx_1
  refine ⟨_, hc _ rfl, ?_⟩
  obtain ⟨ia_2, ja_2, hp⟩ := hp
  obtain ⟨a_2, ha_2⟩ := rdAddr (hF_s_1 _ (h.drop 0)) rfl ia_2 ja_2
  refine ⟨a_2, ha_2, ia_2, ja_2, ?_⟩
  obtain ⟨x_2, hx_2, hc⟩ := rdCell0 (hF_s_1 _ (h.drop 0)) ha_2 rfl ia_2 ja_2
  replace hp := hp x_2 hx_2
  refine ⟨_, hc _ rfl, ?_⟩
  refine cond_both hp (fun hp => ?_) (fun hp => ?_)
  · exact hR false _ h hp
  obtain ⟨n_4, hn, hp⟩ := hp
  exact ⟨n_4, hn, rfl, rfl, rfl, rfl, rfl, rfl, rfl, hp, h⟩
def pmp_read_wp {σ3 : Type} {σ4 : Type} (b_1 : List (Int)) (hostLen portLen : Int) (s : σ3) (Y3 : (Bool) → σ3 → (Int → Int → Int → Int → Int → Int → Int → Int → σ3 → Prop) → Prop) (s_1 : σ4) (Y4 : (Int × Int × Int × Int × Int × Int × Int × Int) → (Bool) → σ4 → (List (Int) → σ4 → Prop) → Prop) (K : Int → Int → Int → Int → Int → Int → Int → Int → Bool → Int → σ3 → σ4 → Prop) : Prop :=
  joinP0 (Y3 ((((b_1.length : Nat) : Int) : Int) == hostLen) s (fun (t32_0 t32_1 t32_2 t32_3 t32_4 t32_5 t32_6 t32_7 : Int) (s_4 : σ3) => Y4 (t32_0, t32_1, t32_2, t32_3, t32_4, t32_5, t32_6, t32_7) ((((b_1.length : Nat) : Int) : Int) == hostLen) s_1 (fun (rs : List (Int)) (s_5 : σ4) => sEqY_wp rs b_1 (fun (r : Bool) => cond (!r) (K 0 0 0 0 0 0 0 0 false 3 s_4 s_5) (K t32_0 t32_1 t32_2 t32_3 t32_4 t32_5 t32_6 t32_7 ((((b_1.length : Nat) : Int) : Int) == hostLen) 0 s_4 s_5))))) (fun (Q : Prop) => joinP1 (fun (t24 : Bool) => cond t24 (K 0 0 0 0 0 0 0 0 false 3 s s_1) (Q )) (fun (Q_1 : Bool → Prop) => cond ((((b_1.length : Nat) : Int) : Int) != hostLen) (Q_1 ((((b_1.length : Nat) : Int) : Int) != portLen)) (Q_1 false)))
theorem pmp_read_ok {σ3 : Type} {A3 : σ3 → HP} {σ4 : Type} {A4 : σ4 → HP} {p_1 : Option Addr} {n_1 c_1 : Nat} {ff3 : Fn} {fa3 fc3 : Array Value} {ff4 : Fn} {fa4 fc4 : Array Value} {b_1 : List (Int)} {hostLen portLen : Int} {s : σ3} {Y3 : (Bool) → σ3 → (Int → Int → Int → Int → Int → Int → Int → Int → σ3 → Prop) → Prop} {s_1 : σ4} {Y4 : (Int × Int × Int × Int × Int × Int × Int × Int) → (Bool) → σ4 → (List (Int) → σ4 → Prop) → Prop} {FL : List HP} {w : World} {K : Int → Int → Int → Int → Int → Int → Int → Int → Bool → Int → σ3 → σ4 → Prop} {R : Value → World → Prop}
  (hY3 : ∀ (x0 : Bool) (s : σ3) (K : Int → Int → Int → Int → Int → Int → Int → Int → σ3 → Prop) (FL2 : List HP) (w : World) (R : Value → World → Prop), (∀ w, Mem FL2 w → Mem FL w) → Mem (A3 s :: FL2) w → Y3 x0 s K → (∀ (r0 r1 r2 r3 r4 r5 r6 r7 : Int) (s : σ3) (w : World), Mem (A3 s :: FL2) w → K r0 r1 r2 r3 r4 r5 r6 r7 s → R (Value.agg #[Value.int .i64 r0, Value.int .i64 r1, Value.int .i64 r2, Value.int .i64 r3, Value.int .u64 r4, Value.int .i64 r5, Value.int .i64 r6, Value.int .u32 r7]) w) → CalleeV Try.prog (Value.func ff3 fa3 fc3) #[Value.bool x0] w R)
  (hY4 : ∀ (x0 : Int × Int × Int × Int × Int × Int × Int × Int) (x1 : Bool) (s : σ4) (K : List (Int) → σ4 → Prop) (FL2 : List HP) (w : World) (R : Value → World → Prop), (∀ w, Mem FL2 w → Mem FL w) → Mem (A4 s :: FL2) w → Y4 x0 x1 s K → (∀ (r : List (Int)) (s : σ4) (p : Option Addr) (c : Nat) (w : World), Mem (row enc5 5 1 p c r :: A4 s :: FL2) w → K r s → R (Value.slice p r.length c) w) → CalleeV Try.prog (Value.func ff4 fa4 fc4) #[(Value.agg #[Value.int .i64 x0.1, Value.int .i64 x0.2.1, Value.int .i64 x0.2.2.1, Value.int .i64 x0.2.2.2.1, Value.int .u64 x0.2.2.2.2.1, Value.int .i64 x0.2.2.2.2.2.1, Value.int .i64 x0.2.2.2.2.2.2.1, Value.int .u32 x0.2.2.2.2.2.2.2]), Value.bool x1] w R)
  (hF_b_1 : ∀ w, Mem FL w → Rd w 1 p_1 enc5 b_1) (hl_b_1 : n_1 = b_1.length) (hc_b_1 : n_1 ≤ c_1)
  (h : Mem (A3 s :: A4 s_1 :: FL) w) (hp : pmp_read_wp b_1 hostLen portLen s Y3 s_1 Y4 K)
  (hR : ∀ (r r_1 r_2 r_3 r_4 r_5 r_6 r_7 : Int) (r_8 : Bool) (r_9 : Int) (s_2 : σ3) (s_3 : σ4) (w : World), Mem (A3 s_2 :: A4 s_3 :: FL) w → K r r_1 r_2 r_3 r_4 r_5 r_6 r_7 r_8 r_9 s_2 s_3 → R (Value.tuple #[(Value.agg #[Value.int .i64 r, Value.int .i64 r_1, Value.int .i64 r_2, Value.int .i64 r_3, Value.int .u64 r_4, Value.int .i64 r_5, Value.int .i64 r_6, Value.int .u32 r_7]), Value.bool r_8, Value.int .i64 r_9]) w) :
  CallV Try.prog 24 #[Value.slice p_1 n_1 c_1, Value.int .i64 hostLen, Value.int .i64 portLen, Value.func ff3 fa3 fc3, Value.func ff4 fa4 fc4] w R := by
  refine pmp_read_call ?_
  unfold pmp_read
  unfold pmp_read_wp at hp
  subst hl_b_1
  refine newL (o := [Value.int .i64 0, Value.int .i64 0, Value.int .i64 0, Value.int .i64 0, Value.int .u64 0, Value.int .i64 0, Value.int .i64 0, Value.int .u32 0]) h ?_
  intro b_2 w h
  obtain ⟨Q, hq, hp⟩ := hp
  refine ⟨fun b0p b0l b0c hostLen1 of3 tell4 t10 w => p_1 = b0p ∧ b_1.length = b0l ∧ c_1 = b0c ∧ hostLen = hostLen1 ∧ (Value.func ff3 fa3 fc3) = of3 ∧ (Value.func ff4 fa4 fc4) = tell4 ∧ (Addr.mk b_2 0 none) = t10 ∧ Q ∧ Mem (cel b_2 41 [Value.int .i64 0, Value.int .i64 0, Value.int .i64 0, Value.int .i64 0, Value.int .u64 0, Value.int .i64 0, Value.int .i64 0, Value.int .u32 0] :: A3 s :: A4 s_1 :: FL) w, ?_, ?_⟩
  · rintro b0p b0l b0c hostLen1 of3 tell4 t10 w ⟨rfl, rfl, rfl, rfl, rfl, rfl, rfl, hp, h⟩
    replace hp := hq  hp
    unfold pmp_read_j1
    replace h := h.pick [1]
    dsimp only [pickL, pickR, nthH, delH, dropH, List.cons_append, List.nil_append] at h
    refine hY3 ((((b_1.length : Nat) : Int) : Int) == hostLen) _ _ (cel b_2 41 [Value.int .i64 0, Value.int .i64 0, Value.int .i64 0, Value.int .i64 0, Value.int .u64 0, Value.int .i64 0, Value.int .i64 0, Value.int .u32 0] :: A4 s_1 :: FL) _ _ (fun _ h => Mem.drop 2 h) h hp ?_
    intro t32_0 t32_1 t32_2 t32_3 t32_4 t32_5 t32_6 t32_7 s_4 w h hp
    refine ⟨_, _, _, _, _, _, _, _, rfl, ?_⟩
    refine newL (o := [Value.int .i64 0, Value.int .i64 0, Value.int .i64 0, Value.int .i64 0, Value.int .u64 0, Value.int .i64 0, Value.int .i64 0, Value.int .u32 0]) h ?_
    intro b_3 w h
    refine storeL (ys := [Value.int .i64 t32_0, Value.int .i64 t32_1, Value.int .i64 t32_2, Value.int .i64 t32_3, Value.int .u64 t32_4, Value.int .i64 t32_5, Value.int .i64 t32_6, Value.int .u32 t32_7]) h 0 0 rfl rfl rfl sz41 rfl rfl ?_
    intro w h
    dsimp only [setH, setVs, setV] at h
    refine ⟨_, cellL h 0 0 rfl rfl rfl, _, cellL h 0 1 rfl rfl rfl, _, cellL h 0 2 rfl rfl rfl, _, cellL h 0 3 rfl rfl rfl, _, cellL h 0 4 rfl rfl rfl, _, cellL h 0 5 rfl rfl rfl, _, cellL h 0 6 rfl rfl rfl, _, cellL h 0 7 rfl rfl rfl, ?_⟩
    replace h := h.pick [3]
    dsimp only [pickL, pickR, nthH, delH, dropH, List.cons_append, List.nil_append] at h
    refine hY4 (t32_0, t32_1, t32_2, t32_3, t32_4, t32_5, t32_6, t32_7) ((((b_1.length : Nat) : Int) : Int) == hostLen) _ _ (cel b_3 41 [Value.int .i64 t32_0, Value.int .i64 t32_1, Value.int .i64 t32_2, Value.int .i64 t32_3, Value.int .u64 t32_4, Value.int .i64 t32_5, Value.int .i64 t32_6, Value.int .u32 t32_7] :: A3 s_4 :: cel b_2 41 [Value.int .i64 0, Value.int .i64 0, Value.int .i64 0, Value.int .i64 0, Value.int .u64 0, Value.int .i64 0, Value.int .i64 0, Value.int .u32 0] :: FL) _ _ (fun _ h => Mem.drop 3 h) h hp ?_
    intro rs s_5 p_2 c_2 w h hp
    have cpp_2 := rowCap h 0 rfl
    refine ⟨_, _, _, rfl, ?_⟩
    refine sEqY_ok (FL := row enc5 5 1 p_2 c_2 rs :: A4 s_5 :: cel b_3 41 [Value.int .i64 t32_0, Value.int .i64 t32_1, Value.int .i64 t32_2, Value.int .i64 t32_3, Value.int .u64 t32_4, Value.int .i64 t32_5, Value.int .i64 t32_6, Value.int .u32 t32_7] :: A3 s_4 :: cel b_2 41 [Value.int .i64 0, Value.int .i64 0, Value.int .i64 0, Value.int .i64 0, Value.int .u64 0, Value.int .i64 0, Value.int .i64 0, Value.int .u32 0] :: FL) (fun w h => (rowRd h 0 encL5 rfl)) rfl cpp_2 (fun w h => (hF_b_1 _ (h.drop 5))) rfl hc_b_1 h hp ?_
    intro r w h hp
    refine ⟨_, rfl, ?_⟩
    refine cond_both hp (fun hp => ?_) (fun hp => ?_)
    · refine storeL (ys := [Value.int .i64 0, Value.int .i64 0, Value.int .i64 0, Value.int .i64 0, Value.int .u64 0, Value.int .i64 0, Value.int .i64 0, Value.int .u32 0]) h 4 0 rfl rfl rfl sz41 rfl rfl ?_
      intro w h
      dsimp only [setH, setVs, setV] at h
      refine ⟨_, cellL h 4 0 rfl rfl rfl, _, cellL h 4 1 rfl rfl rfl, _, cellL h 4 2 rfl rfl rfl, _, cellL h 4 3 rfl rfl rfl, _, cellL h 4 4 rfl rfl rfl, _, cellL h 4 5 rfl rfl rfl, _, cellL h 4 6 rfl rfl rfl, _, cellL h 4 7 rfl rfl rfl, ?_⟩
      replace h := h.sel [3, 1] 3
      dsimp only [pickL, pickR, nthH, delH, dropH, List.cons_append, List.nil_append] at h
      exact hR 0 0 0 0 0 0 0 0 false 3 s_4 s_5 _ h hp
    refine ⟨_, cellL h 2 0 rfl rfl rfl, _, cellL h 2 1 rfl rfl rfl, _, cellL h 2 2 rfl rfl rfl, _, cellL h 2 3 rfl rfl rfl, _, cellL h 2 4 rfl rfl rfl, _, cellL h 2 5 rfl rfl rfl, _, cellL h 2 6 rfl rfl rfl, _, cellL h 2 7 rfl rfl rfl, ?_⟩
    refine storeL (ys := [Value.int .i64 t32_0, Value.int .i64 t32_1, Value.int .i64 t32_2, Value.int .i64 t32_3, Value.int .u64 t32_4, Value.int .i64 t32_5, Value.int .i64 t32_6, Value.int .u32 t32_7]) h 4 0 rfl rfl rfl sz41 rfl rfl ?_
    intro w h
    dsimp only [setH, setVs, setV] at h
    refine ⟨_, cellL h 4 0 rfl rfl rfl, _, cellL h 4 1 rfl rfl rfl, _, cellL h 4 2 rfl rfl rfl, _, cellL h 4 3 rfl rfl rfl, _, cellL h 4 4 rfl rfl rfl, _, cellL h 4 5 rfl rfl rfl, _, cellL h 4 6 rfl rfl rfl, _, cellL h 4 7 rfl rfl rfl, ?_⟩
    replace h := h.sel [3, 1] 3
    dsimp only [pickL, pickR, nthH, delH, dropH, List.cons_append, List.nil_append] at h
    exact hR t32_0 t32_1 t32_2 t32_3 t32_4 t32_5 t32_6 t32_7 ((((b_1.length : Nat) : Int) : Int) == hostLen) 0 s_4 s_5 _ h hp
  clear hq
  obtain ⟨Q_1, hq, hp⟩ := hp
  refine ⟨fun b0_1p b0_1l b0_1c hostLen1_1 of3_1 tell4_1 t10_1 t24 w => p_1 = b0_1p ∧ b_1.length = b0_1l ∧ c_1 = b0_1c ∧ hostLen = hostLen1_1 ∧ (Value.func ff3 fa3 fc3) = of3_1 ∧ (Value.func ff4 fa4 fc4) = tell4_1 ∧ (Addr.mk b_2 0 none) = t10_1 ∧ Q_1 t24 ∧ Mem (cel b_2 41 [Value.int .i64 0, Value.int .i64 0, Value.int .i64 0, Value.int .i64 0, Value.int .u64 0, Value.int .i64 0, Value.int .i64 0, Value.int .u32 0] :: A3 s :: A4 s_1 :: FL) w, ?_, ?_⟩
  · rintro b0_1p b0_1l b0_1c hostLen1_1 of3_1 tell4_1 t10_1 t24 w ⟨rfl, rfl, rfl, rfl, rfl, rfl, rfl, hp, h⟩
    replace hp := hq t24 hp
    unfold pmp_read_j2
    refine cond_both' hp (fun hp => ?_) (fun hp => ?_)
    · exact ⟨rfl, rfl, rfl, rfl, rfl, rfl, rfl, hp, h⟩
    refine storeL (ys := [Value.int .i64 0, Value.int .i64 0, Value.int .i64 0, Value.int .i64 0, Value.int .u64 0, Value.int .i64 0, Value.int .i64 0, Value.int .u32 0]) h 0 0 rfl rfl rfl sz41 rfl rfl ?_
    intro w h
    dsimp only [setH, setVs, setV] at h
    refine ⟨_, cellL h 0 0 rfl rfl rfl, _, cellL h 0 1 rfl rfl rfl, _, cellL h 0 2 rfl rfl rfl, _, cellL h 0 3 rfl rfl rfl, _, cellL h 0 4 rfl rfl rfl, _, cellL h 0 5 rfl rfl rfl, _, cellL h 0 6 rfl rfl rfl, _, cellL h 0 7 rfl rfl rfl, ?_⟩
    replace h := h.sel [1, 1] 1
    dsimp only [pickL, pickR, nthH, delH, dropH, List.cons_append, List.nil_append] at h
    exact hR 0 0 0 0 0 0 0 0 false 3 s s_1 _ h hp
  clear hq
  refine cond_both hp (fun hp => ?_) (fun hp => ?_)
  · exact ⟨rfl, rfl, rfl, rfl, rfl, rfl, rfl, hp, h⟩
  exact ⟨rfl, rfl, rfl, rfl, rfl, rfl, rfl, hp, h⟩
def pmp_fits_wp (l_Ver l_Inside l_Port l_Secs l_Nonce l_Result l_Epoch l_Host : Int) (K : Bool → Prop) : Prop :=
  cond (decide (l_Inside ≥ 0)) (cond (decide (l_Inside ≤ 65535)) (cond (decide (l_Port ≥ 0)) (cond (decide (l_Port ≤ 65535)) (cond (decide (l_Secs ≥ 0)) (cond (decide (l_Secs ≤ 4294967295)) (cond (decide (l_Result ≥ 0)) (cond (decide (l_Result ≤ 65535)) (cond (decide (l_Epoch ≥ 0)) (K (decide (l_Epoch ≤ 4294967295))) (K false)) (K false)) (K false)) (K false)) (K false)) (K false)) (K false)) (K false)) (K false)
theorem pmp_fits_ok {l_Ver l_Inside l_Port l_Secs l_Nonce l_Result l_Epoch l_Host : Int} {FL : List HP} {w : World} {K : Bool → Prop} {R : Value → World → Prop}
  (h : Mem (FL) w) (hp : pmp_fits_wp l_Ver l_Inside l_Port l_Secs l_Nonce l_Result l_Epoch l_Host K)
  (hR : ∀ (r : Bool) (w : World), Mem (FL) w → K r → R (Value.bool r) w) :
  CallV Try.prog 67 #[(Value.agg #[Value.int .i64 l_Ver, Value.int .i64 l_Inside, Value.int .i64 l_Port, Value.int .i64 l_Secs, Value.int .u64 l_Nonce, Value.int .i64 l_Result, Value.int .i64 l_Epoch, Value.int .u32 l_Host])] w R := by
  refine pmp_fits_call ?_
  unfold pmp_fits
  unfold pmp_fits_wp at hp
  refine newL (o := [Value.int .i64 l_Ver, Value.int .i64 l_Inside, Value.int .i64 l_Port, Value.int .i64 l_Secs, Value.int .u64 l_Nonce, Value.int .i64 l_Result, Value.int .i64 l_Epoch, Value.int .u32 l_Host]) h ?_
  intro b_1 w h
  refine ⟨_, cellL h 0 1 rfl rfl rfl, ?_⟩
  refine cond_both' hp (fun hp => ?_) (fun hp => ?_)
  · replace h := h.sel [] 1
    dsimp only [pickL, pickR, nthH, delH, dropH, List.cons_append, List.nil_append] at h
    exact hR false _ h hp
  refine ⟨_, cellL h 0 1 rfl rfl rfl, ?_⟩
  refine cond_both' hp (fun hp => ?_) (fun hp => ?_)
  · replace h := h.sel [] 1
    dsimp only [pickL, pickR, nthH, delH, dropH, List.cons_append, List.nil_append] at h
    exact hR false _ h hp
  refine ⟨_, cellL h 0 2 rfl rfl rfl, ?_⟩
  refine cond_both' hp (fun hp => ?_) (fun hp => ?_)
  · replace h := h.sel [] 1
    dsimp only [pickL, pickR, nthH, delH, dropH, List.cons_append, List.nil_append] at h
    exact hR false _ h hp
  refine ⟨_, cellL h 0 2 rfl rfl rfl, ?_⟩
  refine cond_both' hp (fun hp => ?_) (fun hp => ?_)
  · replace h := h.sel [] 1
    dsimp only [pickL, pickR, nthH, delH, dropH, List.cons_append, List.nil_append] at h
    exact hR false _ h hp
  refine ⟨_, cellL h 0 3 rfl rfl rfl, ?_⟩
  refine cond_both' hp (fun hp => ?_) (fun hp => ?_)
  · replace h := h.sel [] 1
    dsimp only [pickL, pickR, nthH, delH, dropH, List.cons_append, List.nil_append] at h
    exact hR false _ h hp
  refine ⟨_, cellL h 0 3 rfl rfl rfl, ?_⟩
  refine cond_both' hp (fun hp => ?_) (fun hp => ?_)
  · replace h := h.sel [] 1
    dsimp only [pickL, pickR, nthH, delH, dropH, List.cons_append, List.nil_append] at h
    exact hR false _ h hp
  refine ⟨_, cellL h 0 5 rfl rfl rfl, ?_⟩
  refine cond_both' hp (fun hp => ?_) (fun hp => ?_)
  · replace h := h.sel [] 1
    dsimp only [pickL, pickR, nthH, delH, dropH, List.cons_append, List.nil_append] at h
    exact hR false _ h hp
  refine ⟨_, cellL h 0 5 rfl rfl rfl, ?_⟩
  refine cond_both' hp (fun hp => ?_) (fun hp => ?_)
  · replace h := h.sel [] 1
    dsimp only [pickL, pickR, nthH, delH, dropH, List.cons_append, List.nil_append] at h
    exact hR false _ h hp
  refine ⟨_, cellL h 0 6 rfl rfl rfl, ?_⟩
  refine cond_both' hp (fun hp => ?_) (fun hp => ?_)
  · replace h := h.sel [] 1
    dsimp only [pickL, pickR, nthH, delH, dropH, List.cons_append, List.nil_append] at h
    exact hR false _ h hp
  refine ⟨_, cellL h 0 6 rfl rfl rfl, ?_⟩
  replace h := h.sel [] 1
  dsimp only [pickL, pickR, nthH, delH, dropH, List.cons_append, List.nil_append] at h
  exact hR (decide (l_Epoch ≤ 4294967295)) _ h hp
def pmp_mayAsk_wp (l_Ver l_Inside l_Port l_Secs l_Nonce l_Result l_Epoch l_Host : Int) (host : Bool) (K : Bool → Prop) : Prop :=
  pmp_fits_wp l_Ver l_Inside l_Port l_Secs l_Nonce l_Result l_Epoch l_Host (fun (r : Bool) => cond r (cond ((l_Ver == 0) && ((l_Inside == l_Inside) && ((l_Port == l_Port) && ((l_Secs == l_Secs) && ((l_Nonce == 0) && ((l_Result == 0) && ((l_Epoch == 0) && ((l_Host == 0) && true)))))))) (cond (!host) (K true) (K ((l_Ver == 0) && ((l_Inside == 0) && ((l_Port == 0) && ((l_Secs == 0) && ((l_Nonce == 0) && ((l_Result == 0) && ((l_Epoch == 0) && ((l_Host == 0) && true)))))))))) (K false)) (K false))
theorem pmp_mayAsk_ok {l_Ver l_Inside l_Port l_Secs l_Nonce l_Result l_Epoch l_Host : Int} {host : Bool} {FL : List HP} {w : World} {K : Bool → Prop} {R : Value → World → Prop}
  (h : Mem (FL) w) (hp : pmp_mayAsk_wp l_Ver l_Inside l_Port l_Secs l_Nonce l_Result l_Epoch l_Host host K)
  (hR : ∀ (r : Bool) (w : World), Mem (FL) w → K r → R (Value.bool r) w) :
  CallV Try.prog 45 #[(Value.agg #[Value.int .i64 l_Ver, Value.int .i64 l_Inside, Value.int .i64 l_Port, Value.int .i64 l_Secs, Value.int .u64 l_Nonce, Value.int .i64 l_Result, Value.int .i64 l_Epoch, Value.int .u32 l_Host]), Value.bool host] w R := by
  refine pmp_mayAsk_call ?_
  unfold pmp_mayAsk
  unfold pmp_mayAsk_wp at hp
  refine newL (o := [Value.int .i64 l_Ver, Value.int .i64 l_Inside, Value.int .i64 l_Port, Value.int .i64 l_Secs, Value.int .u64 l_Nonce, Value.int .i64 l_Result, Value.int .i64 l_Epoch, Value.int .u32 l_Host]) h ?_
  intro b_1 w h
  refine ⟨_, cellL h 0 1 rfl rfl rfl, ?_⟩
  refine ⟨_, cellL h 0 2 rfl rfl rfl, ?_⟩
  refine ⟨_, cellL h 0 3 rfl rfl rfl, ?_⟩
  refine newL (o := [Value.int .i64 0, Value.int .i64 0, Value.int .i64 0, Value.int .i64 0, Value.int .u64 0, Value.int .i64 0, Value.int .i64 0, Value.int .u32 0]) h ?_
  intro b_2 w h
  refine storeL (ys := [Value.int .i64 0, Value.int .i64 l_Inside, Value.int .i64 l_Port, Value.int .i64 l_Secs, Value.int .u64 0, Value.int .i64 0, Value.int .i64 0, Value.int .u32 0]) h 0 0 rfl rfl rfl sz41 rfl rfl ?_
  intro w h
  dsimp only [setH, setVs, setV] at h
  refine ⟨_, cellL h 1 0 rfl rfl rfl, _, cellL h 1 1 rfl rfl rfl, _, cellL h 1 2 rfl rfl rfl, _, cellL h 1 3 rfl rfl rfl, _, cellL h 1 4 rfl rfl rfl, _, cellL h 1 5 rfl rfl rfl, _, cellL h 1 6 rfl rfl rfl, _, cellL h 1 7 rfl rfl rfl, ?_⟩
  refine pmp_fits_ok h hp ?_
  intro r w h hp
  refine ⟨_, rfl, ?_⟩
  refine cond_both' hp (fun hp => ?_) (fun hp => ?_)
  · replace h := h.sel [] 2
    dsimp only [pickL, pickR, nthH, delH, dropH, List.cons_append, List.nil_append] at h
    exact hR false _ h hp
  refine ⟨_, cellL h 1 0 rfl rfl rfl, _, cellL h 1 1 rfl rfl rfl, _, cellL h 1 2 rfl rfl rfl, _, cellL h 1 3 rfl rfl rfl, _, cellL h 1 4 rfl rfl rfl, _, cellL h 1 5 rfl rfl rfl, _, cellL h 1 6 rfl rfl rfl, _, cellL h 1 7 rfl rfl rfl, ?_⟩
  refine ⟨_, cellL h 0 0 rfl rfl rfl, _, cellL h 0 1 rfl rfl rfl, _, cellL h 0 2 rfl rfl rfl, _, cellL h 0 3 rfl rfl rfl, _, cellL h 0 4 rfl rfl rfl, _, cellL h 0 5 rfl rfl rfl, _, cellL h 0 6 rfl rfl rfl, _, cellL h 0 7 rfl rfl rfl, ?_⟩
  refine eqlAgg (xs := [Value.int .i64 l_Ver, Value.int .i64 l_Inside, Value.int .i64 l_Port, Value.int .i64 l_Secs, Value.int .u64 l_Nonce, Value.int .i64 l_Result, Value.int .i64 l_Epoch, Value.int .u32 l_Host]) (ys := [Value.int .i64 0, Value.int .i64 l_Inside, Value.int .i64 l_Port, Value.int .i64 l_Secs, Value.int .u64 0, Value.int .i64 0, Value.int .i64 0, Value.int .u32 0]) eqG41 eqA41 (eqT41 l_Ver l_Inside l_Port l_Secs l_Nonce l_Result l_Epoch l_Host 0 l_Inside l_Port l_Secs 0 0 0 0) ?_
  refine ⟨_, rfl, ?_⟩
  refine cond_both' hp (fun hp => ?_) (fun hp => ?_)
  · replace h := h.sel [] 2
    dsimp only [pickL, pickR, nthH, delH, dropH, List.cons_append, List.nil_append] at h
    exact hR false _ h hp
  refine cond_both hp (fun hp => ?_) (fun hp => ?_)
  · replace h := h.sel [] 2
    dsimp only [pickL, pickR, nthH, delH, dropH, List.cons_append, List.nil_append] at h
    exact hR true _ h hp
  refine ⟨_, cellL h 1 0 rfl rfl rfl, _, cellL h 1 1 rfl rfl rfl, _, cellL h 1 2 rfl rfl rfl, _, cellL h 1 3 rfl rfl rfl, _, cellL h 1 4 rfl rfl rfl, _, cellL h 1 5 rfl rfl rfl, _, cellL h 1 6 rfl rfl rfl, _, cellL h 1 7 rfl rfl rfl, ?_⟩
  refine eqlAgg (xs := [Value.int .i64 l_Ver, Value.int .i64 l_Inside, Value.int .i64 l_Port, Value.int .i64 l_Secs, Value.int .u64 l_Nonce, Value.int .i64 l_Result, Value.int .i64 l_Epoch, Value.int .u32 l_Host]) (ys := [Value.int .i64 0, Value.int .i64 0, Value.int .i64 0, Value.int .i64 0, Value.int .u64 0, Value.int .i64 0, Value.int .i64 0, Value.int .u32 0]) eqG41 eqA41 (eqT41 l_Ver l_Inside l_Port l_Secs l_Nonce l_Result l_Epoch l_Host 0 0 0 0 0 0 0 0) ?_
  refine ⟨_, rfl, ?_⟩
  replace h := h.sel [] 2
  dsimp only [pickL, pickR, nthH, delH, dropH, List.cons_append, List.nil_append] at h
  exact hR ((l_Ver == 0) && ((l_Inside == 0) && ((l_Port == 0) && ((l_Secs == 0) && ((l_Nonce == 0) && ((l_Result == 0) && ((l_Epoch == 0) && ((l_Host == 0) && true)))))))) _ h hp
def pmp_row_wp (op : Int) (parts : List ((List (Int)))) (K : List (Int) → Prop) : Prop :=
  sCatY_wp parts (fun (rs : List (Int)) => ([0, (IntKind.wrap .u8 op)].length + rs.length) * 1 ≤ 140737488355328 ∧ (K ([0, (IntKind.wrap .u8 op)] ++ rs)))
theorem pmp_row_ok {p_1 : Option Addr} {n_1 c_1 : Nat} {op : Int} {parts : List ((List (Int)))} {FL : List HP} {w : World} {K : List (Int) → Prop} {R : Value → World → Prop}
  (hF_parts : ∀ w, Mem FL w → RdD w 1 p_1 (encR22 FL) parts) (hl_parts : n_1 = parts.length) (hc_parts : n_1 ≤ c_1)
  (h : Mem (FL) w) (hp : pmp_row_wp op parts K)
  (hR : ∀ (rs : List (Int)) (p_2 : Option Addr) (n_2 c_2 : Nat) (w : World), n_2 = rs.length → Mem (row enc5 5 1 p_2 c_2 rs :: FL) w → K rs → R (Value.slice p_2 n_2 c_2) w) :
  CallV Try.prog 46 #[Value.int .i64 op, Value.slice p_1 n_1 c_1] w R := by
  refine pmp_row_call ?_
  unfold pmp_row
  unfold pmp_row_wp at hp
  subst hl_parts
  refine newL (o := [Value.int .u8 0, Value.int .u8 (IntKind.wrap .u8 op)]) h ?_
  intro b_1 w h
  refine sCatY_ok (FL := cel b_1 5 [Value.int .u8 0, Value.int .u8 (IntKind.wrap .u8 op)] :: FL) (fun w h => RdD.mono (encRm22 (fun w h => h.drop 1)) (hF_parts _ (h.drop 1))) rfl hc_parts h hp ?_
  rintro rs p_2 n_2 c_2 w rfl h hp
  have cpp_2 := rowCap h 0 rfl
  refine ⟨_, _, _, rfl, ?_⟩
  have sr := (rowRd h 0 encL5 rfl)
  replace h := rowOfCel h 1 encL5 rfl [0, (IntKind.wrap .u8 op)] rfl
  dsimp only [setH, setVs, setV] at h
  obtain ⟨hb, hp⟩ := hp
  refine appendL slt22 und22 encL5 encO5 h 1 rfl rfl sr rfl hb ?_
  intro p_3 c_3 w h
  dsimp only [setH, setVs, setV] at h
  have cpp_3 := rowCap h 1 rfl
  refine ⟨_, _, _, rfl, ?_⟩
  replace h := h.sel [1] 1
  dsimp only [pickL, pickR, nthH, delH, dropH, List.cons_append, List.nil_append] at h
  exact hR ([0, (IntKind.wrap .u8 op)] ++ rs) p_3 (([0, (IntKind.wrap .u8 op)] ++ rs).length) c_3 _ rfl h hp
def pmp_short_wp (n_1 : Int) (K : List (Int) → Prop) : Prop :=
  K [(IntKind.wrap .u8 (Int.fdiv n_1 (2 ^ (min (Int.toNat 8) (IntKind.bits .i64))))), (IntKind.wrap .u8 n_1)]
theorem pmp_short_ok {n_1 : Int} {FL : List HP} {w : World} {K : List (Int) → Prop} {R : Value → World → Prop}
  (h : Mem (FL) w) (hp : pmp_short_wp n_1 K)
  (hR : ∀ (rs : List (Int)) (p_1 : Option Addr) (n_2 c_1 : Nat) (w : World), n_2 = rs.length → Mem (row enc5 5 1 p_1 c_1 rs :: FL) w → K rs → R (Value.slice p_1 n_2 c_1) w) :
  CallV Try.prog 47 #[Value.int .i64 n_1] w R := by
  refine pmp_short_call ?_
  unfold pmp_short
  unfold pmp_short_wp at hp
  refine ⟨by decide, ?_⟩
  refine newL (o := [Value.int .u8 (IntKind.wrap .u8 (Int.fdiv n_1 (2 ^ (min (Int.toNat 8) (IntKind.bits .i64))))), Value.int .u8 (IntKind.wrap .u8 n_1)]) h ?_
  intro b_1 w h
  replace h := rowOfCel h 0 encL5 rfl [(IntKind.wrap .u8 (Int.fdiv n_1 (2 ^ (min (Int.toNat 8) (IntKind.bits .i64))))), (IntKind.wrap .u8 n_1)] rfl
  dsimp only [setH, setVs, setV] at h
  exact hR [(IntKind.wrap .u8 (Int.fdiv n_1 (2 ^ (min (Int.toNat 8) (IntKind.bits .i64))))), (IntKind.wrap .u8 n_1)] (some ⟨b_1, 0, none⟩) 2 2 _ rfl h hp
def pmp_long_wp (n_1 : Int) (K : List (Int) → Prop) : Prop :=
  pmp_short_wp (Int.fdiv n_1 (2 ^ (min (Int.toNat 16) (IntKind.bits .i64)))) (fun (rs : List (Int)) => pmp_short_wp n_1 (fun (rs_1 : List (Int)) => (rs.length + rs_1.length) * 1 ≤ 140737488355328 ∧ (K (rs ++ rs_1))))
theorem pmp_long_ok {n_1 : Int} {FL : List HP} {w : World} {K : List (Int) → Prop} {R : Value → World → Prop}
  (h : Mem (FL) w) (hp : pmp_long_wp n_1 K)
  (hR : ∀ (rs : List (Int)) (p_1 : Option Addr) (n_2 c_1 : Nat) (w : World), n_2 = rs.length → Mem (row enc5 5 1 p_1 c_1 rs :: FL) w → K rs → R (Value.slice p_1 n_2 c_1) w) :
  CallV Try.prog 48 #[Value.int .i64 n_1] w R := by
  refine pmp_long_call ?_
  unfold pmp_long
  unfold pmp_long_wp at hp
  refine ⟨by decide, ?_⟩
  refine pmp_short_ok h hp ?_
  rintro rs p_1 n_2 c_1 w rfl h hp
  have cpp_1 := rowCap h 0 rfl
  refine ⟨_, _, _, rfl, ?_⟩
  refine pmp_short_ok h hp ?_
  rintro rs_1 p_2 n_3 c_2 w rfl h hp
  have cpp_2 := rowCap h 0 rfl
  refine ⟨_, _, _, rfl, ?_⟩
  have sr := (rowRd h 0 encL5 rfl)
  obtain ⟨hb, hp⟩ := hp
  refine appendL slt22 und22 encL5 encO5 h 1 rfl rfl sr rfl hb ?_
  intro p_3 c_3 w h
  dsimp only [setH, setVs, setV] at h
  have cpp_3 := rowCap h 1 rfl
  refine ⟨_, _, _, rfl, ?_⟩
  replace h := h.sel [1] 1
  dsimp only [pickL, pickR, nthH, delH, dropH, List.cons_append, List.nil_append] at h
  exact hR (rs ++ rs_1) p_3 ((rs ++ rs_1).length) c_3 _ rfl h hp
def pmp_Ask_wp (l_Ver l_Inside l_Port l_Secs l_Nonce l_Result l_Epoch l_Host : Int) (host : Bool) (K : List (Int) → Prop) : Prop :=
  pmp_mayAsk_wp l_Ver l_Inside l_Port l_Secs l_Nonce l_Result l_Epoch l_Host host (fun (r : Bool) => cond (!r) (K ([] : List (Int))) (cond host (pmp_row_wp 0 ([] : List ((List (Int)))) (fun (rs : List (Int)) => K rs)) (pmp_short_wp 0 (fun (rs_1 : List (Int)) => pmp_short_wp l_Inside (fun (rs_2 : List (Int)) => pmp_short_wp l_Port (fun (rs_3 : List (Int)) => pmp_long_wp l_Secs (fun (rs_4 : List (Int)) => pmp_row_wp 1 [rs_1, rs_2, rs_3, rs_4] (fun (rs_5 : List (Int)) => K rs_5))))))))
theorem pmp_Ask_ok {l_Ver l_Inside l_Port l_Secs l_Nonce l_Result l_Epoch l_Host : Int} {host : Bool} {FL : List HP} {w : World} {K : List (Int) → Prop} {R : Value → World → Prop}
  (h : Mem (FL) w) (hp : pmp_Ask_wp l_Ver l_Inside l_Port l_Secs l_Nonce l_Result l_Epoch l_Host host K)
  (hR : ∀ (rs : List (Int)) (p_1 : Option Addr) (n_1 c_1 : Nat) (w : World), n_1 = rs.length → Mem (row enc5 5 1 p_1 c_1 rs :: FL) w → K rs → R (Value.slice p_1 n_1 c_1) w) :
  CallV Try.prog 18 #[(Value.agg #[Value.int .i64 l_Ver, Value.int .i64 l_Inside, Value.int .i64 l_Port, Value.int .i64 l_Secs, Value.int .u64 l_Nonce, Value.int .i64 l_Result, Value.int .i64 l_Epoch, Value.int .u32 l_Host]), Value.bool host] w R := by
  refine pmp_Ask_call ?_
  unfold pmp_Ask
  unfold pmp_Ask_wp at hp
  refine newL (o := [Value.int .i64 l_Ver, Value.int .i64 l_Inside, Value.int .i64 l_Port, Value.int .i64 l_Secs, Value.int .u64 l_Nonce, Value.int .i64 l_Result, Value.int .i64 l_Epoch, Value.int .u32 l_Host]) h ?_
  intro b_1 w h
  refine ⟨_, cellL h 0 0 rfl rfl rfl, _, cellL h 0 1 rfl rfl rfl, _, cellL h 0 2 rfl rfl rfl, _, cellL h 0 3 rfl rfl rfl, _, cellL h 0 4 rfl rfl rfl, _, cellL h 0 5 rfl rfl rfl, _, cellL h 0 6 rfl rfl rfl, _, cellL h 0 7 rfl rfl rfl, ?_⟩
  refine pmp_mayAsk_ok h hp ?_
  intro r w h hp
  refine ⟨_, rfl, ?_⟩
  refine cond_both hp (fun hp => ?_) (fun hp => ?_)
  · replace h := rowNil enc5 5 1 h
    replace h := h.sel [0] 1
    dsimp only [pickL, pickR, nthH, delH, dropH, List.cons_append, List.nil_append] at h
    exact hR ([] : List (Int)) (none ) 0 0 _ rfl h hp
  refine cond_both hp (fun hp => ?_) (fun hp => ?_)
  · refine pmp_row_ok (FL := cel b_1 41 [Value.int .i64 l_Ver, Value.int .i64 l_Inside, Value.int .i64 l_Port, Value.int .i64 l_Secs, Value.int .u64 l_Nonce, Value.int .i64 l_Result, Value.int .i64 l_Epoch, Value.int .u32 l_Host] :: FL) (fun w h => RdD.nil) rfl (Nat.le_refl _) h hp ?_
    rintro rs p_2 n_1 c_1 w rfl h hp
    have cpp_2 := rowCap h 0 rfl
    refine ⟨_, _, _, rfl, ?_⟩
    replace h := h.sel [0] 1
    dsimp only [pickL, pickR, nthH, delH, dropH, List.cons_append, List.nil_append] at h
    exact hR rs p_2 rs.length c_1 _ rfl h hp
  replace h := h.drew
  refine ⟨fun w => Mem (cel b_1 41 [Value.int .i64 l_Ver, Value.int .i64 l_Inside, Value.int .i64 l_Port, Value.int .i64 l_Secs, Value.int .u64 l_Nonce, Value.int .i64 l_Result, Value.int .i64 l_Epoch, Value.int .u32 l_Host] :: FL) w, (h.sel [0] 0), ?_⟩
  refine ⟨_, cellL h 0 1 rfl rfl rfl, ?_⟩
  refine ⟨?_, ?_⟩
  · intro w h
    change Mem _ _ at h
    refine ⟨_, cellL h 0 1 rfl rfl rfl, ?_⟩
    exact ⟨rfl, rfl⟩
  refine ⟨_, cellL h 0 2 rfl rfl rfl, ?_⟩
  refine ⟨?_, ?_⟩
  · intro w h
    change Mem _ _ at h
    refine ⟨_, cellL h 0 2 rfl rfl rfl, ?_⟩
    exact ⟨rfl, rfl⟩
  refine ⟨_, cellL h 0 3 rfl rfl rfl, ?_⟩
  refine ⟨?_, ?_⟩
  · intro w h
    change Mem _ _ at h
    refine ⟨_, cellL h 0 3 rfl rfl rfl, ?_⟩
    exact ⟨rfl, rfl⟩
  refine pmp_short_ok h hp ?_
  rintro rs_1 p_3 n_2 c_2 w rfl h hp
  have cpp_3 := rowCap h 0 rfl
  refine ⟨_, _, _, rfl, ?_⟩
  refine ⟨(h.sel [1] 1), ?_⟩
  refine pmp_short_ok h hp ?_
  rintro rs_2 p_4 n_3 c_3 w rfl h hp
  have cpp_4 := rowCap h 0 rfl
  refine ⟨_, _, _, rfl, ?_⟩
  refine ⟨(h.sel [2] 2), ?_⟩
  refine pmp_short_ok h hp ?_
  rintro rs_3 p_5 n_4 c_4 w rfl h hp
  have cpp_5 := rowCap h 0 rfl
  refine ⟨_, _, _, rfl, ?_⟩
  refine ⟨(h.sel [3] 3), ?_⟩
  refine pmp_long_ok h hp ?_
  rintro rs_4 p_6 n_5 c_5 w rfl h hp
  have cpp_6 := rowCap h 0 rfl
  refine ⟨_, _, _, rfl, ?_⟩
  refine newL (o := [Value.slice p_3 rs_1.length c_2, Value.slice p_4 rs_2.length c_3, Value.slice p_5 rs_3.length c_4, Value.slice p_6 rs_4.length c_5]) h ?_
  intro b_2 w h
  refine pmp_row_ok (FL := cel b_2 22 [Value.slice p_3 rs_1.length c_2, Value.slice p_4 rs_2.length c_3, Value.slice p_5 rs_3.length c_4, Value.slice p_6 rs_4.length c_5] :: row enc5 5 1 p_6 c_5 rs_4 :: row enc5 5 1 p_5 c_4 rs_3 :: row enc5 5 1 p_4 c_3 rs_2 :: row enc5 5 1 p_3 c_2 rs_1 :: cel b_1 41 [Value.int .i64 l_Ver, Value.int .i64 l_Inside, Value.int .i64 l_Port, Value.int .i64 l_Secs, Value.int .u64 l_Nonce, Value.int .i64 l_Result, Value.int .i64 l_Epoch, Value.int .u32 l_Host] :: FL) (fun w h => celRdD (z := 1) h 0 rfl [rs_1, rs_2, rs_3, rs_4] [[Value.slice p_3 rs_1.length c_2], [Value.slice p_4 rs_2.length c_3], [Value.slice p_5 rs_3.length c_4], [Value.slice p_6 rs_4.length c_5]] rfl rfl (Fa2.cons ⟨_, _, _, rfl, rfl, cpp_3, (fun w h => (rowRd h 4 encL5 rfl))⟩ (Fa2.cons ⟨_, _, _, rfl, rfl, cpp_4, (fun w h => (rowRd h 3 encL5 rfl))⟩ (Fa2.cons ⟨_, _, _, rfl, rfl, cpp_5, (fun w h => (rowRd h 2 encL5 rfl))⟩ (Fa2.cons ⟨_, _, _, rfl, rfl, cpp_6, (fun w h => (rowRd h 1 encL5 rfl))⟩ Fa2.nil))))) rfl (Nat.le_refl _) h hp ?_
  rintro rs_5 p_7 n_6 c_6 w rfl h hp
  have cpp_7 := rowCap h 0 rfl
  refine ⟨_, _, _, rfl, ?_⟩
  replace h := h.sel [0] 6
  dsimp only [pickL, pickR, nthH, delH, dropH, List.cons_append, List.nil_append] at h
  exact hR rs_5 p_7 rs_5.length c_6 _ rfl h hp
def pmp_ReadAsk_wp (b_1 : List (Int)) (K : Int → Int → Int → Int → Int → Int → Int → Int → Bool → Int → Prop) : Prop :=
  pmp_read_wp b_1 2 12 () (fun x_1 s K_1 => pmp_ReadAsk_c1_wp x_1 b_1 (fun (r r_1 r_2 r_3 r_4 r_5 r_6 r_7 : Int) => K_1 r r_1 r_2 r_3 r_4 r_5 r_6 r_7 s)) () (fun x_2 x_3 s_1 K_2 => pmp_Ask_wp x_2.1 x_2.2.1 x_2.2.2.1 x_2.2.2.2.1 x_2.2.2.2.2.1 x_2.2.2.2.2.2.1 x_2.2.2.2.2.2.2.1 x_2.2.2.2.2.2.2.2 x_3 (fun (rs : List (Int)) => K_2 rs s_1)) (fun (r r_1 r_2 r_3 r_4 r_5 r_6 r_7 : Int) (r_8 : Bool) (r_9 : Int) (s_2 : (Unit)) (s_3 : (Unit)) => K r r_1 r_2 r_3 r_4 r_5 r_6 r_7 r_8 r_9)
theorem pmp_ReadAsk_ok {p_1 : Option Addr} {n_1 c_1 : Nat} {b_1 : List (Int)} {FL : List HP} {w : World} {K : Int → Int → Int → Int → Int → Int → Int → Int → Bool → Int → Prop} {R : Value → World → Prop}
  (hF_b_1 : ∀ w, Mem FL w → Rd w 1 p_1 enc5 b_1) (hl_b_1 : n_1 = b_1.length) (hc_b_1 : n_1 ≤ c_1)
  (h : Mem (FL) w) (hp : pmp_ReadAsk_wp b_1 K)
  (hR : ∀ (r r_1 r_2 r_3 r_4 r_5 r_6 r_7 : Int) (r_8 : Bool) (r_9 : Int) (w : World), Mem (FL) w → K r r_1 r_2 r_3 r_4 r_5 r_6 r_7 r_8 r_9 → R (Value.tuple #[(Value.agg #[Value.int .i64 r, Value.int .i64 r_1, Value.int .i64 r_2, Value.int .i64 r_3, Value.int .u64 r_4, Value.int .i64 r_5, Value.int .i64 r_6, Value.int .u32 r_7]), Value.bool r_8, Value.int .i64 r_9]) w) :
  CallV Try.prog 11 #[Value.slice p_1 n_1 c_1] w R := by
  refine pmp_ReadAsk_call ?_
  unfold pmp_ReadAsk
  unfold pmp_ReadAsk_wp at hp
  subst hl_b_1
  refine newL (o := [Value.slice p_1 b_1.length c_1]) h ?_
  intro b_2 w h
  refine newL (o := [Value.int .i64 0, Value.int .i64 0, Value.int .i64 0, Value.int .i64 0, Value.int .u64 0, Value.int .i64 0, Value.int .i64 0, Value.int .u32 0]) h ?_
  intro b_3 w h
  refine ⟨_, _, _, cellL h 1 0 rfl rfl rfl, ?_⟩
  replace h := h.pick [1]
  dsimp only [pickL, pickR, nthH, delH, dropH, List.cons_append, List.nil_append] at h
  replace h : Mem ((fun (_ : Unit) => HL [cel b_2 22 [Value.slice p_1 b_1.length c_1]]) () :: cel b_3 41 [Value.int .i64 0, Value.int .i64 0, Value.int .i64 0, Value.int .i64 0, Value.int .u64 0, Value.int .i64 0, Value.int .i64 0, Value.int .u32 0] :: FL) _ := h.pack 1 [cel b_2 22 [Value.slice p_1 b_1.length c_1]] rfl
  replace h : Mem ((fun (_ : Unit) => HL []) () :: (fun (_ : Unit) => HL [cel b_2 22 [Value.slice p_1 b_1.length c_1]]) () :: cel b_3 41 [Value.int .i64 0, Value.int .i64 0, Value.int .i64 0, Value.int .i64 0, Value.int .u64 0, Value.int .i64 0, Value.int .i64 0, Value.int .u32 0] :: FL) _ := h.pack 0 [] rfl
  replace h := h.pick [1, 0]
  dsimp only [pickL, pickR, nthH, delH, dropH, List.cons_append, List.nil_append] at h
  refine pmp_read_ok (FL := cel b_3 41 [Value.int .i64 0, Value.int .i64 0, Value.int .i64 0, Value.int .i64 0, Value.int .u64 0, Value.int .i64 0, Value.int .i64 0, Value.int .u32 0] :: FL) (A3 := (fun (_ : Unit) => HL [cel b_2 22 [Value.slice p_1 b_1.length c_1]])) (Y3 := (fun x_1 s K_1 => pmp_ReadAsk_c1_wp x_1 b_1 (fun (r r_1 r_2 r_3 r_4 r_5 r_6 r_7 : Int) => K_1 r r_1 r_2 r_3 r_4 r_5 r_6 r_7 s))) (σ3 := Unit) (s := ()) ?_ (A4 := (fun (_ : Unit) => HL [])) (Y4 := (fun x_2 x_3 s_1 K_2 => pmp_Ask_wp x_2.1 x_2.2.1 x_2.2.2.1 x_2.2.2.2.1 x_2.2.2.2.2.1 x_2.2.2.2.2.2.1 x_2.2.2.2.2.2.2.1 x_2.2.2.2.2.2.2.2 x_3 (fun (rs : List (Int)) => K_2 rs s_1))) (σ4 := Unit) (s_1 := ()) ?_ (fun w h => (hF_b_1 _ (h.drop 1))) rfl hc_b_1 h hp ?_
  · intro x_1 s K FL2 w R hx h hp hR
    replace h := h.unpack
    dsimp only [pickL, pickR, nthH, delH, dropH, List.cons_append, List.nil_append] at h
    refine calleeFn (by kernel_rfl) ?_
    refine pmp_ReadAsk_c1_ok (fun w h => by have h := hx w h; exact (hF_b_1 _ (h.drop 1))) rfl hc_b_1 h hp ?_
    intro r r_1 r_2 r_3 r_4 r_5 r_6 r_7 w h hp
    exact hR r r_1 r_2 r_3 r_4 r_5 r_6 r_7 s _ (h.pack 1 [cel b_2 22 [Value.slice p_1 b_1.length c_1]] rfl) hp
  · intro x_2 x_3 s_1 K FL2 w R hx h hp hR
    replace h := h.unpack
    dsimp only [pickL, pickR, nthH, delH, dropH, List.cons_append, List.nil_append] at h
    refine calleeFn (by kernel_rfl) ?_
    refine pmp_Ask_ok h hp ?_
    rintro rs p_1' n_ c_1' w rfl h hp
    replace h : Mem ((fun (_ : Unit) => HL []) s_1 :: row enc5 5 1 p_1' c_1' rs :: FL2) _ := h.pack 0 [] rfl
    replace h := h.pick [1]
    dsimp only [pickL, pickR, nthH, delH, dropH, List.cons_append, List.nil_append] at h
    exact hR rs s_1 p_1' c_1' _ h hp
  intro r r_1 r_2 r_3 r_4 r_5 r_6 r_7 r_8 r_9 s_2 s_3 w h hp
  replace h := h.unpack
  dsimp only [pickL, pickR, nthH, delH, dropH, List.cons_append, List.nil_append] at h
  replace h := h.pick [1]
  dsimp only [pickL, pickR, nthH, delH, dropH, List.cons_append, List.nil_append] at h
  replace h := h.unpack
  dsimp only [pickL, pickR, nthH, delH, dropH, List.cons_append, List.nil_append] at h
  refine ⟨_, _, _, _, _, _, _, _, _, _, rfl, ?_⟩
  refine ⟨_, _, _, _, _, _, _, _, rfl, ?_⟩
  refine ⟨_, rfl, ?_⟩
  refine storeL (ys := [Value.int .i64 r, Value.int .i64 r_1, Value.int .i64 r_2, Value.int .i64 r_3, Value.int .u64 r_4, Value.int .i64 r_5, Value.int .i64 r_6, Value.int .u32 r_7]) h 1 0 rfl rfl rfl sz41 rfl rfl ?_
  intro w h
  dsimp only [setH, setVs, setV] at h
  refine ⟨_, cellL h 1 0 rfl rfl rfl, _, cellL h 1 1 rfl rfl rfl, _, cellL h 1 2 rfl rfl rfl, _, cellL h 1 3 rfl rfl rfl, _, cellL h 1 4 rfl rfl rfl, _, cellL h 1 5 rfl rfl rfl, _, cellL h 1 6 rfl rfl rfl, _, cellL h 1 7 rfl rfl rfl, ?_⟩
  replace h := h.sel [] 2
  dsimp only [pickL, pickR, nthH, delH, dropH, List.cons_append, List.nil_append] at h
  exact hR r r_1 r_2 r_3 r_4 r_5 r_6 r_7 r_8 r_9 _ h hp
def nN_Box_wp (box box_1 box_2 box_3 box_4 box_5 box_6 now : Int) (K : Int → Int → Int → Int → Int → Int → Int → Prop) : Prop :=
  K box box_1 box_2 box_3 box_4 box_5 box_6
theorem nN_Box_ok {b_1 : Nat} {p_1 : Option Addr} {n_1 c_1 : Nat} {box box_1 box_2 box_3 box_4 box_5 box_6 now : Int} {FL : List HP} {w : World} {K : Int → Int → Int → Int → Int → Int → Int → Prop} {R : Value → World → Prop}
  (h : Mem (cel b_1 71 [Value.int .u32 box, Value.int .i64 box_1, Value.int .i64 box_2, Value.int .i64 box_3, Value.int .i64 box_4, Value.int .i64 box_5, Value.int .i64 box_6, Value.slice p_1 n_1 c_1, Value.int .i64 now] :: FL) w) (hp : nN_Box_wp box box_1 box_2 box_3 box_4 box_5 box_6 now K)
  (hR : ∀ (r r_1 r_2 r_3 r_4 r_5 r_6 : Int) (w : World), Mem (cel b_1 71 [Value.int .u32 box, Value.int .i64 box_1, Value.int .i64 box_2, Value.int .i64 box_3, Value.int .i64 box_4, Value.int .i64 box_5, Value.int .i64 box_6, Value.slice p_1 n_1 c_1, Value.int .i64 now] :: FL) w → K r r_1 r_2 r_3 r_4 r_5 r_6 → R (Value.agg #[Value.int .u32 r, Value.int .i64 r_1, Value.int .i64 r_2, Value.int .i64 r_3, Value.int .i64 r_4, Value.int .i64 r_5, Value.int .i64 r_6]) w) :
  CallV Try.prog 54 #[Value.pointer (some (Addr.mk b_1 0 none))] w R := by
  refine nN_Box_call ?_
  unfold nN_Box
  unfold nN_Box_wp at hp
  refine newL (o := [Value.int .u32 0, Value.int .i64 0, Value.int .i64 0, Value.int .i64 0, Value.int .i64 0, Value.int .i64 0, Value.int .i64 0]) h ?_
  intro b_2 w h
  refine ⟨_, rfl, ?_⟩
  refine ⟨_, cellL h 1 0 rfl rfl rfl, _, cellL h 1 1 rfl rfl rfl, _, cellL h 1 2 rfl rfl rfl, _, cellL h 1 3 rfl rfl rfl, _, cellL h 1 4 rfl rfl rfl, _, cellL h 1 5 rfl rfl rfl, _, cellL h 1 6 rfl rfl rfl, ?_⟩
  refine storeL (ys := [Value.int .u32 box, Value.int .i64 box_1, Value.int .i64 box_2, Value.int .i64 box_3, Value.int .i64 box_4, Value.int .i64 box_5, Value.int .i64 box_6]) h 0 0 rfl rfl rfl sz32 rfl rfl ?_
  intro w h
  dsimp only [setH, setVs, setV] at h
  refine ⟨_, cellL h 0 0 rfl rfl rfl, _, cellL h 0 1 rfl rfl rfl, _, cellL h 0 2 rfl rfl rfl, _, cellL h 0 3 rfl rfl rfl, _, cellL h 0 4 rfl rfl rfl, _, cellL h 0 5 rfl rfl rfl, _, cellL h 0 6 rfl rfl rfl, ?_⟩
  replace h := h.sel [1] 1
  dsimp only [pickL, pickR, nthH, delH, dropH, List.cons_append, List.nil_append] at h
  exact hR box box_1 box_2 box_3 box_4 box_5 box_6 _ h hp
def pmp_mayAnswer_wp (l_Ver l_Inside l_Port l_Secs l_Nonce l_Result l_Epoch l_Host : Int) (host : Bool) (K : Bool → Prop) : Prop :=
  joinP4 (fun (Inside Port Secs Host : Int) => pmp_fits_wp l_Ver l_Inside l_Port l_Secs l_Nonce l_Result l_Epoch l_Host (fun (r : Bool) => cond r (K ((l_Ver == 0) && ((l_Inside == Inside) && ((l_Port == Port) && ((l_Secs == Secs) && ((l_Nonce == 0) && ((l_Result == l_Result) && ((l_Epoch == l_Epoch) && ((l_Host == Host) && true))))))))) (K false))) (fun (Q : Int → Int → Int → Int → Prop) => cond host (Q 0 0 0 l_Host) (Q l_Inside l_Port l_Secs 0))
theorem pmp_mayAnswer_ok {l_Ver l_Inside l_Port l_Secs l_Nonce l_Result l_Epoch l_Host : Int} {host : Bool} {FL : List HP} {w : World} {K : Bool → Prop} {R : Value → World → Prop}
  (h : Mem (FL) w) (hp : pmp_mayAnswer_wp l_Ver l_Inside l_Port l_Secs l_Nonce l_Result l_Epoch l_Host host K)
  (hR : ∀ (r : Bool) (w : World), Mem (FL) w → K r → R (Value.bool r) w) :
  CallV Try.prog 59 #[(Value.agg #[Value.int .i64 l_Ver, Value.int .i64 l_Inside, Value.int .i64 l_Port, Value.int .i64 l_Secs, Value.int .u64 l_Nonce, Value.int .i64 l_Result, Value.int .i64 l_Epoch, Value.int .u32 l_Host]), Value.bool host] w R := by
  refine pmp_mayAnswer_call ?_
  unfold pmp_mayAnswer
  unfold pmp_mayAnswer_wp at hp
  refine newL (o := [Value.int .i64 l_Ver, Value.int .i64 l_Inside, Value.int .i64 l_Port, Value.int .i64 l_Secs, Value.int .u64 l_Nonce, Value.int .i64 l_Result, Value.int .i64 l_Epoch, Value.int .u32 l_Host]) h ?_
  intro b_1 w h
  refine ⟨_, cellL h 0 1 rfl rfl rfl, ?_⟩
  refine ⟨_, cellL h 0 2 rfl rfl rfl, ?_⟩
  refine ⟨_, cellL h 0 3 rfl rfl rfl, ?_⟩
  refine ⟨_, cellL h 0 5 rfl rfl rfl, ?_⟩
  refine ⟨_, cellL h 0 6 rfl rfl rfl, ?_⟩
  refine newL (o := [Value.int .i64 0, Value.int .i64 0, Value.int .i64 0, Value.int .i64 0, Value.int .u64 0, Value.int .i64 0, Value.int .i64 0, Value.int .u32 0]) h ?_
  intro b_2 w h
  refine storeL (ys := [Value.int .i64 0, Value.int .i64 l_Inside, Value.int .i64 l_Port, Value.int .i64 l_Secs, Value.int .u64 0, Value.int .i64 l_Result, Value.int .i64 l_Epoch, Value.int .u32 0]) h 0 0 rfl rfl rfl sz41 rfl rfl ?_
  intro w h
  dsimp only [setH, setVs, setV] at h
  obtain ⟨Q, hq, hp⟩ := hp
  refine ⟨fun l2 bare5 w => ∃ (Inside : Int), ∃ (Port : Int), ∃ (Secs : Int), ∃ (Host : Int), (Addr.mk b_1 0 none) = l2 ∧ (Addr.mk b_2 0 none) = bare5 ∧ Q Inside Port Secs Host ∧ Mem (cel b_2 41 [Value.int .i64 0, Value.int .i64 Inside, Value.int .i64 Port, Value.int .i64 Secs, Value.int .u64 0, Value.int .i64 l_Result, Value.int .i64 l_Epoch, Value.int .u32 Host] :: cel b_1 41 [Value.int .i64 l_Ver, Value.int .i64 l_Inside, Value.int .i64 l_Port, Value.int .i64 l_Secs, Value.int .u64 l_Nonce, Value.int .i64 l_Result, Value.int .i64 l_Epoch, Value.int .u32 l_Host] :: FL) w, ?_, ?_⟩
  · rintro l2 bare5 w ⟨Inside, Port, Secs, Host, rfl, rfl, hp, h⟩
    replace hp := hq Inside Port Secs Host hp
    unfold pmp_mayAnswer_j1
    refine ⟨_, cellL h 1 0 rfl rfl rfl, _, cellL h 1 1 rfl rfl rfl, _, cellL h 1 2 rfl rfl rfl, _, cellL h 1 3 rfl rfl rfl, _, cellL h 1 4 rfl rfl rfl, _, cellL h 1 5 rfl rfl rfl, _, cellL h 1 6 rfl rfl rfl, _, cellL h 1 7 rfl rfl rfl, ?_⟩
    refine pmp_fits_ok h hp ?_
    intro r w h hp
    refine ⟨_, rfl, ?_⟩
    refine cond_both' hp (fun hp => ?_) (fun hp => ?_)
    · replace h := h.sel [] 2
      dsimp only [pickL, pickR, nthH, delH, dropH, List.cons_append, List.nil_append] at h
      exact hR false _ h hp
    refine ⟨_, cellL h 1 0 rfl rfl rfl, _, cellL h 1 1 rfl rfl rfl, _, cellL h 1 2 rfl rfl rfl, _, cellL h 1 3 rfl rfl rfl, _, cellL h 1 4 rfl rfl rfl, _, cellL h 1 5 rfl rfl rfl, _, cellL h 1 6 rfl rfl rfl, _, cellL h 1 7 rfl rfl rfl, ?_⟩
    refine ⟨_, cellL h 0 0 rfl rfl rfl, _, cellL h 0 1 rfl rfl rfl, _, cellL h 0 2 rfl rfl rfl, _, cellL h 0 3 rfl rfl rfl, _, cellL h 0 4 rfl rfl rfl, _, cellL h 0 5 rfl rfl rfl, _, cellL h 0 6 rfl rfl rfl, _, cellL h 0 7 rfl rfl rfl, ?_⟩
    refine eqlAgg (xs := [Value.int .i64 l_Ver, Value.int .i64 l_Inside, Value.int .i64 l_Port, Value.int .i64 l_Secs, Value.int .u64 l_Nonce, Value.int .i64 l_Result, Value.int .i64 l_Epoch, Value.int .u32 l_Host]) (ys := [Value.int .i64 0, Value.int .i64 Inside, Value.int .i64 Port, Value.int .i64 Secs, Value.int .u64 0, Value.int .i64 l_Result, Value.int .i64 l_Epoch, Value.int .u32 Host]) eqG41 eqA41 (eqT41 l_Ver l_Inside l_Port l_Secs l_Nonce l_Result l_Epoch l_Host 0 Inside Port Secs 0 l_Result l_Epoch Host) ?_
    refine ⟨_, rfl, ?_⟩
    replace h := h.sel [] 2
    dsimp only [pickL, pickR, nthH, delH, dropH, List.cons_append, List.nil_append] at h
    exact hR ((l_Ver == 0) && ((l_Inside == Inside) && ((l_Port == Port) && ((l_Secs == Secs) && ((l_Nonce == 0) && ((l_Result == l_Result) && ((l_Epoch == l_Epoch) && ((l_Host == Host) && true)))))))) _ h hp
  clear hq
  refine cond_both' hp (fun hp => ?_) (fun hp => ?_)
  · exact ⟨l_Inside, l_Port, l_Secs, 0, rfl, rfl, hp, h⟩
  refine ⟨_, cellL h 1 5 rfl rfl rfl, ?_⟩
  refine ⟨_, cellL h 1 6 rfl rfl rfl, ?_⟩
  refine ⟨_, cellL h 1 7 rfl rfl rfl, ?_⟩
  refine storeL (ys := [Value.int .i64 0, Value.int .i64 0, Value.int .i64 0, Value.int .i64 0, Value.int .u64 0, Value.int .i64 l_Result, Value.int .i64 l_Epoch, Value.int .u32 l_Host]) h 0 0 rfl rfl rfl sz41 rfl rfl ?_
  intro w h
  dsimp only [setH, setVs, setV] at h
  exact ⟨0, 0, 0, l_Host, rfl, rfl, hp, h⟩
def pmp_Answer_wp (l_Ver l_Inside l_Port l_Secs l_Nonce l_Result l_Epoch l_Host : Int) (host : Bool) (K : List (Int) → Prop) : Prop :=
  pmp_mayAnswer_wp l_Ver l_Inside l_Port l_Secs l_Nonce l_Result l_Epoch l_Host host (fun (r : Bool) => cond (!r) (K ([] : List (Int))) (cond host (pmp_short_wp l_Result (fun (rs : List (Int)) => pmp_long_wp l_Epoch (fun (rs_1 : List (Int)) => pmp_long_wp (IntKind.wrap .i64 l_Host) (fun (rs_2 : List (Int)) => pmp_row_wp 128 [rs, rs_1, rs_2] (fun (rs_3 : List (Int)) => K rs_3))))) (pmp_short_wp l_Result (fun (rs_4 : List (Int)) => pmp_long_wp l_Epoch (fun (rs_5 : List (Int)) => pmp_short_wp l_Inside (fun (rs_6 : List (Int)) => pmp_short_wp l_Port (fun (rs_7 : List (Int)) => pmp_long_wp l_Secs (fun (rs_8 : List (Int)) => pmp_row_wp 129 [rs_4, rs_5, rs_6, rs_7, rs_8] (fun (rs_9 : List (Int)) => K rs_9)))))))))
theorem pmp_Answer_ok {l_Ver l_Inside l_Port l_Secs l_Nonce l_Result l_Epoch l_Host : Int} {host : Bool} {FL : List HP} {w : World} {K : List (Int) → Prop} {R : Value → World → Prop}
  (h : Mem (FL) w) (hp : pmp_Answer_wp l_Ver l_Inside l_Port l_Secs l_Nonce l_Result l_Epoch l_Host host K)
  (hR : ∀ (rs : List (Int)) (p_1 : Option Addr) (n_1 c_1 : Nat) (w : World), n_1 = rs.length → Mem (row enc5 5 1 p_1 c_1 rs :: FL) w → K rs → R (Value.slice p_1 n_1 c_1) w) :
  CallV Try.prog 32 #[(Value.agg #[Value.int .i64 l_Ver, Value.int .i64 l_Inside, Value.int .i64 l_Port, Value.int .i64 l_Secs, Value.int .u64 l_Nonce, Value.int .i64 l_Result, Value.int .i64 l_Epoch, Value.int .u32 l_Host]), Value.bool host] w R := by
  refine pmp_Answer_call ?_
  unfold pmp_Answer
  unfold pmp_Answer_wp at hp
  refine newL (o := [Value.int .i64 l_Ver, Value.int .i64 l_Inside, Value.int .i64 l_Port, Value.int .i64 l_Secs, Value.int .u64 l_Nonce, Value.int .i64 l_Result, Value.int .i64 l_Epoch, Value.int .u32 l_Host]) h ?_
  intro b_1 w h
  refine ⟨_, cellL h 0 0 rfl rfl rfl, _, cellL h 0 1 rfl rfl rfl, _, cellL h 0 2 rfl rfl rfl, _, cellL h 0 3 rfl rfl rfl, _, cellL h 0 4 rfl rfl rfl, _, cellL h 0 5 rfl rfl rfl, _, cellL h 0 6 rfl rfl rfl, _, cellL h 0 7 rfl rfl rfl, ?_⟩
  refine pmp_mayAnswer_ok h hp ?_
  intro r w h hp
  refine ⟨_, rfl, ?_⟩
  refine cond_both hp (fun hp => ?_) (fun hp => ?_)
  · replace h := rowNil enc5 5 1 h
    replace h := h.sel [0] 1
    dsimp only [pickL, pickR, nthH, delH, dropH, List.cons_append, List.nil_append] at h
    exact hR ([] : List (Int)) (none ) 0 0 _ rfl h hp
  refine cond_both hp (fun hp => ?_) (fun hp => ?_)
  · replace h := h.drew
    refine ⟨fun w => Mem (cel b_1 41 [Value.int .i64 l_Ver, Value.int .i64 l_Inside, Value.int .i64 l_Port, Value.int .i64 l_Secs, Value.int .u64 l_Nonce, Value.int .i64 l_Result, Value.int .i64 l_Epoch, Value.int .u32 l_Host] :: FL) w, (h.sel [0] 0), ?_⟩
    refine ⟨_, cellL h 0 5 rfl rfl rfl, ?_⟩
    refine ⟨_, cellL h 0 6 rfl rfl rfl, ?_⟩
    refine ⟨?_, ?_⟩
    · intro w h
      change Mem _ _ at h
      refine ⟨_, cellL h 0 6 rfl rfl rfl, ?_⟩
      exact ⟨rfl, rfl⟩
    refine ⟨_, cellL h 0 7 rfl rfl rfl, ?_⟩
    refine ⟨?_, ?_⟩
    · intro w h
      change Mem _ _ at h
      refine ⟨_, cellL h 0 7 rfl rfl rfl, ?_⟩
      exact ⟨rfl, rfl⟩
    refine pmp_short_ok h hp ?_
    rintro rs p_2 n_1 c_1 w rfl h hp
    have cpp_2 := rowCap h 0 rfl
    refine ⟨_, _, _, rfl, ?_⟩
    refine ⟨(h.sel [1] 1), ?_⟩
    refine pmp_long_ok h hp ?_
    rintro rs_1 p_3 n_2 c_2 w rfl h hp
    have cpp_3 := rowCap h 0 rfl
    refine ⟨_, _, _, rfl, ?_⟩
    refine ⟨(h.sel [2] 2), ?_⟩
    refine pmp_long_ok h hp ?_
    rintro rs_2 p_4 n_3 c_3 w rfl h hp
    have cpp_4 := rowCap h 0 rfl
    refine ⟨_, _, _, rfl, ?_⟩
    refine newL (o := [Value.slice p_2 rs.length c_1, Value.slice p_3 rs_1.length c_2, Value.slice p_4 rs_2.length c_3]) h ?_
    intro b_2 w h
    refine pmp_row_ok (FL := cel b_2 22 [Value.slice p_2 rs.length c_1, Value.slice p_3 rs_1.length c_2, Value.slice p_4 rs_2.length c_3] :: row enc5 5 1 p_4 c_3 rs_2 :: row enc5 5 1 p_3 c_2 rs_1 :: row enc5 5 1 p_2 c_1 rs :: cel b_1 41 [Value.int .i64 l_Ver, Value.int .i64 l_Inside, Value.int .i64 l_Port, Value.int .i64 l_Secs, Value.int .u64 l_Nonce, Value.int .i64 l_Result, Value.int .i64 l_Epoch, Value.int .u32 l_Host] :: FL) (fun w h => celRdD (z := 1) h 0 rfl [rs, rs_1, rs_2] [[Value.slice p_2 rs.length c_1], [Value.slice p_3 rs_1.length c_2], [Value.slice p_4 rs_2.length c_3]] rfl rfl (Fa2.cons ⟨_, _, _, rfl, rfl, cpp_2, (fun w h => (rowRd h 3 encL5 rfl))⟩ (Fa2.cons ⟨_, _, _, rfl, rfl, cpp_3, (fun w h => (rowRd h 2 encL5 rfl))⟩ (Fa2.cons ⟨_, _, _, rfl, rfl, cpp_4, (fun w h => (rowRd h 1 encL5 rfl))⟩ Fa2.nil)))) rfl (Nat.le_refl _) h hp ?_
    rintro rs_3 p_5 n_4 c_4 w rfl h hp
    have cpp_5 := rowCap h 0 rfl
    refine ⟨_, _, _, rfl, ?_⟩
    replace h := h.sel [0] 5
    dsimp only [pickL, pickR, nthH, delH, dropH, List.cons_append, List.nil_append] at h
    exact hR rs_3 p_5 rs_3.length c_4 _ rfl h hp
  replace h := h.drew
  refine ⟨fun w => Mem (cel b_1 41 [Value.int .i64 l_Ver, Value.int .i64 l_Inside, Value.int .i64 l_Port, Value.int .i64 l_Secs, Value.int .u64 l_Nonce, Value.int .i64 l_Result, Value.int .i64 l_Epoch, Value.int .u32 l_Host] :: FL) w, (h.sel [0] 0), ?_⟩
  refine ⟨_, cellL h 0 5 rfl rfl rfl, ?_⟩
  refine ⟨_, cellL h 0 6 rfl rfl rfl, ?_⟩
  refine ⟨?_, ?_⟩
  · intro w h
    change Mem _ _ at h
    refine ⟨_, cellL h 0 6 rfl rfl rfl, ?_⟩
    exact ⟨rfl, rfl⟩
  refine ⟨_, cellL h 0 1 rfl rfl rfl, ?_⟩
  refine ⟨?_, ?_⟩
  · intro w h
    change Mem _ _ at h
    refine ⟨_, cellL h 0 1 rfl rfl rfl, ?_⟩
    exact ⟨rfl, rfl⟩
  refine ⟨_, cellL h 0 2 rfl rfl rfl, ?_⟩
  refine ⟨?_, ?_⟩
  · intro w h
    change Mem _ _ at h
    refine ⟨_, cellL h 0 2 rfl rfl rfl, ?_⟩
    exact ⟨rfl, rfl⟩
  refine ⟨_, cellL h 0 3 rfl rfl rfl, ?_⟩
  refine ⟨?_, ?_⟩
  · intro w h
    change Mem _ _ at h
    refine ⟨_, cellL h 0 3 rfl rfl rfl, ?_⟩
    exact ⟨rfl, rfl⟩
  refine pmp_short_ok h hp ?_
  rintro rs_4 p_6 n_5 c_5 w rfl h hp
  have cpp_6 := rowCap h 0 rfl
  refine ⟨_, _, _, rfl, ?_⟩
  refine ⟨(h.sel [1] 1), ?_⟩
  refine pmp_long_ok h hp ?_
  rintro rs_5 p_7 n_6 c_6 w rfl h hp
  have cpp_7 := rowCap h 0 rfl
  refine ⟨_, _, _, rfl, ?_⟩
  refine ⟨(h.sel [2] 2), ?_⟩
  refine pmp_short_ok h hp ?_
  rintro rs_6 p_8 n_7 c_7 w rfl h hp
  have cpp_8 := rowCap h 0 rfl
  refine ⟨_, _, _, rfl, ?_⟩
  refine ⟨(h.sel [3] 3), ?_⟩
  refine pmp_short_ok h hp ?_
  rintro rs_7 p_9 n_8 c_8 w rfl h hp
  have cpp_9 := rowCap h 0 rfl
  refine ⟨_, _, _, rfl, ?_⟩
  refine ⟨(h.sel [4] 4), ?_⟩
  refine pmp_long_ok h hp ?_
  rintro rs_8 p_10 n_9 c_9 w rfl h hp
  have cpp_10 := rowCap h 0 rfl
  refine ⟨_, _, _, rfl, ?_⟩
  refine newL (o := [Value.slice p_6 rs_4.length c_5, Value.slice p_7 rs_5.length c_6, Value.slice p_8 rs_6.length c_7, Value.slice p_9 rs_7.length c_8, Value.slice p_10 rs_8.length c_9]) h ?_
  intro b_3 w h
  refine pmp_row_ok (FL := cel b_3 22 [Value.slice p_6 rs_4.length c_5, Value.slice p_7 rs_5.length c_6, Value.slice p_8 rs_6.length c_7, Value.slice p_9 rs_7.length c_8, Value.slice p_10 rs_8.length c_9] :: row enc5 5 1 p_10 c_9 rs_8 :: row enc5 5 1 p_9 c_8 rs_7 :: row enc5 5 1 p_8 c_7 rs_6 :: row enc5 5 1 p_7 c_6 rs_5 :: row enc5 5 1 p_6 c_5 rs_4 :: cel b_1 41 [Value.int .i64 l_Ver, Value.int .i64 l_Inside, Value.int .i64 l_Port, Value.int .i64 l_Secs, Value.int .u64 l_Nonce, Value.int .i64 l_Result, Value.int .i64 l_Epoch, Value.int .u32 l_Host] :: FL) (fun w h => celRdD (z := 1) h 0 rfl [rs_4, rs_5, rs_6, rs_7, rs_8] [[Value.slice p_6 rs_4.length c_5], [Value.slice p_7 rs_5.length c_6], [Value.slice p_8 rs_6.length c_7], [Value.slice p_9 rs_7.length c_8], [Value.slice p_10 rs_8.length c_9]] rfl rfl (Fa2.cons ⟨_, _, _, rfl, rfl, cpp_6, (fun w h => (rowRd h 5 encL5 rfl))⟩ (Fa2.cons ⟨_, _, _, rfl, rfl, cpp_7, (fun w h => (rowRd h 4 encL5 rfl))⟩ (Fa2.cons ⟨_, _, _, rfl, rfl, cpp_8, (fun w h => (rowRd h 3 encL5 rfl))⟩ (Fa2.cons ⟨_, _, _, rfl, rfl, cpp_9, (fun w h => (rowRd h 2 encL5 rfl))⟩ (Fa2.cons ⟨_, _, _, rfl, rfl, cpp_10, (fun w h => (rowRd h 1 encL5 rfl))⟩ Fa2.nil)))))) rfl (Nat.le_refl _) h hp ?_
  rintro rs_9 p_11 n_10 c_10 w rfl h hp
  have cpp_11 := rowCap h 0 rfl
  refine ⟨_, _, _, rfl, ?_⟩
  replace h := h.sel [0] 7
  dsimp only [pickL, pickR, nthH, delH, dropH, List.cons_append, List.nil_append] at h
  exact hR rs_9 p_11 rs_9.length c_10 _ rfl h hp
def nN_on_c1_wp (b_1 : Option Nat) (t : Int) (m_1 : SBX) (K : Bool → Prop) : Prop :=
  ∃ (b_3 : Nat), b_1 = some b_3 ∧ (∃ (x_1 : Int × Int × Int × Int × Int × Int × Bool × (List (Int × Int))), getS m_1 b_3 = some x_1 ∧ (K (decide ((x_1.2.2.2.2.2.1 : Int) ≤ t))))
theorem nN_on_c1_ok {b_2 : Nat} {b_1 : Option Nat} {t : Int} {m_1 : SBX} {FL : List HP} {w : World} {K : Bool → Prop} {R : Value → World → Prop}
  (hS85 : ∀ (b : Nat) (x : Int × Int × Int × Int × Int × Int × Bool × (List (Int × Int))), getS m_1 b = some x → roE85 FL b x)
  (h : Mem (cel b_2 3 [Value.int .i64 t] :: FL) w) (hp : nN_on_c1_wp b_1 t m_1 K)
  (hR : ∀ (r : Bool) (w : World), Mem (cel b_2 3 [Value.int .i64 t] :: FL) w → K r → R (Value.bool r) w) :
  CallV Try.prog 61 #[Value.pointer (pn b_1), Value.pointer (some (Addr.mk b_2 0 none))] w R := by
  refine nN_on_c1_call ?_
  unfold nN_on_c1
  unfold nN_on_c1_wp at hp
  replace h := h.drew
  obtain ⟨b_3, hb_3, hp⟩ := hp
  refine ⟨_, pnSome hb_3, ?_⟩
  obtain ⟨x_1, hx_1, hp⟩ := hp
  obtain ⟨qp7, qc7, hc_qp7, qe0, qe1, qe2, qe3, qe4, qe5, qe6, qe7, hF_qp7, -⟩ := hS85 b_3 x_1 hx_1
  refine ⟨_, qe5 _ (h.drop 1), ?_⟩
  refine ⟨_, cellL h 0 0 rfl rfl rfl, ?_⟩
  exact hR (decide ((x_1.2.2.2.2.2.1 : Int) ≤ t)) _ h hp
def sIdxB_wp {σ1 : Type} (s : List (Option Nat)) (s_1 : σ1) (Y1 : (Option Nat) → σ1 → (Bool → σ1 → Prop) → Prop) (K : Int → σ1 → Prop) : Prop :=
  ∃ (I : Nat → Int → σ1 → Prop), (∃ (n_4 : Nat), I n_4 0 s_1) ∧ ∀ (n_2 : Nat) (t8 : Int) (s_3 : σ1), I n_2 t8 s_3 → (cond (decide (t8 < ((s.length : Nat) : Int))) (0 ≤ t8 ∧ (t8 : Int) < ((s.length : Nat) : Int) ∧ (∀ (x_1 : Option Nat), s[Int.toNat t8]? = some x_1 → (Y1 x_1 s_3 (fun (t16 : Bool) (s_4 : σ1) => cond t16 (K t8 s_4) (∃ (n_3 : Nat), n_3 < n_2 ∧ I n_3 (IntKind.wrap .i64 (t8 + 1)) s_4))))) (K (-1) s_3))
theorem sIdxB_ok {σ1 : Type} {A1 : σ1 → HP} {p_1 : Option Addr} {n_1 c_1 : Nat} {ff1 : Fn} {fa1 fc1 : Array Value} {s : List (Option Nat)} {s_1 : σ1} {Y1 : (Option Nat) → σ1 → (Bool → σ1 → Prop) → Prop} {FL : List HP} {w : World} {K : Int → σ1 → Prop} {R : Value → World → Prop}
  (hY1 : ∀ (x0 : Option Nat) (s : σ1) (K : Bool → σ1 → Prop) (FL2 : List HP) (w : World) (R : Value → World → Prop), (∀ w, Mem FL2 w → Mem FL w) → Mem (A1 s :: FL2) w → Y1 x0 s K → (∀ (r : Bool) (s : σ1) (w : World), Mem (A1 s :: FL2) w → K r s → R (Value.bool r) w) → CalleeV Try.prog (Value.func ff1 fa1 fc1) #[Value.pointer (pn x0)] w R)
  (hF_s : ∀ w, Mem FL w → Rd w 1 p_1 enc82 s) (hl_s : n_1 = s.length) (hc_s : n_1 ≤ c_1)
  (h : Mem (A1 s_1 :: FL) w) (hp : sIdxB_wp s s_1 Y1 K)
  (hR : ∀ (r : Int) (s_2 : σ1) (w : World), Mem (A1 s_2 :: FL) w → K r s_2 → R (Value.int .i64 r) w) :
  CallV Try.prog 74 #[Value.slice p_1 n_1 c_1, Value.func ff1 fa1 fc1] w R := by
  refine sIdxB_call ?_
  unfold sIdxB
  unfold sIdxB_wp at hp
  subst hl_s
  obtain ⟨I, ⟨n_4, h0⟩, hq⟩ := hp
  refine ⟨fun n_2 s0p s0l s0c f1 t7 t8 w => ∃ (s_3 : σ1), p_1 = s0p ∧ s.length = s0l ∧ c_1 = s0c ∧ (Value.func ff1 fa1 fc1) = f1 ∧ ((s.length : Nat) : Int) = t7 ∧ I n_2 t8 s_3 ∧ Mem (A1 s_3 :: FL) w, ⟨n_4, s_1, rfl, rfl, rfl, rfl, rfl, h0, h⟩, ?_⟩
  clear h0 h
  rintro n_2 s0p s0l s0c f1 t7 t8 w ⟨s_3, rfl, rfl, rfl, rfl, rfl, hp, h⟩
  replace hp := hq n_2 t8 s_3 hp
  clear hq
  unfold sIdxB_l1
  refine cond_both' hp (fun hp => ?_) (fun hp => ?_)
  · exact hR (-1) s_3 _ h hp
  obtain ⟨ia_1, ja_1, hp⟩ := hp
  obtain ⟨a_1, ha_1⟩ := rdAddr (hF_s _ (h.drop 1)) rfl ia_1 ja_1
  refine ⟨a_1, ha_1, ia_1, ja_1, ?_⟩
  obtain ⟨x_1, hx_1, hc⟩ := rdCell0 (hF_s _ (h.drop 1)) ha_1 rfl ia_1 ja_1
  replace hp := hp x_1 hx_1
  refine ⟨_, hc _ rfl, ?_⟩
  refine hY1 x_1 _ _ (FL) _ _ (fun _ h => Mem.drop 0 h) h hp ?_
  intro t16 s_4 w h hp
  refine ⟨_, rfl, ?_⟩
  refine cond_both hp (fun hp => ?_) (fun hp => ?_)
  · exact hR t8 s_4 _ h hp
  obtain ⟨n_3, hn, hp⟩ := hp
  exact ⟨n_3, hn, s_4, rfl, rfl, rfl, rfl, rfl, hp, h⟩
def sDelB_wp {σ1 : Type} (s : List (Option Nat)) (s_1 : σ1) (Y1 : (Option Nat) → σ1 → (Bool → σ1 → Prop) → Prop) (K : List (Option Nat) → σ1 → Prop) : Prop :=
  sIdxB_wp s s_1 Y1 (fun (r : Int) (s_3 : σ1) => cond (r == (-1)) (K s s_3) (joinP3 (fun (s_4 : List (Option Nat)) (i5 : Int) (s_5 : σ1) => 0 ≤ i5 ∧ (i5 : Int) ≤ ((s.length : Nat) : Int) ∧ (0 ≤ i5 ∧ (i5 : Int) ≤ ((s.length : Nat) : Int) ∧ (K ((((s_4.take (Int.toNat i5)) ++ List.replicate (s.length - (Int.toNat i5)) (none : Option Nat) ++ (s_4.drop s.length)).take (Int.toNat i5)).drop 0) s_5))) (fun (Q : List (Option Nat) → Int → σ1 → Prop) => ∃ (I : Nat → List (Option Nat) → Int → Int → σ1 → Prop), (∃ (n_5 : Nat), I n_5 s r (IntKind.wrap .i64 (r + 1)) s_3) ∧ ∀ (n_2 : Nat) (s_6 : List (Option Nat)) (i5_1 j6 : Int) (s_7 : σ1), I n_2 s_6 i5_1 j6 s_7 → (cond (decide (j6 < ((s.length : Nat) : Int))) (0 ≤ j6 ∧ (j6 : Int) < ((s.length : Nat) : Int) ∧ (∀ (x_1 : Option Nat), s_6[Int.toNat j6]? = some x_1 → (Y1 x_1 s_7 (fun (t28 : Bool) (s_8 : σ1) => cond (!t28) (0 ≤ i5_1 ∧ (i5_1 : Int) < ((s.length : Nat) : Int) ∧ (∃ (n_3 : Nat), n_3 < n_2 ∧ I n_3 (List.set s_6 (Int.toNat i5_1) x_1) (IntKind.wrap .i64 (i5_1 + 1)) (IntKind.wrap .i64 (j6 + 1)) s_8)) (∃ (n_4 : Nat), n_4 < n_2 ∧ I n_4 s_6 i5_1 (IntKind.wrap .i64 (j6 + 1)) s_8))))) (Q s_6 i5_1 s_7)))))
theorem sDelB_ok {σ1 : Type} {A1 : σ1 → HP} {p_1 : Option Addr} {c_1 n_1 : Nat} {ff1 : Fn} {fa1 fc1 : Array Value} {s : List (Option Nat)} {s_1 : σ1} {Y1 : (Option Nat) → σ1 → (Bool → σ1 → Prop) → Prop} {FL : List HP} {w : World} {K : List (Option Nat) → σ1 → Prop} {R : Value → World → Prop}
  (hY1 : ∀ (x0 : Option Nat) (s : σ1) (K : Bool → σ1 → Prop) (FL2 : List HP) (w : World) (R : Value → World → Prop), (∀ w, Mem FL2 w → Mem FL w) → Mem (A1 s :: FL2) w → Y1 x0 s K → (∀ (r : Bool) (s : σ1) (w : World), Mem (A1 s :: FL2) w → K r s → R (Value.bool r) w) → CalleeV Try.prog (Value.func ff1 fa1 fc1) #[Value.pointer (pn x0)] w R) (hn_p_1 : n_1 = s.length)
  (h : Mem (row enc82 82 1 p_1 c_1 s :: A1 s_1 :: FL) w) (hp : sDelB_wp s s_1 Y1 K)
  (hR : ∀ (rs : List (Option Nat)) (s_2 : σ1) (p_2 : Option Addr) (n_2 c_2 : Nat) (w : World), n_2 = rs.length → Mem (row enc82 82 1 p_2 c_2 rs :: A1 s_2 :: FL) w → K rs s_2 → R (Value.slice p_2 n_2 c_2) w) :
  CallV Try.prog 60 #[Value.slice p_1 n_1 c_1, Value.func ff1 fa1 fc1] w R := by
  refine sDelB_call ?_
  unfold sDelB
  unfold sDelB_wp at hp
  subst hn_p_1
  have cpp_1 := rowCap h 0 rfl
  replace h := h.pick [1]
  dsimp only [pickL, pickR, nthH, delH, dropH, List.cons_append, List.nil_append] at h
  refine sIdxB_ok (FL := row enc82 82 1 p_1 c_1 s :: FL) (A1 := A1) (Y1 := Y1) (σ1 := σ1) (s_1 := s_1) (fun _ _ _ FL2 w R hx => hY1 _ _ _ FL2 w R (fun w h => (Mem.drop 1 (hx w h)))) (fun w h => (rowRd h 0 encL82 rfl)) rfl cpp_1 h hp ?_
  intro r s_3 w h hp
  refine ⟨_, rfl, ?_⟩
  refine cond_both hp (fun hp => ?_) (fun hp => ?_)
  · replace h := h.sel [1, 0] 0
    dsimp only [pickL, pickR, nthH, delH, dropH, List.cons_append, List.nil_append] at h
    exact hR s s_3 p_1 s.length c_1 _ rfl h hp
  obtain ⟨Q, hq, hp⟩ := hp
  refine ⟨fun s0p s0l s0c i5 w => ∃ (s_4 : List (Option Nat)), ∃ (s_5 : σ1), p_1 = s0p ∧ s.length = s0l ∧ c_1 = s0c ∧ s.length = s_4.length ∧ Q s_4 i5 s_5 ∧ Mem (A1 s_5 :: row enc82 82 1 p_1 c_1 s_4 :: FL) w, ?_, ?_⟩
  · rintro s0p s0l s0c i5 w ⟨s_4, s_5, rfl, rfl, rfl, hl_s_4, hp, h⟩
    replace hp := hq s_4 i5 s_5 hp
    unfold sDelB_j1
    obtain ⟨g_1la, g_1lb, hp⟩ := hp
    have vg_1_lh : (Int.toNat i5) ≤ s.length := (natLe g_1la g_1lb)
    have vg_1_hm : s.length ≤ c_1 := cpp_1
    have vg_1_mc : c_1 ≤ c_1 := (Nat.le_refl _)
    have vg_1_hl : s.length ≤ s_4.length := (Nat.le_of_eq hl_s_4)
    refine ⟨g_1la, g_1lb, ?_⟩
    refine clearL (x0 := (none : Option Nat)) (lo := (Int.toNat i5)) (hi := s.length) (m := c_1) und69 zr82 h 1 encL82 rfl rfl rfl vg_1_lh vg_1_hm vg_1_hl rfl ?_
    intro w h
    dsimp only [setH, setVs, setV] at h
    refine ⟨rfl, ?_⟩
    obtain ⟨g_2ha, g_2hb, hp⟩ := hp
    have vg_2_lh : 0 ≤ (Int.toNat i5) := (Nat.zero_le _)
    have vg_2_hm : (Int.toNat i5) ≤ c_1 := (Nat.le_trans (natLe g_2ha g_2hb) cpp_1)
    have vg_2_mc : c_1 ≤ c_1 := (Nat.le_refl _)
    have vg_2_hl : (Int.toNat i5) ≤ ((s_4.take (Int.toNat i5)) ++ List.replicate (s.length - (Int.toNat i5)) (none : Option Nat) ++ (s_4.drop s.length)).length := (leLen g_2ha g_2hb (lenClear hl_s_4 vg_1_lh vg_1_hl))
    refine ⟨g_2ha, (leCap g_2hb cpp_1), ?_⟩
    replace h := rowShrink h 1 encL82 rfl (l := 0) (hi := (Int.toNat i5)) (m := c_1) vg_2_lh vg_2_hm vg_2_mc vg_2_hl
    dsimp only [setH, setVs, setV] at h
    replace h := h.sel [1, 0] 0
    dsimp only [pickL, pickR, nthH, delH, dropH, List.cons_append, List.nil_append] at h
    exact hR ((((s_4.take (Int.toNat i5)) ++ List.replicate (s.length - (Int.toNat i5)) (none : Option Nat) ++ (s_4.drop s.length)).take (Int.toNat i5)).drop 0) s_5 (slAddr p_1 1 0 c_1) ((Int.toNat i5) - 0) (c_1 - 0) _ (viewLen vg_2_hl) h hp
  clear hq
  obtain ⟨I, ⟨n_5, h0⟩, hq⟩ := hp
  refine ⟨fun n_2 s0_1p s0_1l s0_1c del1 i5_1 j6 w => ∃ (s_6 : List (Option Nat)), ∃ (s_7 : σ1), p_1 = s0_1p ∧ s.length = s0_1l ∧ c_1 = s0_1c ∧ (Value.func ff1 fa1 fc1) = del1 ∧ s.length = s_6.length ∧ I n_2 s_6 i5_1 j6 s_7 ∧ Mem (A1 s_7 :: row enc82 82 1 p_1 c_1 s_6 :: FL) w, ⟨n_5, s, s_3, rfl, rfl, rfl, rfl, rfl, h0, h⟩, ?_⟩
  clear h0 h
  rintro n_2 s0_1p s0_1l s0_1c del1 i5_1 j6 w ⟨s_6, s_7, rfl, rfl, rfl, rfl, hl_s_6, hp, h⟩
  replace hp := hq n_2 s_6 i5_1 j6 s_7 hp
  clear hq
  unfold sDelB_l2
  refine cond_both' hp (fun hp => ?_) (fun hp => ?_)
  · exact ⟨s_6, s_7, rfl, rfl, rfl, hl_s_6, hp, h⟩
  obtain ⟨ia_1, ja_1, hp⟩ := hp
  obtain ⟨a_1, ha_1⟩ := rdAddr (rowRd h 1 encL82 rfl) hl_s_6 ia_1 ja_1
  refine ⟨a_1, ha_1, ia_1, ja_1, ?_⟩
  obtain ⟨x_1, hx_1, hc⟩ := rdCell0 (rowRd h 1 encL82 rfl) ha_1 hl_s_6 ia_1 ja_1
  replace hp := hp x_1 hx_1
  refine ⟨_, hc _ rfl, ?_⟩
  refine hY1 x_1 _ _ (row enc82 82 1 p_1 c_1 s_6 :: FL) _ _ (fun _ h => Mem.drop 1 h) h hp ?_
  intro t28 s_8 w h hp
  refine ⟨_, rfl, ?_⟩
  refine cond_both' hp (fun hp => ?_) (fun hp => ?_)
  · obtain ⟨n_4, hn, hp⟩ := hp
    exact ⟨n_4, hn, s_6, s_8, rfl, rfl, rfl, rfl, hl_s_6, hp, h⟩
  obtain ⟨ia_2, ja_2, hp⟩ := hp
  obtain ⟨a_2, ha_2⟩ := rdAddr (rowRd h 1 encL82 rfl) hl_s_6 ia_2 ja_2
  refine ⟨a_2, ha_2, ia_2, ja_2, ?_⟩
  refine rowSetW (ys := [Value.pointer (pn x_1)]) (x := x_1) h 1 encL82 rfl ha_2 hl_s_6 ia_2 ja_2 sz82 rfl rfl rfl ?_
  intro w h
  dsimp only [setH, setVs, setV] at h
  obtain ⟨n_3, hn, hp⟩ := hp
  exact ⟨n_3, hn, (List.set s_6 (Int.toNat i5_1) x_1), s_8, rfl, rfl, rfl, rfl, (lenSet hl_s_6), hp, h⟩
def nN_on_wp (box box_1 box_2 box_3 box_4 box_5 box_6 : Int) (list : List (Option Nat)) (now now_1 : Int) (m_1 : SBX) (K : Bool → List (Option Nat) → Int → Prop) : Prop :=
  joinP1 (fun (t14 : Bool) => cond t14 (K false list now) (sDelB_wp list () (fun x_1 s K_1 => nN_on_c1_wp x_1 now_1 m_1 (fun (r : Bool) => K_1 r s)) (fun (rs : List (Option Nat)) (s_1 : (Unit)) => K true rs now_1))) (fun (Q : Bool → Prop) => cond (decide (now_1 < now)) (Q true) (Q (decide (now_1 > 1099511627776))))
theorem nN_on_ok {b_1 : Nat} {p_1 : Option Addr} {c_1 : Nat} {hd : Nat → Option Addr × Nat} {box box_1 box_2 box_3 box_4 box_5 box_6 : Int} {list : List (Option Nat)} {now now_1 : Int} {m_1 : SBX} {FL : List HP} {w : World} {K : Bool → List (Option Nat) → Int → Prop} {R : Value → World → Prop}
  (h : Mem (cel b_1 71 [Value.int .u32 box, Value.int .i64 box_1, Value.int .i64 box_2, Value.int .i64 box_3, Value.int .i64 box_4, Value.int .i64 box_5, Value.int .i64 box_6, Value.slice p_1 list.length c_1, Value.int .i64 now] :: row enc82 82 1 p_1 c_1 list :: stoP stoE85 hd m_1 :: FL) w) (hp : nN_on_wp box box_1 box_2 box_3 box_4 box_5 box_6 list now now_1 m_1 K)
  (hR : ∀ (r : Bool) (list_1 : List (Option Nat)) (now_2 : Int) (p_2 : Option Addr) (n_1 c_2 : Nat) (w : World), n_1 = list_1.length → Mem (cel b_1 71 [Value.int .u32 box, Value.int .i64 box_1, Value.int .i64 box_2, Value.int .i64 box_3, Value.int .i64 box_4, Value.int .i64 box_5, Value.int .i64 box_6, Value.slice p_2 n_1 c_2, Value.int .i64 now_2] :: row enc82 82 1 p_2 c_2 list_1 :: stoP stoE85 hd m_1 :: FL) w → K r list_1 now_2 → R (Value.bool r) w) :
  CallV Try.prog 33 #[Value.pointer (some (Addr.mk b_1 0 none)), Value.int .i64 now_1] w R := by
  refine nN_on_call ?_
  unfold nN_on
  unfold nN_on_wp at hp
  have cpp_1 := rowCap h 1 rfl
  refine newL (o := [Value.int .i64 now_1]) h ?_
  intro b_2 w h
  obtain ⟨Q, hq, hp⟩ := hp
  refine ⟨fun n0 now3 t14 w => (some (Addr.mk b_1 0 none)) = n0 ∧ (Addr.mk b_2 0 none) = now3 ∧ Q t14 ∧ Mem (cel b_2 3 [Value.int .i64 now_1] :: cel b_1 71 [Value.int .u32 box, Value.int .i64 box_1, Value.int .i64 box_2, Value.int .i64 box_3, Value.int .i64 box_4, Value.int .i64 box_5, Value.int .i64 box_6, Value.slice p_1 list.length c_1, Value.int .i64 now] :: row enc82 82 1 p_1 c_1 list :: stoP stoE85 hd m_1 :: FL) w, ?_, ?_⟩
  · rintro n0 now3 t14 w ⟨rfl, rfl, hp, h⟩
    replace hp := hq t14 hp
    unfold nN_on_j1
    refine cond_both hp (fun hp => ?_) (fun hp => ?_)
    · replace h := h.sel [1, 1, 1] 1
      dsimp only [pickL, pickR, nthH, delH, dropH, List.cons_append, List.nil_append] at h
      exact hR false list now p_1 list.length c_1 _ rfl h hp
    refine ⟨_, cellL h 0 0 rfl rfl rfl, ?_⟩
    refine ⟨_, rfl, ?_⟩
    refine storeL (ys := [Value.int .i64 now_1]) h 1 8 rfl rfl rfl sz3 rfl rfl ?_
    intro w h
    dsimp only [setH, setVs, setV] at h
    refine ⟨_, rfl, ?_⟩
    refine ⟨_, _, _, cellL h 1 7 rfl rfl rfl, ?_⟩
    replace h : Mem ((fun (_ : Unit) => HL [cel b_2 3 [Value.int .i64 now_1]]) () :: cel b_1 71 [Value.int .u32 box, Value.int .i64 box_1, Value.int .i64 box_2, Value.int .i64 box_3, Value.int .i64 box_4, Value.int .i64 box_5, Value.int .i64 box_6, Value.slice p_1 list.length c_1, Value.int .i64 now_1] :: row enc82 82 1 p_1 c_1 list :: stoP stoE85 hd m_1 :: FL) _ := h.pack 1 [cel b_2 3 [Value.int .i64 now_1]] rfl
    replace h := h.pick [2, 0]
    dsimp only [pickL, pickR, nthH, delH, dropH, List.cons_append, List.nil_append] at h
    have hSr85 := stoRo85 (h.drop 2) 1 rfl
    refine sDelB_ok (FL := cel b_1 71 [Value.int .u32 box, Value.int .i64 box_1, Value.int .i64 box_2, Value.int .i64 box_3, Value.int .i64 box_4, Value.int .i64 box_5, Value.int .i64 box_6, Value.slice p_1 list.length c_1, Value.int .i64 now_1] :: stoP stoE85 hd m_1 :: FL) (A1 := (fun (_ : Unit) => HL [cel b_2 3 [Value.int .i64 now_1]])) (Y1 := (fun x_1 s K_1 => nN_on_c1_wp x_1 now_1 m_1 (fun (r : Bool) => K_1 r s))) (σ1 := Unit) (s_1 := ()) ?_ rfl h hp ?_
    · intro x_1 s K FL2 w R hx h hp hR
      replace h := h.unpack
      dsimp only [pickL, pickR, nthH, delH, dropH, List.cons_append, List.nil_append] at h
      refine calleeFn (by kernel_rfl) ?_
      refine nN_on_c1_ok (fun b x hx_ => roEm85 (fun w h => (by first | exact hx _ h | exact hx _ (h.drop 1) | exact hx _ (h.drop 2) | exact hx _ (h.drop 3) | exact hx _ (h.drop 4) | exact hx _ (h.drop 5))) (hSr85 b x hx_)) h hp ?_
      intro r w h hp
      exact hR r s _ (h.pack 1 [cel b_2 3 [Value.int .i64 now_1]] rfl) hp
    rintro rs s_1 p_3 n_2 c_3 w rfl h hp
    have cpp_3 := rowCap h 0 rfl
    replace h := h.pick [1]
    dsimp only [pickL, pickR, nthH, delH, dropH, List.cons_append, List.nil_append] at h
    replace h := h.unpack
    dsimp only [pickL, pickR, nthH, delH, dropH, List.cons_append, List.nil_append] at h
    refine ⟨_, _, _, rfl, ?_⟩
    refine ⟨_, rfl, ?_⟩
    refine storeL (ys := [Value.slice p_3 rs.length c_3]) h 2 7 rfl rfl rfl sz69 rfl rfl ?_
    intro w h
    dsimp only [setH, setVs, setV] at h
    replace h := h.sel [2, 1, 1] 1
    dsimp only [pickL, pickR, nthH, delH, dropH, List.cons_append, List.nil_append] at h
    exact hR true rs now_1 p_3 rs.length c_3 _ rfl h hp
  clear hq
  replace h := h.drew
  refine ⟨_, cellL h 0 0 rfl rfl rfl, ?_⟩
  refine ⟨_, rfl, ?_⟩
  refine ⟨_, cellL h 1 8 rfl rfl rfl, ?_⟩
  refine cond_both hp (fun hp => ?_) (fun hp => ?_)
  · exact ⟨rfl, rfl, hp, h⟩
  refine ⟨_, cellL h 0 0 rfl rfl rfl, ?_⟩
  exact ⟨rfl, rfl, hp, h⟩
def nN_of_c1_wp {σ0 : Type} (s : σ0) (Y0 : (Option Nat) → σ0 → (Bool → σ0 → Prop) → Prop) (box box_1 box_2 box_3 box_4 box_5 box_6 : Int) (list : List (Option Nat)) (now Host Port : Int) (m_1 : SBX) (K : σ0 → Prop) : Prop :=
  ∃ (I : Nat → Int → σ0 → Prop), (∃ (n_3 : Nat), I n_3 0 s) ∧ ∀ (n_1 : Nat) (t11 : Int) (s_2 : σ0), I n_1 t11 s_2 → (cond (decide (t11 < ((list.length : Nat) : Int))) (0 ≤ t11 ∧ (t11 : Int) < ((list.length : Nat) : Int) ∧ (∀ (x_1 : Option Nat), list[Int.toNat t11]? = some x_1 → (joinP2 (fun (t27 : Bool) (s_3 : σ0) => cond t27 (K s_3) (∃ (n_2 : Nat), n_2 < n_1 ∧ I n_2 (IntKind.wrap .i64 (t11 + 1)) s_3)) (fun (Q : Bool → σ0 → Prop) => ∃ (b_4 : Nat), x_1 = some b_4 ∧ (∃ (x_2 : Int × Int × Int × Int × Int × Int × Bool × (List (Int × Int))), getS m_1 b_4 = some x_2 ∧ (cond (((x_2.1 : Int) == Host) && (((x_2.2.1 : Int) == Port) && true)) (Y0 x_1 s_2 (fun (t25 : Bool) (s_4 : σ0) => Q (!t25) s_4)) (Q false s_2))))))) (K s_2))
theorem nN_of_c1_ok {σ0 : Type} {A0 : σ0 → HP} {ff0 : Fn} {fa0 fc0 : Array Value} {b_1 b_2 : Nat} {p_1 : Option Addr} {c_1 b_3 : Nat} {s : σ0} {Y0 : (Option Nat) → σ0 → (Bool → σ0 → Prop) → Prop} {box box_1 box_2 box_3 box_4 box_5 box_6 : Int} {list : List (Option Nat)} {now Host Port : Int} {m_1 : SBX} {FL : List HP} {w : World} {K : σ0 → Prop} {R : Value → World → Prop}
  (hY0 : ∀ (x0 : Option Nat) (s : σ0) (K : Bool → σ0 → Prop) (FL2 : List HP) (w : World) (R : Value → World → Prop), (∀ w, Mem FL2 w → Mem FL w) → Mem (A0 s :: FL2) w → Y0 x0 s K → (∀ (r : Bool) (s : σ0) (w : World), Mem (A0 s :: FL2) w → K r s → R (Value.bool r) w) → CalleeV Try.prog (Value.func ff0 fa0 fc0) #[Value.pointer (pn x0)] w R)
  (hS85 : ∀ (b : Nat) (x : Int × Int × Int × Int × Int × Int × Bool × (List (Int × Int))), getS m_1 b = some x → roE85 FL b x)
  (h : Mem (cel b_1 27 [Value.pointer (some (Addr.mk b_2 0 none))] :: cel b_2 71 [Value.int .u32 box, Value.int .i64 box_1, Value.int .i64 box_2, Value.int .i64 box_3, Value.int .i64 box_4, Value.int .i64 box_5, Value.int .i64 box_6, Value.slice p_1 list.length c_1, Value.int .i64 now] :: row enc82 82 1 p_1 c_1 list :: cel b_3 25 [Value.int .u32 Host, Value.int .i64 Port] :: A0 s :: FL) w) (hp : nN_of_c1_wp s Y0 box box_1 box_2 box_3 box_4 box_5 box_6 list now Host Port m_1 K)
  (hR : ∀ (s_1 : σ0) (w : World), Mem (cel b_1 27 [Value.pointer (some (Addr.mk b_2 0 none))] :: cel b_2 71 [Value.int .u32 box, Value.int .i64 box_1, Value.int .i64 box_2, Value.int .i64 box_3, Value.int .i64 box_4, Value.int .i64 box_5, Value.int .i64 box_6, Value.slice p_1 list.length c_1, Value.int .i64 now] :: row enc82 82 1 p_1 c_1 list :: cel b_3 25 [Value.int .u32 Host, Value.int .i64 Port] :: A0 s_1 :: FL) w → K s_1 → R undef w) :
  CallV Try.prog 99 #[Value.func ff0 fa0 fc0, Value.pointer (some (Addr.mk b_1 0 none)), Value.pointer (some (Addr.mk b_3 0 none))] w R := by
  refine nN_of_c1_call ?_
  unfold nN_of_c1
  unfold nN_of_c1_wp at hp
  have cpp_1 := rowCap h 2 rfl
  refine ⟨_, cellL h 0 0 rfl rfl rfl, ?_⟩
  refine ⟨_, rfl, ?_⟩
  refine ⟨_, _, _, cellL h 1 7 rfl rfl rfl, ?_⟩
  obtain ⟨I, ⟨n_3, h0⟩, hq⟩ := hp
  refine ⟨fun n_1 yield0 t2 t9p t9l t9c t10 t11 w => ∃ (s_2 : σ0), (Value.func ff0 fa0 fc0) = yield0 ∧ (Addr.mk b_3 0 none) = t2 ∧ p_1 = t9p ∧ list.length = t9l ∧ c_1 = t9c ∧ ((list.length : Nat) : Int) = t10 ∧ I n_1 t11 s_2 ∧ Mem (cel b_1 27 [Value.pointer (some (Addr.mk b_2 0 none))] :: cel b_2 71 [Value.int .u32 box, Value.int .i64 box_1, Value.int .i64 box_2, Value.int .i64 box_3, Value.int .i64 box_4, Value.int .i64 box_5, Value.int .i64 box_6, Value.slice p_1 list.length c_1, Value.int .i64 now] :: row enc82 82 1 p_1 c_1 list :: cel b_3 25 [Value.int .u32 Host, Value.int .i64 Port] :: A0 s_2 :: FL) w, ⟨n_3, s, rfl, rfl, rfl, rfl, rfl, rfl, h0, h⟩, ?_⟩
  clear h0 h
  rintro n_1 yield0 t2 t9p t9l t9c t10 t11 w ⟨s_2, rfl, rfl, rfl, rfl, rfl, rfl, hp, h⟩
  replace hp := hq n_1 t11 s_2 hp
  clear hq
  unfold nN_of_c1_l1
  refine cond_both' hp (fun hp => ?_) (fun hp => ?_)
  · exact hR s_2 _ h hp
  obtain ⟨ia_1, ja_1, hp⟩ := hp
  obtain ⟨a_1, ha_1⟩ := rdAddr (rowRd h 2 encL82 rfl) rfl ia_1 ja_1
  refine ⟨a_1, ha_1, ia_1, ja_1, ?_⟩
  obtain ⟨x_1, hx_1, hc⟩ := rdCell0 (rowRd h 2 encL82 rfl) ha_1 rfl ia_1 ja_1
  replace hp := hp x_1 hx_1
  refine ⟨_, hc _ rfl, ?_⟩
  obtain ⟨Q, hq, hp⟩ := hp
  refine ⟨fun yield0_1 t2_1 t9_1p t9_1l t9_1c t10_1 t11_1 t27 w => ∃ (s_3 : σ0), (Value.func ff0 fa0 fc0) = yield0_1 ∧ (Addr.mk b_3 0 none) = t2_1 ∧ p_1 = t9_1p ∧ list.length = t9_1l ∧ c_1 = t9_1c ∧ ((list.length : Nat) : Int) = t10_1 ∧ t11 = t11_1 ∧ Q t27 s_3 ∧ Mem (cel b_1 27 [Value.pointer (some (Addr.mk b_2 0 none))] :: cel b_2 71 [Value.int .u32 box, Value.int .i64 box_1, Value.int .i64 box_2, Value.int .i64 box_3, Value.int .i64 box_4, Value.int .i64 box_5, Value.int .i64 box_6, Value.slice p_1 list.length c_1, Value.int .i64 now] :: row enc82 82 1 p_1 c_1 list :: cel b_3 25 [Value.int .u32 Host, Value.int .i64 Port] :: A0 s_3 :: FL) w, ?_, ?_⟩
  · rintro yield0_1 t2_1 t9_1p t9_1l t9_1c t10_1 t11_1 t27 w ⟨s_3, rfl, rfl, rfl, rfl, rfl, rfl, rfl, hp, h⟩
    replace hp := hq t27 s_3 hp
    unfold nN_of_c1_j2
    refine cond_both hp (fun hp => ?_) (fun hp => ?_)
    · exact hR s_3 _ h hp
    obtain ⟨n_2, hn, hp⟩ := hp
    exact ⟨n_2, hn, s_3, rfl, rfl, rfl, rfl, rfl, rfl, hp, h⟩
  clear hq
  replace h := h.drew
  obtain ⟨b_4, hb_4, hp⟩ := hp
  refine ⟨_, pnSome hb_4, ?_⟩
  obtain ⟨x_2, hx_2, hp⟩ := hp
  obtain ⟨qp7, qc7, hc_qp7, qe0, qe1, qe2, qe3, qe4, qe5, qe6, qe7, hF_qp7, -⟩ := hS85 b_4 x_2 hx_2
  refine ⟨_, qe0 _ (h.drop 5), _, qe1 _ (h.drop 5), ?_⟩
  refine ⟨_, cellL h 3 0 rfl rfl rfl, _, cellL h 3 1 rfl rfl rfl, ?_⟩
  refine eqlAgg (xs := [Value.int .u32 x_2.1, Value.int .i64 x_2.2.1]) (ys := [Value.int .u32 Host, Value.int .i64 Port]) eqG25 eqA25 (eqT25 x_2.1 x_2.2.1 Host Port) ?_
  refine ⟨_, rfl, ?_⟩
  refine ⟨rfl, ?_⟩
  refine cond_both' hp (fun hp => ?_) (fun hp => ?_)
  · exact ⟨s_2, rfl, rfl, rfl, rfl, rfl, rfl, rfl, hp, h⟩
  replace h := h.pick [4]
  dsimp only [pickL, pickR, nthH, delH, dropH, List.cons_append, List.nil_append] at h
  refine hY0 x_1 _ _ (cel b_1 27 [Value.pointer (some (Addr.mk b_2 0 none))] :: cel b_2 71 [Value.int .u32 box, Value.int .i64 box_1, Value.int .i64 box_2, Value.int .i64 box_3, Value.int .i64 box_4, Value.int .i64 box_5, Value.int .i64 box_6, Value.slice p_1 list.length c_1, Value.int .i64 now] :: row enc82 82 1 p_1 c_1 list :: cel b_3 25 [Value.int .u32 Host, Value.int .i64 Port] :: FL) _ _ (fun _ h => Mem.drop 4 h) h hp ?_
  intro t25 s_4 w h hp
  refine ⟨_, rfl, ?_⟩
  replace h := h.sel [1, 1, 1, 1, 0] 0
  dsimp only [pickL, pickR, nthH, delH, dropH, List.cons_append, List.nil_append] at h
  exact ⟨s_4, rfl, rfl, rfl, rfl, rfl, rfl, rfl, hp, h⟩
def nN_of_wp (box box_1 box_2 box_3 box_4 box_5 box_6 now in_Host in_Port : Int) (K : Int → Int → Prop) : Prop :=
  K in_Host in_Port
theorem nN_of_ok {b_1 : Nat} {p_1 : Option Addr} {n_1 c_1 : Nat} {box box_1 box_2 box_3 box_4 box_5 box_6 now in_Host in_Port : Int} {FL : List HP} {w : World} {K : Int → Int → Prop} {R : Value → World → Prop}
  (h : Mem (cel b_1 71 [Value.int .u32 box, Value.int .i64 box_1, Value.int .i64 box_2, Value.int .i64 box_3, Value.int .i64 box_4, Value.int .i64 box_5, Value.int .i64 box_6, Value.slice p_1 n_1 c_1, Value.int .i64 now] :: FL) w) (hp : nN_of_wp box box_1 box_2 box_3 box_4 box_5 box_6 now in_Host in_Port K)
  (hR : ∀ (Host Port : Int) (b_2 b_3 : Nat) (w : World), Mem (cel b_2 27 [Value.pointer (some (Addr.mk b_1 0 none))] :: cel b_3 25 [Value.int .u32 Host, Value.int .i64 Port] :: cel b_1 71 [Value.int .u32 box, Value.int .i64 box_1, Value.int .i64 box_2, Value.int .i64 box_3, Value.int .i64 box_4, Value.int .i64 box_5, Value.int .i64 box_6, Value.slice p_1 n_1 c_1, Value.int .i64 now] :: FL) w → K Host Port → R (Value.func (Fn.func 99) #[] #[Value.pointer (some (Addr.mk b_2 0 none)), Value.pointer (some (Addr.mk b_3 0 none))]) w) :
  CallV Try.prog 96 #[Value.pointer (some (Addr.mk b_1 0 none)), (Value.agg #[Value.int .u32 in_Host, Value.int .i64 in_Port])] w R := by
  refine nN_of_call ?_
  unfold nN_of
  unfold nN_of_wp at hp
  refine newL (o := [Value.pointer (some (Addr.mk b_1 0 none))]) h ?_
  intro b_2 w h
  refine newL (o := [Value.int .u32 in_Host, Value.int .i64 in_Port]) h ?_
  intro b_3 w h
  replace h := h.sel [1, 0, 0] 0
  dsimp only [pickL, pickR, nthH, delH, dropH, List.cons_append, List.nil_append] at h
  exact hR in_Host in_Port b_2 b_3 _ h hp
def nN_asked_wp (box box_1 box_2 box_3 box_4 box_5 box_6 : Int) (list : List (Option Nat)) (now in_Host in_Port : Int) (m_1 : SBX) (K : Option Nat → Prop) : Prop :=
  joinP1 (fun (x_1 : Option Nat) => K (none : Option Nat)) (fun (Q : Option Nat → Prop) => nN_of_wp box box_1 box_2 box_3 box_4 box_5 box_6 now in_Host in_Port (fun (Host Port : Int) => nN_of_c1_wp (0, (none : Option Nat)) (fun x_3 (s : Nat × Option Nat) K_1 => s.1 = 0 ∧ (∃ (b_6 : Nat), x_3 = some b_6 ∧ (∃ (x_4 : Int × Int × Int × Int × Int × Int × Bool × (List (Int × Int))), getS m_1 b_6 = some x_4 ∧ (cond (x_4.2.2.2.2.2.2.1) (K_1 false (1, x_3)) (K_1 true (0, s.2)))))) box box_1 box_2 box_3 box_4 box_5 box_6 list now Host Port m_1 (fun (s_1 : (Nat × Option Nat)) => (s_1.1 = 0 ∧ (Q s_1.2)) ∨ (s_1.1 ≠ 0 ∧ (K s_1.2)))))
theorem nN_asked_ok {b_1 : Nat} {p_1 : Option Addr} {c_1 : Nat} {box box_1 box_2 box_3 box_4 box_5 box_6 : Int} {list : List (Option Nat)} {now in_Host in_Port : Int} {m_1 : SBX} {FL : List HP} {w : World} {K : Option Nat → Prop} {R : Value → World → Prop}
  (hS85 : ∀ (b : Nat) (x : Int × Int × Int × Int × Int × Int × Bool × (List (Int × Int))), getS m_1 b = some x → roE85 FL b x)
  (h : Mem (cel b_1 71 [Value.int .u32 box, Value.int .i64 box_1, Value.int .i64 box_2, Value.int .i64 box_3, Value.int .i64 box_4, Value.int .i64 box_5, Value.int .i64 box_6, Value.slice p_1 list.length c_1, Value.int .i64 now] :: row enc82 82 1 p_1 c_1 list :: FL) w) (hp : nN_asked_wp box box_1 box_2 box_3 box_4 box_5 box_6 list now in_Host in_Port m_1 K)
  (hR : ∀ (r : Option Nat) (w : World), Mem (cel b_1 71 [Value.int .u32 box, Value.int .i64 box_1, Value.int .i64 box_2, Value.int .i64 box_3, Value.int .i64 box_4, Value.int .i64 box_5, Value.int .i64 box_6, Value.slice p_1 list.length c_1, Value.int .i64 now] :: row enc82 82 1 p_1 c_1 list :: FL) w → K r → R (Value.pointer (pn r)) w) :
  CallV Try.prog 88 #[Value.pointer (some (Addr.mk b_1 0 none)), (Value.agg #[Value.int .u32 in_Host, Value.int .i64 in_Port])] w R := by
  refine nN_asked_call ?_
  unfold nN_asked
  unfold nN_asked_wp at hp
  have cpp_1 := rowCap h 1 rfl
  replace h := marksNil h
  refine newL (o := [Value.int .u32 in_Host, Value.int .i64 in_Port]) h ?_
  intro b_2 w h
  refine newL (o := [Value.pointer none]) h ?_
  intro b_3 w h
  obtain ⟨Q, hq, hp⟩ := hp
  refine ⟨fun t4 m_2 w => ∃ (x_1 : Option Nat), (Addr.mk b_3 0 none) = t4 ∧ Q x_1 ∧ Mem (cel b_3 82 [Value.pointer (pn x_1)] :: cel b_2 25 [Value.int .u32 in_Host, Value.int .i64 in_Port] :: cel b_1 71 [Value.int .u32 box, Value.int .i64 box_1, Value.int .i64 box_2, Value.int .i64 box_3, Value.int .i64 box_4, Value.int .i64 box_5, Value.int .i64 box_6, Value.slice p_1 list.length c_1, Value.int .i64 now] :: row enc82 82 1 p_1 c_1 list :: marksP m_2 :: FL) w, ?_, ?_⟩
  · rintro t4 m_2 w ⟨x_1, rfl, hp, h⟩
    replace hp := hq x_1 hp
    unfold nN_asked_j1
    refine storeL (ys := [Value.pointer none]) h 0 0 rfl rfl rfl sz82 rfl rfl ?_
    intro w h
    dsimp only [setH, setVs, setV] at h
    replace h := h.pick [4]
    dsimp only [pickL, pickR, nthH, delH, dropH, List.cons_append, List.nil_append] at h
    refine finishMarks _ h ?_
    intro w h
    refine ⟨_, cellL h 0 0 rfl rfl rfl, ?_⟩
    replace h := h.sel [2, 2] 2
    dsimp only [pickL, pickR, nthH, delH, dropH, List.cons_append, List.nil_append] at h
    exact hR (none : Option Nat) _ h hp
  clear hq
  refine ⟨_, cellL h 1 0 rfl rfl rfl, _, cellL h 1 1 rfl rfl rfl, ?_⟩
  replace h := h.pick [3]
  dsimp only [pickL, pickR, nthH, delH, dropH, List.cons_append, List.nil_append] at h
  refine nN_of_ok h hp ?_
  intro Host Port b_4 b_5 w h hp
  refine ⟨_, _, _, rfl, ?_⟩
  intro e_1 fn_e_1 he_e_1 hr_e_1
  refine newO h ?_
  intro d w h
  refine newO h ?_
  intro l_1 w h
  replace h := h.pick [1, 6]
  dsimp only [pickL, pickR, nthH, delH, dropH, List.cons_append, List.nil_append] at h
  replace h := marksPush h
  show rangeCallW _ (Value.func (Fn.func 99) _ _) _ _ _
  refine rangeCallFn (by kernel_rfl) ?_
  replace h := h.pick [1, 4, 4]
  dsimp only [pickL, pickR, nthH, delH, dropH, List.cons_append, List.nil_append] at h
  replace h : Mem ((fun (s : Nat × Option Nat) => HL [pt l_1 (loopS (nN_asked_lo1 fn_e_1 e_1 d) s.1 (fun (n : Nat) => ((if n = 0 then none else (some .ret)) : Option Code))), cel b_3 82 [Value.pointer (pn s.2)], cel b_2 25 [Value.int .u32 in_Host, Value.int .i64 in_Port]]) (0, (none : Option Nat)) :: marksP (d :: []) :: cel b_4 27 [Value.pointer (some (Addr.mk b_1 0 none))] :: cel b_5 25 [Value.int .u32 Host, Value.int .i64 Port] :: cel b_1 71 [Value.int .u32 box, Value.int .i64 box_1, Value.int .i64 box_2, Value.int .i64 box_3, Value.int .i64 box_4, Value.int .i64 box_5, Value.int .i64 box_6, Value.slice p_1 list.length c_1, Value.int .i64 now] :: row enc82 82 1 p_1 c_1 list :: FL) _ := h.pack 3 [pt l_1 (loopS (nN_asked_lo1 fn_e_1 e_1 d) 0 (fun (n : Nat) => ((if n = 0 then none else (some .ret)) : Option Code))), cel b_3 82 [Value.pointer none], cel b_2 25 [Value.int .u32 in_Host, Value.int .i64 in_Port]] rfl
  replace h := h.pick [2, 3, 3, 2, 0]
  dsimp only [pickL, pickR, nthH, delH, dropH, List.cons_append, List.nil_append] at h
  refine nN_of_c1_ok (FL := marksP (d :: []) :: FL) (A0 := (fun (s : Nat × Option Nat) => HL [pt l_1 (loopS (nN_asked_lo1 fn_e_1 e_1 d) s.1 (fun (n : Nat) => ((if n = 0 then none else (some .ret)) : Option Code))), cel b_3 82 [Value.pointer (pn s.2)], cel b_2 25 [Value.int .u32 in_Host, Value.int .i64 in_Port]])) (Y0 := (fun x_3 (s : Nat × Option Nat) K_1 => s.1 = 0 ∧ (∃ (b_6 : Nat), x_3 = some b_6 ∧ (∃ (x_4 : Int × Int × Int × Int × Int × Int × Bool × (List (Int × Int))), getS m_1 b_6 = some x_4 ∧ (cond (x_4.2.2.2.2.2.2.1) (K_1 false (1, x_3)) (K_1 true (0, s.2))))))) (σ0 := Nat × Option Nat) (s := (0, (none : Option Nat))) ?_ (fun b x hx_ => roEm85 (fun w h => (h.drop 1)) (hS85 b x hx_)) h hp ?_
  · intro x_3 s K_1 FL2 w R hx h hp hR
    replace h := h.unpack
    dsimp only [pickL, pickR, nthH, delH, dropH, List.cons_append, List.nil_append] at h
    obtain ⟨hst, hp⟩ := hp
    refine nN_asked_r1_yield (by have := objAt h 0 rfl; rw [hst] at this; exact this) he_e_1 hr_e_1 ?_
    unfold nN_asked_r1
    refine ⟨_, (by have := objAt h 0 rfl; rw [hst] at this; exact this : _ = some (Obj.loop (nN_asked_lo1 fn_e_1 e_1 d))), rfl, ?_⟩
    replace h := h.putK 0 rfl (.loop { nN_asked_lo1 fn_e_1 e_1 d with state := .busy })
    dsimp only [setH] at h
    obtain ⟨b_6, hb_6, hp⟩ := hp
    refine ⟨_, pnSome hb_6, ?_⟩
    obtain ⟨x_4, hx_4, hp⟩ := hp
    obtain ⟨qp7, qc7, hc_qp7, qe0, qe1, qe2, qe3, qe4, qe5, qe6, qe7, hF_qp7, -⟩ := hS85 b_6 x_4 hx_4
    refine ⟨_, qe6 _ (by first | exact hx _ (h.drop 3) | exact Mem.drop 1 (hx _ (h.drop 3)) | exact Mem.drop 2 (hx _ (h.drop 3)) | exact Mem.drop 3 (hx _ (h.drop 3)) | exact Mem.drop 4 (hx _ (h.drop 3)) | exact Mem.drop 5 (hx _ (h.drop 3)) | exact Mem.drop 6 (hx _ (h.drop 3)) | exact Mem.drop 7 (hx _ (h.drop 3)) | exact Mem.drop 8 (hx _ (h.drop 3))), ?_⟩
    refine cond_both' hp (fun hp => ?_) (fun hp => ?_)
    · refine ⟨_, objAt h 0 rfl, ?_⟩
      replace h := h.putK 0 rfl (loopS (nN_asked_lo1 fn_e_1 e_1 d) 0 (fun (n : Nat) => ((if n = 0 then none else (some .ret)) : Option Code)))
      dsimp only [setH] at h
      exact hR true (0, s.2) _ (h.pack 3 [pt l_1 (loopS (nN_asked_lo1 fn_e_1 e_1 d) 0 (fun (n : Nat) => ((if n = 0 then none else (some .ret)) : Option Code))), cel b_3 82 [Value.pointer (pn s.2)], cel b_2 25 [Value.int .u32 in_Host, Value.int .i64 in_Port]] rfl) hp
    refine storeL (ys := [Value.pointer (pn x_3)]) h 1 0 rfl rfl rfl sz82 rfl rfl ?_
    intro w h
    dsimp only [setH, setVs, setV] at h
    refine ⟨_, objAt h 0 rfl, ?_⟩
    replace h := h.putK 0 rfl (loopS (nN_asked_lo1 fn_e_1 e_1 d) 1 (fun (n : Nat) => ((if n = 0 then none else (some .ret)) : Option Code)))
    dsimp only [setH] at h
    exact hR false (1, x_3) _ (h.pack 3 [pt l_1 (loopS (nN_asked_lo1 fn_e_1 e_1 d) 1 (fun (n : Nat) => ((if n = 0 then none else (some .ret)) : Option Code))), cel b_3 82 [Value.pointer (pn x_3)], cel b_2 25 [Value.int .u32 in_Host, Value.int .i64 in_Port]] rfl) hp
  intro s_1 w h hp
  have cpp_1 := rowCap h 2 rfl
  replace h := h.pick [4]
  dsimp only [pickL, pickR, nthH, delH, dropH, List.cons_append, List.nil_append] at h
  replace h := h.unpack
  dsimp only [pickL, pickR, nthH, delH, dropH, List.cons_append, List.nil_append] at h
  refine ⟨_, objAt h 0 rfl, loopS_ns _, ?_⟩
  replace h := h.putK 0 rfl (.loop { nN_asked_lo1 fn_e_1 e_1 d with state := .exhausted, pending := (fun (n : Nat) => ((if n = 0 then none else (some .ret)) : Option Code)) s_1.1 })
  dsimp only [setH] at h
  rcases hp with ⟨hst, hp⟩ | ⟨hst, hp⟩
  · refine Or.inl ?_
    refine ⟨congrArg (fun (n : Nat) => ((if n = 0 then none else (some .ret)) : Option Code)) hst, ?_⟩
    replace h := h.sel [1, 1, 2, 2, 3] 3
    dsimp only [pickL, pickR, nthH, delH, dropH, List.cons_append, List.nil_append] at h
    exact ⟨s_1.2, rfl, hp, h⟩
  · refine Or.inr (?_)
    refine ⟨show (fun (n : Nat) => ((if n = 0 then none else (some .ret)) : Option Code)) s_1.1 = _ from if_neg hst, ?_⟩
    replace h := h.pick [7]
    dsimp only [pickL, pickR, nthH, delH, dropH, List.cons_append, List.nil_append] at h
    refine ⟨(marksPop h).1, ?_⟩
    replace h := (marksPop h).2
    refine ⟨_, cellL h 2 0 rfl rfl rfl, ?_⟩
    replace h := h.sel [5, 5] 6
    dsimp only [pickL, pickR, nthH, delH, dropH, List.cons_append, List.nil_append] at h
    exact hR s_1.2 _ h hp
def nN_Drop_c1_wp (x_1 t : Option Nat) (m_1 : SBX) (K : Bool → Prop) : Prop :=
  (∀ (p_1 q : Nat), x_1 = some p_1 → t = some q → p_1 = q ∨ ((∃ x, getS m_1 p_1 = some x) ∧ ∃ x, getS m_1 q = some x)) ∧ (K (decide (x_1 = t)))
theorem nN_Drop_c1_ok {b_1 : Nat} {x_1 t : Option Nat} {m_1 : SBX} {FL : List HP} {w : World} {K : Bool → Prop} {R : Value → World → Prop}
  (hS85 : ∀ (b : Nat) (x : Int × Int × Int × Int × Int × Int × Bool × (List (Int × Int))), getS m_1 b = some x → roE85 FL b x)
  (h : Mem (cel b_1 82 [Value.pointer (pn t)] :: FL) w) (hp : nN_Drop_c1_wp x_1 t m_1 K)
  (hR : ∀ (r : Bool) (w : World), Mem (cel b_1 82 [Value.pointer (pn t)] :: FL) w → K r → R (Value.bool r) w) :
  CallV Try.prog 89 #[Value.pointer (pn x_1), Value.pointer (some (Addr.mk b_1 0 none))] w R := by
  refine nN_Drop_c1_call ?_
  unfold nN_Drop_c1
  unfold nN_Drop_c1_wp at hp
  refine ⟨_, cellL h 0 0 rfl rfl rfl, ?_⟩
  obtain ⟨hl_p_1, hp⟩ := hp
  refine eqlPO (n := 7) undQ82 sz85 (fun p q e1 e2 => (hl_p_1 p q e1 e2).imp id fun hl => ⟨hl.1.elim fun _ hx => roLive85 (hS85 _ _ hx) _ (h.drop 1), hl.2.elim fun _ hx => roLive85 (hS85 _ _ hx) _ (h.drop 1)⟩) ?_
  refine ⟨_, rfl, ?_⟩
  exact hR (decide (x_1 = t)) _ h hp
def nN_Drop_wp (box box_1 box_2 box_3 box_4 box_5 box_6 : Int) (list : List (Option Nat)) (now now_1 in_Host in_Port : Int) (m_1 : SBX) (K : Bool → List (Option Nat) → Int → Prop) : Prop :=
  nN_on_wp box box_1 box_2 box_3 box_4 box_5 box_6 list now now_1 m_1 (fun (r : Bool) (list_2 : List (Option Nat)) (now_3 : Int) => cond (!r) (K false list_2 now_3) (nN_asked_wp box box_1 box_2 box_3 box_4 box_5 box_6 list_2 now_3 in_Host in_Port m_1 (fun (r_1 : Option Nat) => sDelB_wp list_2 () (fun x_1 s K_1 => nN_Drop_c1_wp x_1 r_1 m_1 (fun (r : Bool) => K_1 r s)) (fun (rs : List (Option Nat)) (s_1 : (Unit)) => K (!(Option.isNone r_1)) rs now_3))))
theorem nN_Drop_ok {b_1 : Nat} {p_1 : Option Addr} {c_1 : Nat} {hd : Nat → Option Addr × Nat} {box box_1 box_2 box_3 box_4 box_5 box_6 : Int} {list : List (Option Nat)} {now now_1 in_Host in_Port : Int} {m_1 : SBX} {FL : List HP} {w : World} {K : Bool → List (Option Nat) → Int → Prop} {R : Value → World → Prop}
  (h : Mem (cel b_1 71 [Value.int .u32 box, Value.int .i64 box_1, Value.int .i64 box_2, Value.int .i64 box_3, Value.int .i64 box_4, Value.int .i64 box_5, Value.int .i64 box_6, Value.slice p_1 list.length c_1, Value.int .i64 now] :: row enc82 82 1 p_1 c_1 list :: stoP stoE85 hd m_1 :: FL) w) (hp : nN_Drop_wp box box_1 box_2 box_3 box_4 box_5 box_6 list now now_1 in_Host in_Port m_1 K)
  (hR : ∀ (r : Bool) (list_1 : List (Option Nat)) (now_2 : Int) (p_2 : Option Addr) (n_1 c_2 : Nat) (w : World), n_1 = list_1.length → Mem (cel b_1 71 [Value.int .u32 box, Value.int .i64 box_1, Value.int .i64 box_2, Value.int .i64 box_3, Value.int .i64 box_4, Value.int .i64 box_5, Value.int .i64 box_6, Value.slice p_2 n_1 c_2, Value.int .i64 now_2] :: row enc82 82 1 p_2 c_2 list_1 :: stoP stoE85 hd m_1 :: FL) w → K r list_1 now_2 → R (Value.bool r) w) :
  CallV Try.prog 71 #[Value.pointer (some (Addr.mk b_1 0 none)), Value.int .i64 now_1, (Value.agg #[Value.int .u32 in_Host, Value.int .i64 in_Port])] w R := by
  refine nN_Drop_call ?_
  unfold nN_Drop
  unfold nN_Drop_wp at hp
  have cpp_1 := rowCap h 1 rfl
  refine newL (o := [Value.int .u32 in_Host, Value.int .i64 in_Port]) h ?_
  intro b_2 w h
  replace h := h.pick [1, 1, 1]
  dsimp only [pickL, pickR, nthH, delH, dropH, List.cons_append, List.nil_append] at h
  refine nN_on_ok h hp ?_
  rintro r list_2 now_3 p_3 n_2 c_3 w rfl h hp
  have cpp_3 := rowCap h 1 rfl
  refine ⟨_, rfl, ?_⟩
  refine cond_both hp (fun hp => ?_) (fun hp => ?_)
  · replace h := h.sel [0, 0, 0] 1
    dsimp only [pickL, pickR, nthH, delH, dropH, List.cons_append, List.nil_append] at h
    exact hR false list_2 now_3 p_3 list_2.length c_3 _ rfl h hp
  refine ⟨_, cellL h 3 0 rfl rfl rfl, _, cellL h 3 1 rfl rfl rfl, ?_⟩
  have hSr85 := stoRo85 (h.drop 2) 0 rfl
  refine nN_asked_ok (FL := stoP stoE85 hd m_1 :: cel b_2 25 [Value.int .u32 in_Host, Value.int .i64 in_Port] :: FL) hSr85 h hp ?_
  intro r_1 w h hp
  have cpp_3 := rowCap h 1 rfl
  refine ⟨_, rfl, ?_⟩
  refine newL (o := [Value.pointer none]) h ?_
  intro b_3 w h
  refine storeL (ys := [Value.pointer (pn r_1)]) h 0 0 rfl rfl rfl sz82 rfl rfl ?_
  intro w h
  dsimp only [setH, setVs, setV] at h
  refine ⟨_, rfl, ?_⟩
  refine ⟨_, _, _, cellL h 1 7 rfl rfl rfl, ?_⟩
  replace h : Mem ((fun (_ : Unit) => HL [cel b_3 82 [Value.pointer (pn r_1)]]) () :: cel b_1 71 [Value.int .u32 box, Value.int .i64 box_1, Value.int .i64 box_2, Value.int .i64 box_3, Value.int .i64 box_4, Value.int .i64 box_5, Value.int .i64 box_6, Value.slice p_3 list_2.length c_3, Value.int .i64 now_3] :: row enc82 82 1 p_3 c_3 list_2 :: stoP stoE85 hd m_1 :: cel b_2 25 [Value.int .u32 in_Host, Value.int .i64 in_Port] :: FL) _ := h.pack 1 [cel b_3 82 [Value.pointer (pn r_1)]] rfl
  replace h := h.pick [2, 0]
  dsimp only [pickL, pickR, nthH, delH, dropH, List.cons_append, List.nil_append] at h
  have hSr85 := stoRo85 (h.drop 2) 1 rfl
  refine sDelB_ok (FL := cel b_1 71 [Value.int .u32 box, Value.int .i64 box_1, Value.int .i64 box_2, Value.int .i64 box_3, Value.int .i64 box_4, Value.int .i64 box_5, Value.int .i64 box_6, Value.slice p_3 list_2.length c_3, Value.int .i64 now_3] :: stoP stoE85 hd m_1 :: cel b_2 25 [Value.int .u32 in_Host, Value.int .i64 in_Port] :: FL) (A1 := (fun (_ : Unit) => HL [cel b_3 82 [Value.pointer (pn r_1)]])) (Y1 := (fun x_1 s K_1 => nN_Drop_c1_wp x_1 r_1 m_1 (fun (r : Bool) => K_1 r s))) (σ1 := Unit) (s_1 := ()) ?_ rfl h hp ?_
  · intro x_1 s K FL2 w R hx h hp hR
    replace h := h.unpack
    dsimp only [pickL, pickR, nthH, delH, dropH, List.cons_append, List.nil_append] at h
    refine calleeFn (by kernel_rfl) ?_
    refine nN_Drop_c1_ok (fun b x hx_ => roEm85 (fun w h => (by first | exact hx _ h | exact hx _ (h.drop 1) | exact hx _ (h.drop 2) | exact hx _ (h.drop 3) | exact hx _ (h.drop 4) | exact hx _ (h.drop 5))) (hSr85 b x hx_)) h hp ?_
    intro r w h hp
    exact hR r s _ (h.pack 1 [cel b_3 82 [Value.pointer (pn r_1)]] rfl) hp
  rintro rs s_1 p_4 n_3 c_4 w rfl h hp
  have cpp_4 := rowCap h 0 rfl
  replace h := h.pick [1]
  dsimp only [pickL, pickR, nthH, delH, dropH, List.cons_append, List.nil_append] at h
  replace h := h.unpack
  dsimp only [pickL, pickR, nthH, delH, dropH, List.cons_append, List.nil_append] at h
  refine ⟨_, _, _, rfl, ?_⟩
  refine ⟨_, rfl, ?_⟩
  refine storeL (ys := [Value.slice p_4 rs.length c_4]) h 2 7 rfl rfl rfl sz69 rfl rfl ?_
  intro w h
  dsimp only [setH, setVs, setV] at h
  refine ⟨_, cellL h 0 0 rfl rfl rfl, ?_⟩
  refine neqPn undP82 ?_
  refine ⟨_, rfl, ?_⟩
  replace h := h.sel [2, 1, 1] 2
  dsimp only [pickL, pickR, nthH, delH, dropH, List.cons_append, List.nil_append] at h
  exact hR (!(Option.isNone r_1)) rs now_3 p_4 rs.length c_4 _ rfl h hp
def gG_drop_wp (box box_1 box_2 box_3 box_4 box_5 box_6 : Int) (list : List (Option Nat)) (now : Int) (g_1 g_2 : Bool) (g_3 boot now_1 : Int) (by_ : BYX) (now_2 in_Host in_Port : Int) (m_1 : SBX) (K : List (Option Nat) → Int → BYX → Prop) : Prop :=
  nN_Drop_wp box box_1 box_2 box_3 box_4 box_5 box_6 list now now_2 in_Host in_Port m_1 (fun (r : Bool) (list_2 : List (Option Nat)) (now_4 : Int) => K list_2 now_4 (mapDel by_ (in_Host, in_Port)))
theorem gG_drop_ok {b_1 b_2 : Nat} {p_1 : Option Addr} {c_1 b_3 : Nat} {p_2 : List MapEntry × Nat} {hd : Nat → Option Addr × Nat} {box box_1 box_2 box_3 box_4 box_5 box_6 : Int} {list : List (Option Nat)} {now : Int} {g_1 g_2 : Bool} {g_3 boot now_1 : Int} {by_ : BYX} {now_2 in_Host in_Port : Int} {m_1 : SBX} {FL : List HP} {w : World} {K : List (Option Nat) → Int → BYX → Prop} {R : Value → World → Prop}
  (h : Mem (cel b_1 75 [Value.pointer (some (Addr.mk b_2 0 none)), Value.bool g_1, Value.bool g_2, Value.int .i64 g_3, Value.int .i64 boot, Value.int .i64 now_1, Value.map (some b_3)] :: cel b_2 71 [Value.int .u32 box, Value.int .i64 box_1, Value.int .i64 box_2, Value.int .i64 box_3, Value.int .i64 box_4, Value.int .i64 box_5, Value.int .i64 box_6, Value.slice p_1 list.length c_1, Value.int .i64 now] :: row enc82 82 1 p_1 c_1 list :: mapQ b_3 va25 va111 p_2 by_ :: stoP stoE85 hd m_1 :: FL) w) (hp : gG_drop_wp box box_1 box_2 box_3 box_4 box_5 box_6 list now g_1 g_2 g_3 boot now_1 by_ now_2 in_Host in_Port m_1 K)
  (hR : ∀ (list_1 : List (Option Nat)) (now_3 : Int) (m_2 : BYX) (p_3 : Option Addr) (n_1 c_2 : Nat) (p_4 : List MapEntry × Nat) (w : World), n_1 = list_1.length → Mem (cel b_1 75 [Value.pointer (some (Addr.mk b_2 0 none)), Value.bool g_1, Value.bool g_2, Value.int .i64 g_3, Value.int .i64 boot, Value.int .i64 now_1, Value.map (some b_3)] :: cel b_2 71 [Value.int .u32 box, Value.int .i64 box_1, Value.int .i64 box_2, Value.int .i64 box_3, Value.int .i64 box_4, Value.int .i64 box_5, Value.int .i64 box_6, Value.slice p_3 n_1 c_2, Value.int .i64 now_3] :: row enc82 82 1 p_3 c_2 list_1 :: mapQ b_3 va25 va111 p_4 m_2 :: stoP stoE85 hd m_1 :: FL) w → K list_1 now_3 m_2 → R undef w) :
  CallV Try.prog 55 #[Value.pointer (some (Addr.mk b_1 0 none)), Value.int .i64 now_2, (Value.agg #[Value.int .u32 in_Host, Value.int .i64 in_Port])] w R := by
  refine gG_drop_call ?_
  unfold gG_drop
  unfold gG_drop_wp at hp
  have cpp_1 := rowCap h 2 rfl
  refine newL (o := [Value.int .u32 in_Host, Value.int .i64 in_Port]) h ?_
  intro b_4 w h
  replace h := h.drew
  refine ⟨_, rfl, ?_⟩
  refine ⟨_, cellL h 1 0 rfl rfl rfl, ?_⟩
  refine ⟨_, cellL h 0 0 rfl rfl rfl, _, cellL h 0 1 rfl rfl rfl, ?_⟩
  replace h := h.pick [2, 2, 3]
  dsimp only [pickL, pickR, nthH, delH, dropH, List.cons_append, List.nil_append] at h
  refine nN_Drop_ok h hp ?_
  rintro r list_2 now_4 p_5 n_2 c_3 w rfl h hp
  have cpp_5 := rowCap h 1 rfl
  refine ⟨_, rfl, ?_⟩
  replace h := h.drew
  refine ⟨_, rfl, ?_⟩
  refine ⟨_, cellL h 4 6 rfl rfl rfl, ?_⟩
  refine ⟨_, cellL h 3 0 rfl rfl rfl, _, cellL h 3 1 rfl rfl rfl, ?_⟩
  refine mapDelG (k := (in_Host, in_Port)) h 5 rfl mu73 kt25 ?_
  intro p_6 w h
  dsimp only [setH, setVs, setV] at h
  refine ⟨rfl, ?_⟩
  replace h := h.sel [4, 0, 0, 2, 0] 1
  dsimp only [pickL, pickR, nthH, delH, dropH, List.cons_append, List.nil_append] at h
  exact hR list_2 now_4 (mapDel by_ (in_Host, in_Port)) p_5 list_2.length c_3 p_6 _ rfl h hp
def nN_at_wp (box box_1 box_2 box_3 box_4 box_5 box_6 : Int) (list : List (Option Nat)) (now port : Int) (m_1 : SBX) (K : Option Nat → Prop) : Prop :=
  ∃ (I : Nat → Int → Prop), (∃ (n_3 : Nat), I n_3 0) ∧ ∀ (n_1 : Nat) (t12 : Int), I n_1 t12 → (cond (decide (t12 < ((list.length : Nat) : Int))) (0 ≤ t12 ∧ (t12 : Int) < ((list.length : Nat) : Int) ∧ (∀ (x_1 : Option Nat), list[Int.toNat t12]? = some x_1 → (∃ (b_2 : Nat), x_1 = some b_2 ∧ (∃ (x_2 : Int × Int × Int × Int × Int × Int × Bool × (List (Int × Int))), getS m_1 b_2 = some x_2 ∧ (cond ((x_2.2.2.2.2.1 : Int) == port) (K x_1) (∃ (n_2 : Nat), n_2 < n_1 ∧ I n_2 (IntKind.wrap .i64 (t12 + 1)))))))) (K (none : Option Nat)))
theorem nN_at_ok {b_1 : Nat} {p_1 : Option Addr} {c_1 : Nat} {box box_1 box_2 box_3 box_4 box_5 box_6 : Int} {list : List (Option Nat)} {now port : Int} {m_1 : SBX} {FL : List HP} {w : World} {K : Option Nat → Prop} {R : Value → World → Prop}
  (hS85 : ∀ (b : Nat) (x : Int × Int × Int × Int × Int × Int × Bool × (List (Int × Int))), getS m_1 b = some x → roE85 FL b x)
  (h : Mem (cel b_1 71 [Value.int .u32 box, Value.int .i64 box_1, Value.int .i64 box_2, Value.int .i64 box_3, Value.int .i64 box_4, Value.int .i64 box_5, Value.int .i64 box_6, Value.slice p_1 list.length c_1, Value.int .i64 now] :: row enc82 82 1 p_1 c_1 list :: FL) w) (hp : nN_at_wp box box_1 box_2 box_3 box_4 box_5 box_6 list now port m_1 K)
  (hR : ∀ (r : Option Nat) (w : World), Mem (cel b_1 71 [Value.int .u32 box, Value.int .i64 box_1, Value.int .i64 box_2, Value.int .i64 box_3, Value.int .i64 box_4, Value.int .i64 box_5, Value.int .i64 box_6, Value.slice p_1 list.length c_1, Value.int .i64 now] :: row enc82 82 1 p_1 c_1 list :: FL) w → K r → R (Value.pointer (pn r)) w) :
  CallV Try.prog 50 #[Value.pointer (some (Addr.mk b_1 0 none)), Value.int .i64 port] w R := by
  refine nN_at_call ?_
  unfold nN_at
  unfold nN_at_wp at hp
  have cpp_1 := rowCap h 1 rfl
  refine ⟨_, rfl, ?_⟩
  refine ⟨_, _, _, cellL h 0 7 rfl rfl rfl, ?_⟩
  obtain ⟨I, ⟨n_3, h0⟩, hq⟩ := hp
  refine ⟨fun n_1 port1 t10p t10l t10c t11 t12 w => port = port1 ∧ p_1 = t10p ∧ list.length = t10l ∧ c_1 = t10c ∧ ((list.length : Nat) : Int) = t11 ∧ I n_1 t12 ∧ Mem (cel b_1 71 [Value.int .u32 box, Value.int .i64 box_1, Value.int .i64 box_2, Value.int .i64 box_3, Value.int .i64 box_4, Value.int .i64 box_5, Value.int .i64 box_6, Value.slice p_1 list.length c_1, Value.int .i64 now] :: row enc82 82 1 p_1 c_1 list :: FL) w, ⟨n_3, rfl, rfl, rfl, rfl, rfl, h0, h⟩, ?_⟩
  clear h0 h
  rintro n_1 port1 t10p t10l t10c t11 t12 w ⟨rfl, rfl, rfl, rfl, rfl, hp, h⟩
  replace hp := hq n_1 t12 hp
  clear hq
  unfold nN_at_l1
  refine cond_both' hp (fun hp => ?_) (fun hp => ?_)
  · exact hR (none : Option Nat) _ h hp
  obtain ⟨ia_1, ja_1, hp⟩ := hp
  obtain ⟨a_1, ha_1⟩ := rdAddr (rowRd h 1 encL82 rfl) rfl ia_1 ja_1
  refine ⟨a_1, ha_1, ia_1, ja_1, ?_⟩
  obtain ⟨x_1, hx_1, hc⟩ := rdCell0 (rowRd h 1 encL82 rfl) ha_1 rfl ia_1 ja_1
  replace hp := hp x_1 hx_1
  refine ⟨_, hc _ rfl, ?_⟩
  obtain ⟨b_2, hb_2, hp⟩ := hp
  refine ⟨_, pnSome hb_2, ?_⟩
  obtain ⟨x_2, hx_2, hp⟩ := hp
  obtain ⟨qp7, qc7, hc_qp7, qe0, qe1, qe2, qe3, qe4, qe5, qe6, qe7, hF_qp7, -⟩ := hS85 b_2 x_2 hx_2
  refine ⟨_, qe4 _ (h.drop 2), ?_⟩
  refine cond_both hp (fun hp => ?_) (fun hp => ?_)
  · exact hR x_1 _ h hp
  obtain ⟨n_2, hn, hp⟩ := hp
  exact ⟨n_2, hn, rfl, rfl, rfl, rfl, rfl, hp, h⟩
def nN_choose_wp (box box_1 box_2 box_3 box_4 box_5 box_6 : Int) (list : List (Option Nat)) (now wish : Int) (m_1 : SBX) (K : Int → Bool → Prop) : Prop :=
  joinP0 (∃ (I : Nat → Int → Prop), (∃ (n_6 : Nat), I n_6 box_1) ∧ ∀ (n_1 : Nat) (port6 : Int), I n_1 port6 → (cond (decide (port6 ≤ box_2)) (∃ (I_1 : Nat → Int → Prop), (∃ (n_5 : Nat), I_1 n_5 0) ∧ ∀ (n_2 : Nat) (t51 : Int), I_1 n_2 t51 → (cond (decide (t51 < ((list.length : Nat) : Int))) (0 ≤ t51 ∧ (t51 : Int) < ((list.length : Nat) : Int) ∧ (∀ (x_1 : Option Nat), list[Int.toNat t51]? = some x_1 → (∃ (b_2 : Nat), x_1 = some b_2 ∧ (∃ (x_2 : Int × Int × Int × Int × Int × Int × Bool × (List (Int × Int))), getS m_1 b_2 = some x_2 ∧ (cond ((x_2.2.2.2.2.1 : Int) == port6) (∃ (n_3 : Nat), n_3 < n_1 ∧ I n_3 (IntKind.wrap .i64 (port6 + 1))) (∃ (n_4 : Nat), n_4 < n_2 ∧ I_1 n_4 (IntKind.wrap .i64 (t51 + 1)))))))) (K port6 true))) (K 0 false))) (fun (Q : Prop) => joinP1 (fun (t30 : Bool) => cond t30 (K wish true) (Q )) (fun (Q_1 : Bool → Prop) => cond (decide (wish ≥ box_1)) (cond (decide (wish ≤ box_2)) (nN_at_wp box box_1 box_2 box_3 box_4 box_5 box_6 list now wish m_1 (fun (r : Option Nat) => Q_1 (Option.isNone r))) (Q_1 false)) (Q_1 false)))
theorem nN_choose_ok {b_1 : Nat} {p_1 : Option Addr} {c_1 : Nat} {box box_1 box_2 box_3 box_4 box_5 box_6 : Int} {list : List (Option Nat)} {now wish : Int} {m_1 : SBX} {FL : List HP} {w : World} {K : Int → Bool → Prop} {R : Value → World → Prop}
  (hS85 : ∀ (b : Nat) (x : Int × Int × Int × Int × Int × Int × Bool × (List (Int × Int))), getS m_1 b = some x → roE85 FL b x)
  (h : Mem (cel b_1 71 [Value.int .u32 box, Value.int .i64 box_1, Value.int .i64 box_2, Value.int .i64 box_3, Value.int .i64 box_4, Value.int .i64 box_5, Value.int .i64 box_6, Value.slice p_1 list.length c_1, Value.int .i64 now] :: row enc82 82 1 p_1 c_1 list :: FL) w) (hp : nN_choose_wp box box_1 box_2 box_3 box_4 box_5 box_6 list now wish m_1 K)
  (hR : ∀ (r : Int) (r_1 : Bool) (w : World), Mem (cel b_1 71 [Value.int .u32 box, Value.int .i64 box_1, Value.int .i64 box_2, Value.int .i64 box_3, Value.int .i64 box_4, Value.int .i64 box_5, Value.int .i64 box_6, Value.slice p_1 list.length c_1, Value.int .i64 now] :: row enc82 82 1 p_1 c_1 list :: FL) w → K r r_1 → R (Value.tuple #[Value.int .i64 r, Value.bool r_1]) w) :
  CallV Try.prog 97 #[Value.pointer (some (Addr.mk b_1 0 none)), Value.int .i64 wish] w R := by
  refine nN_choose_call ?_
  unfold nN_choose
  unfold nN_choose_wp at hp
  have cpp_1 := rowCap h 1 rfl
  obtain ⟨Q, hq, hp⟩ := hp
  refine ⟨fun n0 w => (some (Addr.mk b_1 0 none)) = n0 ∧ Q ∧ Mem (cel b_1 71 [Value.int .u32 box, Value.int .i64 box_1, Value.int .i64 box_2, Value.int .i64 box_3, Value.int .i64 box_4, Value.int .i64 box_5, Value.int .i64 box_6, Value.slice p_1 list.length c_1, Value.int .i64 now] :: row enc82 82 1 p_1 c_1 list :: FL) w, ?_, ?_⟩
  · rintro n0 w ⟨rfl, hp, h⟩
    replace hp := hq  hp
    unfold nN_choose_j1
    refine ⟨_, rfl, ?_⟩
    refine ⟨_, cellL h 0 1 rfl rfl rfl, ?_⟩
    obtain ⟨I, ⟨n_6, h0⟩, hq⟩ := hp
    refine ⟨fun n_1 n0_2 port6 w => (some (Addr.mk b_1 0 none)) = n0_2 ∧ I n_1 port6 ∧ Mem (cel b_1 71 [Value.int .u32 box, Value.int .i64 box_1, Value.int .i64 box_2, Value.int .i64 box_3, Value.int .i64 box_4, Value.int .i64 box_5, Value.int .i64 box_6, Value.slice p_1 list.length c_1, Value.int .i64 now] :: row enc82 82 1 p_1 c_1 list :: FL) w, ⟨n_6, rfl, h0, h⟩, ?_⟩
    clear h0 h
    rintro n_1 n0_2 port6 w ⟨rfl, hp, h⟩
    replace hp := hq n_1 port6 hp
    clear hq
    unfold nN_choose_l2
    refine ⟨_, rfl, ?_⟩
    refine ⟨_, cellL h 0 2 rfl rfl rfl, ?_⟩
    refine cond_both' hp (fun hp => ?_) (fun hp => ?_)
    · exact hR 0 false _ h hp
    refine ⟨_, rfl, ?_⟩
    refine ⟨_, _, _, cellL h 0 7 rfl rfl rfl, ?_⟩
    obtain ⟨I_1, ⟨n_5, h0⟩, hq⟩ := hp
    refine ⟨fun n_2 n0_3 port6_1 t49p t49l t49c t50 t51 w => (some (Addr.mk b_1 0 none)) = n0_3 ∧ port6 = port6_1 ∧ p_1 = t49p ∧ list.length = t49l ∧ c_1 = t49c ∧ ((list.length : Nat) : Int) = t50 ∧ I_1 n_2 t51 ∧ Mem (cel b_1 71 [Value.int .u32 box, Value.int .i64 box_1, Value.int .i64 box_2, Value.int .i64 box_3, Value.int .i64 box_4, Value.int .i64 box_5, Value.int .i64 box_6, Value.slice p_1 list.length c_1, Value.int .i64 now] :: row enc82 82 1 p_1 c_1 list :: FL) w, ⟨n_5, rfl, rfl, rfl, rfl, rfl, rfl, h0, h⟩, ?_⟩
    clear h0 h
    rintro n_2 n0_3 port6_1 t49p t49l t49c t50 t51 w ⟨rfl, rfl, rfl, rfl, rfl, rfl, hp, h⟩
    replace hp := hq n_2 t51 hp
    clear hq
    unfold nN_choose_l3
    refine cond_both' hp (fun hp => ?_) (fun hp => ?_)
    · exact hR port6 true _ h hp
    obtain ⟨ia_1, ja_1, hp⟩ := hp
    obtain ⟨a_1, ha_1⟩ := rdAddr (rowRd h 1 encL82 rfl) rfl ia_1 ja_1
    refine ⟨a_1, ha_1, ia_1, ja_1, ?_⟩
    obtain ⟨x_1, hx_1, hc⟩ := rdCell0 (rowRd h 1 encL82 rfl) ha_1 rfl ia_1 ja_1
    replace hp := hp x_1 hx_1
    refine ⟨_, hc _ rfl, ?_⟩
    obtain ⟨b_2, hb_2, hp⟩ := hp
    refine ⟨_, pnSome hb_2, ?_⟩
    obtain ⟨x_2, hx_2, hp⟩ := hp
    obtain ⟨qp7, qc7, hc_qp7, qe0, qe1, qe2, qe3, qe4, qe5, qe6, qe7, hF_qp7, -⟩ := hS85 b_2 x_2 hx_2
    refine ⟨_, qe4 _ (h.drop 2), ?_⟩
    refine cond_both hp (fun hp => ?_) (fun hp => ?_)
    · obtain ⟨n_3, hn, hp⟩ := hp
      exact ⟨n_3, hn, rfl, hp, h⟩
    obtain ⟨n_4, hn, hp⟩ := hp
    exact ⟨n_4, hn, rfl, rfl, rfl, rfl, rfl, rfl, hp, h⟩
  clear hq
  obtain ⟨Q_1, hq, hp⟩ := hp
  refine ⟨fun n0_1 wish1 t30 w => (some (Addr.mk b_1 0 none)) = n0_1 ∧ wish = wish1 ∧ Q_1 t30 ∧ Mem (cel b_1 71 [Value.int .u32 box, Value.int .i64 box_1, Value.int .i64 box_2, Value.int .i64 box_3, Value.int .i64 box_4, Value.int .i64 box_5, Value.int .i64 box_6, Value.slice p_1 list.length c_1, Value.int .i64 now] :: row enc82 82 1 p_1 c_1 list :: FL) w, ?_, ?_⟩
  · rintro n0_1 wish1 t30 w ⟨rfl, rfl, hp, h⟩
    replace hp := hq t30 hp
    unfold nN_choose_j4
    refine cond_both hp (fun hp => ?_) (fun hp => ?_)
    · exact hR wish true _ h hp
    exact ⟨rfl, hp, h⟩
  clear hq
  refine ⟨_, rfl, ?_⟩
  refine ⟨_, cellL h 0 1 rfl rfl rfl, ?_⟩
  refine cond_both' hp (fun hp => ?_) (fun hp => ?_)
  · exact ⟨rfl, rfl, hp, h⟩
  refine ⟨_, rfl, ?_⟩
  refine ⟨_, cellL h 0 2 rfl rfl rfl, ?_⟩
  refine cond_both' hp (fun hp => ?_) (fun hp => ?_)
  · exact ⟨rfl, rfl, hp, h⟩
  refine nN_at_ok (FL := FL) (fun b x hx_ => roEm85 (fun w h => (h.drop 0)) (hS85 b x hx_)) h hp ?_
  intro r w h hp
  have cpp_1 := rowCap h 1 rfl
  refine ⟨_, rfl, ?_⟩
  refine eqlPn undP82 ?_
  refine ⟨_, rfl, ?_⟩
  exact ⟨rfl, rfl, hp, h⟩
def nN_made_wp (box box_1 box_2 box_3 box_4 box_5 box_6 : Int) (list : List (Option Nat)) (now b_In b_In_1 b_To b_To_1 b_Port b_Until : Int) (b_Asked : Bool) (wish : Int) (m_1 : SBX) (K : Option Nat → Int → List (Option Nat) → SBX → Prop) : Prop :=
  nN_choose_wp box box_1 box_2 box_3 box_4 box_5 box_6 list now wish m_1 (fun (r : Int) (r_1 : Bool) => joinP1 (fun (t31 : Bool) => cond t31 (K (none : Option Nat) 10 list m_1) (∀ (b_3 : Nat), getS m_1 b_3 = none → ((list.length + [(some b_3)].length) * 8 ≤ 140737488355328 ∧ (K (some b_3) 0 (list ++ [(some b_3)]) (putS m_1 b_3 (b_In, b_In_1, b_To, b_To_1, r, b_Until, b_Asked, ([] : List (Int × Int)))))))) (fun (Q : Bool → Prop) => cond (!r_1) (Q true) (Q (decide ((((list.length : Nat) : Int) : Int) ≥ box_6)))))
theorem nN_made_ok {b_1 : Nat} {p_1 : Option Addr} {c_1 : Nat} {hd : Nat → Option Addr × Nat} {box box_1 box_2 box_3 box_4 box_5 box_6 : Int} {list : List (Option Nat)} {now b_In b_In_1 b_To b_To_1 b_Port b_Until : Int} {b_Asked : Bool} {wish : Int} {m_1 : SBX} {FL : List HP} {w : World} {K : Option Nat → Int → List (Option Nat) → SBX → Prop} {R : Value → World → Prop}
  (h : Mem (cel b_1 71 [Value.int .u32 box, Value.int .i64 box_1, Value.int .i64 box_2, Value.int .i64 box_3, Value.int .i64 box_4, Value.int .i64 box_5, Value.int .i64 box_6, Value.slice p_1 list.length c_1, Value.int .i64 now] :: row enc82 82 1 p_1 c_1 list :: stoP stoE85 hd m_1 :: FL) w) (hp : nN_made_wp box box_1 box_2 box_3 box_4 box_5 box_6 list now b_In b_In_1 b_To b_To_1 b_Port b_Until b_Asked wish m_1 K)
  (hR : ∀ (r : Option Nat) (r_1 : Int) (list_1 : List (Option Nat)) (m_2 : SBX) (p_2 : Option Addr) (n_1 c_2 : Nat) (hd_1 : Nat → Option Addr × Nat) (w : World), n_1 = list_1.length → Mem (cel b_1 71 [Value.int .u32 box, Value.int .i64 box_1, Value.int .i64 box_2, Value.int .i64 box_3, Value.int .i64 box_4, Value.int .i64 box_5, Value.int .i64 box_6, Value.slice p_2 n_1 c_2, Value.int .i64 now] :: row enc82 82 1 p_2 c_2 list_1 :: stoP stoE85 hd_1 m_2 :: FL) w → K r r_1 list_1 m_2 → R (Value.tuple #[Value.pointer (pn r), Value.int .i64 r_1]) w) :
  CallV Try.prog 90 #[Value.pointer (some (Addr.mk b_1 0 none)), (Value.agg #[Value.int .u32 b_In, Value.int .i64 b_In_1, Value.int .u32 b_To, Value.int .i64 b_To_1, Value.int .i64 b_Port, Value.int .i64 b_Until, Value.bool b_Asked]), Value.int .i64 wish] w R := by
  refine nN_made_call ?_
  unfold nN_made
  unfold nN_made_wp at hp
  have cpp_1 := rowCap h 1 rfl
  refine newL (o := [Value.int .u32 b_In, Value.int .i64 b_In_1, Value.int .u32 b_To, Value.int .i64 b_To_1, Value.int .i64 b_Port, Value.int .i64 b_Until, Value.bool b_Asked]) h ?_
  intro b_2 w h
  replace h := h.pick [1, 1]
  dsimp only [pickL, pickR, nthH, delH, dropH, List.cons_append, List.nil_append] at h
  have hSr85 := stoRo85 (h.drop 2) 1 rfl
  refine nN_choose_ok (FL := cel b_2 55 [Value.int .u32 b_In, Value.int .i64 b_In_1, Value.int .u32 b_To, Value.int .i64 b_To_1, Value.int .i64 b_Port, Value.int .i64 b_Until, Value.bool b_Asked] :: stoP stoE85 hd m_1 :: FL) hSr85 h hp ?_
  intro r r_1 w h hp
  have cpp_1 := rowCap h 1 rfl
  refine ⟨_, _, rfl, ?_⟩
  refine ⟨_, rfl, ?_⟩
  obtain ⟨Q, hq, hp⟩ := hp
  refine ⟨fun n0 b4 port8 t31 w => (some (Addr.mk b_1 0 none)) = n0 ∧ (Addr.mk b_2 0 none) = b4 ∧ r = port8 ∧ Q t31 ∧ Mem (cel b_1 71 [Value.int .u32 box, Value.int .i64 box_1, Value.int .i64 box_2, Value.int .i64 box_3, Value.int .i64 box_4, Value.int .i64 box_5, Value.int .i64 box_6, Value.slice p_1 list.length c_1, Value.int .i64 now] :: row enc82 82 1 p_1 c_1 list :: cel b_2 55 [Value.int .u32 b_In, Value.int .i64 b_In_1, Value.int .u32 b_To, Value.int .i64 b_To_1, Value.int .i64 b_Port, Value.int .i64 b_Until, Value.bool b_Asked] :: stoP stoE85 hd m_1 :: FL) w, ?_, ?_⟩
  · rintro n0 b4 port8 t31 w ⟨rfl, rfl, rfl, hp, h⟩
    replace hp := hq t31 hp
    unfold nN_made_j1
    refine cond_both hp (fun hp => ?_) (fun hp => ?_)
    · replace h := h.sel [0, 0, 1] 1
      dsimp only [pickL, pickR, nthH, delH, dropH, List.cons_append, List.nil_append] at h
      exact hR (none : Option Nat) 10 list m_1 p_1 list.length c_1 hd _ rfl h hp
    refine storeL (ys := [Value.int .i64 r]) h 2 4 rfl rfl rfl sz3 rfl rfl ?_
    intro w h
    dsimp only [setH, setVs, setV] at h
    refine ⟨_, cellL h 2 0 rfl rfl rfl, _, cellL h 2 1 rfl rfl rfl, _, cellL h 2 2 rfl rfl rfl, _, cellL h 2 3 rfl rfl rfl, _, cellL h 2 4 rfl rfl rfl, _, cellL h 2 5 rfl rfl rfl, _, cellL h 2 6 rfl rfl rfl, ?_⟩
    refine newL (o := [Value.int .u32 b_In, Value.int .i64 b_In_1, Value.int .u32 b_To, Value.int .i64 b_To_1, Value.int .i64 r, Value.int .i64 b_Until, Value.bool b_Asked, Value.slice none 0 0]) h ?_
    intro b_3 w h
    have hf_b_3 := stoFresh stoX85 h 3 rfl
    replace hp := hp b_3 hf_b_3
    replace h := stoFreshen h 4 rfl hf_b_3
    dsimp only [setH] at h
    refine ⟨_, rfl, ?_⟩
    refine ⟨_, _, _, cellL h 1 7 rfl rfl rfl, ?_⟩
    refine newL (o := [Value.pointer (some (Addr.mk b_3 0 none))]) h ?_
    intro b_4 w h
    have sr := (celRd h 0 encL82 rfl [(some b_3)] rfl)
    obtain ⟨hb, hp⟩ := hp
    refine appendL slt69 und69 encL82 encO82 h 3 rfl rfl sr rfl hb ?_
    intro p_3 c_3 w h
    dsimp only [setH, setVs, setV] at h
    have cpp_3 := rowCap h 3 rfl
    refine ⟨_, _, _, rfl, ?_⟩
    refine ⟨_, rfl, ?_⟩
    refine storeL (ys := [Value.slice p_3 (list ++ [(some b_3)]).length c_3]) h 2 7 rfl rfl rfl sz69 rfl rfl ?_
    intro w h
    dsimp only [setH, setVs, setV] at h
    replace h := rowNil enc25 25 2 h
    replace h := h.pick [2, 0]
    dsimp only [pickL, pickR, nthH, delH, dropH, List.cons_append, List.nil_append] at h
    replace h : Mem (stoE85 (none , 0) b_3 (b_In, b_In_1, b_To, b_To_1, r, b_Until, b_Asked, ([] : List (Int × Int))) :: cel b_4 82 [Value.pointer (some (Addr.mk b_3 0 none))] :: cel b_1 71 [Value.int .u32 box, Value.int .i64 box_1, Value.int .i64 box_2, Value.int .i64 box_3, Value.int .i64 box_4, Value.int .i64 box_5, Value.int .i64 box_6, Value.slice p_3 (list ++ [(some b_3)]).length c_3, Value.int .i64 now] :: row enc82 82 1 p_3 c_3 (list ++ [(some b_3)]) :: cel b_2 55 [Value.int .u32 b_In, Value.int .i64 b_In_1, Value.int .u32 b_To, Value.int .i64 b_To_1, Value.int .i64 r, Value.int .i64 b_Until, Value.bool b_Asked] :: stoP stoE85 hd (delS m_1 b_3) :: FL) _ := h.pack 2 [cel b_3 85 [Value.int .u32 b_In, Value.int .i64 b_In_1, Value.int .u32 b_To, Value.int .i64 b_To_1, Value.int .i64 r, Value.int .i64 b_Until, Value.bool b_Asked, Value.slice none  0 0], row enc25 25 2 (none ) 0 ([] : List (Int × Int))] rfl
    replace h := stoClose h 4 (by simp only [List.length_cons]; omega) rfl
    dsimp only [setH] at h
    replace h := h.sel [1, 1, 2] 2
    dsimp only [pickL, pickR, nthH, delH, dropH, List.cons_append, List.nil_append] at h
    exact hR (some b_3) 0 (list ++ [(some b_3)]) (putS m_1 b_3 (b_In, b_In_1, b_To, b_To_1, r, b_Until, b_Asked, ([] : List (Int × Int)))) p_3 ((list ++ [(some b_3)]).length) c_3 (updF hd b_3 (none , 0)) _ rfl h hp
  clear hq
  replace h := h.drew
  refine cond_both hp (fun hp => ?_) (fun hp => ?_)
  · exact ⟨rfl, rfl, rfl, hp, h⟩
  refine ⟨_, rfl, ?_⟩
  refine ⟨_, _, _, cellL h 0 7 rfl rfl rfl, ?_⟩
  refine ⟨rfl, ?_⟩
  refine ⟨_, rfl, ?_⟩
  refine ⟨_, cellL h 0 6 rfl rfl rfl, ?_⟩
  exact ⟨rfl, rfl, rfl, hp, h⟩
end Go.Proofs.Ytnmdnkmemjfoeaa
