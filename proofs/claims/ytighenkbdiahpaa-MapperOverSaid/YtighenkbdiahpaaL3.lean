/- Each function over plain data (printed by a program of this claim's author). -/
import Derived.Test.YtighenkbdiahpaaL2
namespace Go.Proofs.Ytighenkbdiahpaa
open Go Go.Eng Go.Proofs
set_option maxRecDepth 100000
set_option maxHeartbeats 2000000

/-! embrasure/pcp.row (18) -/
def pcp_row_wp (l_Ver : Int) (l_Inside : Int) (l_Port : Int) (l_Secs : Int) (l_Nonce : Int) (l_Result : Int) (l_Epoch : Int) (l_Host : Int) (parts : List ((List (Int)))) (K : List (Int) → Prop) : Prop :=
  slices_Concat_sl_byte_byte_wp parts (fun (rs : List (Int)) => pcp_mapping_wp l_Ver l_Inside l_Port l_Secs l_Nonce l_Result l_Epoch l_Host (fun (rs_1 : List (Int)) => (rs.length + rs_1.length) * 1 ≤ 140737488355328 ∧ (K (rs ++ rs_1))))
theorem pcp_row_ok {p_1 : Option Addr} {n_1 : Nat} {c_1 : Nat} {l_Ver : Int} {l_Inside : Int} {l_Port : Int} {l_Secs : Int} {l_Nonce : Int} {l_Result : Int} {l_Epoch : Int} {l_Host : Int} {parts : List ((List (Int)))} {FL : List HP} {w : World} {K : List (Int) → Prop} {R : Value → World → Prop}
  (hF_parts : ∀ w, Mem FL w → RdD w 1 p_1 (encR38 FL) parts) (hl_parts : n_1 = parts.length) (hc_parts : n_1 ≤ c_1)
  (h : Mem (FL) w) (hp : pcp_row_wp l_Ver l_Inside l_Port l_Secs l_Nonce l_Result l_Epoch l_Host parts K)
  (hR : ∀ (rs : List (Int)) (p_2 : Option Addr) (n_2 : Nat) (c_2 : Nat) (w : World), n_2 = rs.length → Mem (row enc5 5 1 p_2 c_2 rs :: FL) w → K rs → R (Value.slice p_2 n_2 c_2) w) :
  CallV Try.prog 18 #[(Value.agg #[(Value.int .i64 l_Ver), (Value.int .i64 l_Inside), (Value.int .i64 l_Port), (Value.int .i64 l_Secs), (Value.int .u64 l_Nonce), (Value.int .i64 l_Result), (Value.int .i64 l_Epoch), (Value.int .u32 l_Host)]), (Value.slice p_1 n_1 c_1)] w R := by
  refine pcp_row_call ?_
  unfold pcp_row
  unfold pcp_row_wp at hp
  subst hl_parts
  refine newL (o := [(Value.int .i64 l_Ver), (Value.int .i64 l_Inside), (Value.int .i64 l_Port), (Value.int .i64 l_Secs), (Value.int .u64 l_Nonce), (Value.int .i64 l_Result), (Value.int .i64 l_Epoch), (Value.int .u32 l_Host)]) h ?_
  intro b_1 w h
  replace h := h.drew
  refine ⟨fun w => Mem (cel b_1 36 [(Value.int .i64 l_Ver), (Value.int .i64 l_Inside), (Value.int .i64 l_Port), (Value.int .i64 l_Secs), (Value.int .u64 l_Nonce), (Value.int .i64 l_Result), (Value.int .i64 l_Epoch), (Value.int .u32 l_Host)] :: FL) w, (h.sel [0] 0), ?_⟩
  refine ⟨_, cellL h 0 0 rfl rfl rfl, _, cellL h 0 1 rfl rfl rfl, _, cellL h 0 2 rfl rfl rfl, _, cellL h 0 3 rfl rfl rfl, _, cellL h 0 4 rfl rfl rfl, _, cellL h 0 5 rfl rfl rfl, _, cellL h 0 6 rfl rfl rfl, _, cellL h 0 7 rfl rfl rfl, ?_⟩
  refine ⟨?_, ?_⟩
  · intro w h
    change Mem _ _ at h
    refine ⟨_, cellL h 0 0 rfl rfl rfl, _, cellL h 0 1 rfl rfl rfl, _, cellL h 0 2 rfl rfl rfl, _, cellL h 0 3 rfl rfl rfl, _, cellL h 0 4 rfl rfl rfl, _, cellL h 0 5 rfl rfl rfl, _, cellL h 0 6 rfl rfl rfl, _, cellL h 0 7 rfl rfl rfl, ?_⟩
    exact ⟨rfl, rfl⟩
  refine slices_Concat_sl_byte_byte_ok (FL := cel b_1 36 [(Value.int .i64 l_Ver), (Value.int .i64 l_Inside), (Value.int .i64 l_Port), (Value.int .i64 l_Secs), (Value.int .u64 l_Nonce), (Value.int .i64 l_Result), (Value.int .i64 l_Epoch), (Value.int .u32 l_Host)] :: FL) (fun w h => RdD.mono (encRm38 (fun w h => h.drop 1)) (hF_parts _ (h.drop 1))) rfl hc_parts h hp ?_
  rintro rs p_2 n_2 c_2 w rfl h hp
  have cpp_2 := rowCap h 0 rfl
  refine ⟨_, _, _, rfl, ?_⟩
  refine ⟨(h.sel [1] 1), ?_⟩
  refine pcp_mapping_ok h hp ?_
  rintro rs_1 p_3 n_3 c_3 w rfl h hp
  have cpp_3 := rowCap h 0 rfl
  refine ⟨_, _, _, rfl, ?_⟩
  have sr := (rowRd h 0 encL5 rfl)
  obtain ⟨hb, hp⟩ := hp
  refine appendL slt38 und38 encL5 encO5 h 1 rfl rfl sr rfl hb ?_
  intro p_4 c_4 w h
  dsimp only [setH, setVs, setV] at h
  have cpp_4 := rowCap h 1 rfl
  refine ⟨_, _, _, rfl, ?_⟩
  replace h := h.sel [1] 2
  dsimp only [pickL, pickR, nthH, delH, dropH, List.cons_append, List.nil_append] at h
  exact hR (rs ++ rs_1) p_4 ((rs ++ rs_1).length) c_4 _ rfl h hp

/-! embrasure/pcp.Ask (47) -/
def pcp_Ask_wp (l_Ver : Int) (l_Inside : Int) (l_Port : Int) (l_Secs : Int) (l_Nonce : Int) (l_Result : Int) (l_Epoch : Int) (l_Host : Int) (client : Int) (K : List (Int) → Prop) : Prop :=
  joinP1 (fun (t17 : Bool) => cond t17 (K ([] : List (Int))) ((pcp_big_wp (IntKind.wrap .u64 l_Secs) 4 (fun (rs : List (Int)) => pcp_host16_wp client (fun (rs_1 : List (Int)) => pcp_row_wp l_Ver l_Inside l_Port l_Secs l_Nonce l_Result l_Epoch l_Host [[2, 1, 0, 0], rs, rs_1] (fun (rs_2 : List (Int)) => K rs_2)))) ∧ (pcp_big_wp (IntKind.wrap .u64 l_Secs) 4 (fun (rs_3 : List (Int)) => (pcp_host16_wp client (fun (rs_4 : List (Int)) => pcp_row_wp l_Ver l_Inside l_Port l_Secs l_Nonce l_Result l_Epoch l_Host [[2, 1, 0, 0], rs_3, rs_4] (fun (rs_5 : List (Int)) => K rs_5))) ∧ (pcp_host16_wp client (fun (rs_6 : List (Int)) => pcp_row_wp l_Ver l_Inside l_Port l_Secs l_Nonce l_Result l_Epoch l_Host [[2, 1, 0, 0], rs_3, rs_6] (fun (rs_7 : List (Int)) => K rs_7))))))) (fun (Q : Bool → Prop) => pcp_fits_wp l_Ver l_Inside l_Port l_Secs l_Nonce l_Result l_Epoch l_Host (fun (r : Bool) => cond (!r) (Q true) (cond ((l_Result : Int) != 0) (Q true) (Q ((l_Epoch : Int) != 0)))))
theorem pcp_Ask_ok {l_Ver : Int} {l_Inside : Int} {l_Port : Int} {l_Secs : Int} {l_Nonce : Int} {l_Result : Int} {l_Epoch : Int} {l_Host : Int} {client : Int} {FL : List HP} {w : World} {K : List (Int) → Prop} {R : Value → World → Prop}
  (h : Mem (FL) w) (hp : pcp_Ask_wp l_Ver l_Inside l_Port l_Secs l_Nonce l_Result l_Epoch l_Host client K)
  (hR : ∀ (rs : List (Int)) (p_1 : Option Addr) (n_1 : Nat) (c_1 : Nat) (w : World), n_1 = rs.length → Mem (row enc5 5 1 p_1 c_1 rs :: FL) w → K rs → R (Value.slice p_1 n_1 c_1) w) :
  CallV Try.prog 47 #[(Value.agg #[(Value.int .i64 l_Ver), (Value.int .i64 l_Inside), (Value.int .i64 l_Port), (Value.int .i64 l_Secs), (Value.int .u64 l_Nonce), (Value.int .i64 l_Result), (Value.int .i64 l_Epoch), (Value.int .u32 l_Host)]), (Value.int .u32 client)] w R := by
  refine pcp_Ask_call ?_
  unfold pcp_Ask
  unfold pcp_Ask_wp at hp
  refine newL (o := [(Value.int .i64 l_Ver), (Value.int .i64 l_Inside), (Value.int .i64 l_Port), (Value.int .i64 l_Secs), (Value.int .u64 l_Nonce), (Value.int .i64 l_Result), (Value.int .i64 l_Epoch), (Value.int .u32 l_Host)]) h ?_
  intro b_1 w h
  obtain ⟨Q, hq, hp⟩ := hp
  refine ⟨fun client1 l2 t17 w => client = client1 ∧ (Addr.mk b_1 0 none) = l2 ∧ Q t17 ∧ Mem (cel b_1 36 [(Value.int .i64 l_Ver), (Value.int .i64 l_Inside), (Value.int .i64 l_Port), (Value.int .i64 l_Secs), (Value.int .u64 l_Nonce), (Value.int .i64 l_Result), (Value.int .i64 l_Epoch), (Value.int .u32 l_Host)] :: FL) w, ?_, ?_⟩
  · rintro client1 l2 t17 w ⟨rfl, rfl, hp, h⟩
    replace hp := hq t17 hp
    unfold pcp_Ask_j1
    refine cond_both hp (fun hp => ?_) (fun hp => ?_)
    · replace h := rowNil enc5 5 1 h
      replace h := h.sel [0] 1
      dsimp only [pickL, pickR, nthH, delH, dropH, List.cons_append, List.nil_append] at h
      exact hR ([] : List (Int)) (none ) 0 0 _ rfl h hp
    replace h := h.drew
    refine ⟨fun w => Mem (cel b_1 36 [(Value.int .i64 l_Ver), (Value.int .i64 l_Inside), (Value.int .i64 l_Port), (Value.int .i64 l_Secs), (Value.int .u64 l_Nonce), (Value.int .i64 l_Result), (Value.int .i64 l_Epoch), (Value.int .u32 l_Host)] :: FL) w, (h.sel [0] 0), ?_⟩
    refine ⟨_, cellL h 0 0 rfl rfl rfl, _, cellL h 0 1 rfl rfl rfl, _, cellL h 0 2 rfl rfl rfl, _, cellL h 0 3 rfl rfl rfl, _, cellL h 0 4 rfl rfl rfl, _, cellL h 0 5 rfl rfl rfl, _, cellL h 0 6 rfl rfl rfl, _, cellL h 0 7 rfl rfl rfl, ?_⟩
    refine ⟨?_, ?_⟩
    · intro w h
      change Mem _ _ at h
      refine ⟨_, cellL h 0 0 rfl rfl rfl, _, cellL h 0 1 rfl rfl rfl, _, cellL h 0 2 rfl rfl rfl, _, cellL h 0 3 rfl rfl rfl, _, cellL h 0 4 rfl rfl rfl, _, cellL h 0 5 rfl rfl rfl, _, cellL h 0 6 rfl rfl rfl, _, cellL h 0 7 rfl rfl rfl, ?_⟩
      exact ⟨rfl, rfl⟩
    refine ⟨_, cellL h 0 3 rfl rfl rfl, ?_⟩
    refine ⟨?_, ?_⟩
    · intro w h
      change Mem _ _ at h
      refine ⟨_, cellL h 0 3 rfl rfl rfl, ?_⟩
      exact ⟨rfl, rfl⟩
    refine ⟨?_, ?_⟩
    · replace hp := hp.1
      refine newL (o := [(Value.int .u8 2), (Value.int .u8 1), (Value.int .u8 0), (Value.int .u8 0)]) h ?_
      intro b_2 w h
      refine ⟨(h.sel [1] 1), ?_⟩
      refine pcp_big_ok h hp ?_
      rintro rs p_2 n_1 c_1 w rfl h hp
      have cpp_2 := rowCap h 0 rfl
      refine ⟨_, _, _, rfl, ?_⟩
      refine ⟨(h.sel [2] 2), ?_⟩
      refine pcp_host16_ok h hp ?_
      rintro rs_1 p_3 n_2 c_2 w rfl h hp
      have cpp_3 := rowCap h 0 rfl
      refine ⟨_, _, _, rfl, ?_⟩
      refine ⟨(h.sel [3] 3), ?_⟩
      refine newL (o := [(Value.slice (some ⟨b_2, 0, none⟩) 4 4), (Value.slice p_2 rs.length c_1), (Value.slice p_3 rs_1.length c_2)]) h ?_
      intro b_3 w h
      refine ⟨(h.sel [4] 4), ?_⟩
      refine pcp_row_ok (FL := cel b_3 38 [(Value.slice (some ⟨b_2, 0, none⟩) 4 4), (Value.slice p_2 rs.length c_1), (Value.slice p_3 rs_1.length c_2)] :: row enc5 5 1 p_3 c_2 rs_1 :: row enc5 5 1 p_2 c_1 rs :: cel b_2 5 [(Value.int .u8 2), (Value.int .u8 1), (Value.int .u8 0), (Value.int .u8 0)] :: cel b_1 36 [(Value.int .i64 l_Ver), (Value.int .i64 l_Inside), (Value.int .i64 l_Port), (Value.int .i64 l_Secs), (Value.int .u64 l_Nonce), (Value.int .i64 l_Result), (Value.int .i64 l_Epoch), (Value.int .u32 l_Host)] :: FL) (fun w h => celRdD (z := 1) h 0 rfl [[2, 1, 0, 0], rs, rs_1] [[(Value.slice (some ⟨b_2, 0, none⟩) 4 4)], [(Value.slice p_2 rs.length c_1)], [(Value.slice p_3 rs_1.length c_2)]] rfl rfl (Fa2.cons ⟨_, _, _, rfl, rfl, (Nat.le_refl _), (fun w h => (celRd h 3 encL5 rfl [2, 1, 0, 0] rfl))⟩ (Fa2.cons ⟨_, _, _, rfl, rfl, cpp_2, (fun w h => (rowRd h 2 encL5 rfl))⟩ (Fa2.cons ⟨_, _, _, rfl, rfl, cpp_3, (fun w h => (rowRd h 1 encL5 rfl))⟩ Fa2.nil)))) rfl (Nat.le_refl _) h hp ?_
      rintro rs_2 p_4 n_3 c_3 w rfl h hp
      have cpp_4 := rowCap h 0 rfl
      refine ⟨_, _, _, rfl, ?_⟩
      replace h := h.sel [0] 5
      dsimp only [pickL, pickR, nthH, delH, dropH, List.cons_append, List.nil_append] at h
      exact hR rs_2 p_4 rs_2.length c_3 _ rfl h hp
    replace hp := hp.2
    refine pcp_big_ok h hp ?_
    rintro rs_3 p_5 n_4 c_4 w rfl h hp
    have cpp_5 := rowCap h 0 rfl
    refine ⟨_, _, _, rfl, ?_⟩
    refine ⟨(h.sel [1] 1), ?_⟩
    refine ⟨?_, ?_⟩
    · replace hp := hp.1
      refine newL (o := [(Value.int .u8 2), (Value.int .u8 1), (Value.int .u8 0), (Value.int .u8 0)]) h ?_
      intro b_4 w h
      refine ⟨(h.sel [2] 2), ?_⟩
      refine pcp_host16_ok h hp ?_
      rintro rs_4 p_6 n_5 c_5 w rfl h hp
      have cpp_6 := rowCap h 0 rfl
      refine ⟨_, _, _, rfl, ?_⟩
      refine ⟨(h.sel [3] 3), ?_⟩
      refine newL (o := [(Value.slice (some ⟨b_4, 0, none⟩) 4 4), (Value.slice p_5 rs_3.length c_4), (Value.slice p_6 rs_4.length c_5)]) h ?_
      intro b_5 w h
      refine ⟨(h.sel [4] 4), ?_⟩
      refine pcp_row_ok (FL := cel b_5 38 [(Value.slice (some ⟨b_4, 0, none⟩) 4 4), (Value.slice p_5 rs_3.length c_4), (Value.slice p_6 rs_4.length c_5)] :: row enc5 5 1 p_6 c_5 rs_4 :: cel b_4 5 [(Value.int .u8 2), (Value.int .u8 1), (Value.int .u8 0), (Value.int .u8 0)] :: row enc5 5 1 p_5 c_4 rs_3 :: cel b_1 36 [(Value.int .i64 l_Ver), (Value.int .i64 l_Inside), (Value.int .i64 l_Port), (Value.int .i64 l_Secs), (Value.int .u64 l_Nonce), (Value.int .i64 l_Result), (Value.int .i64 l_Epoch), (Value.int .u32 l_Host)] :: FL) (fun w h => celRdD (z := 1) h 0 rfl [[2, 1, 0, 0], rs_3, rs_4] [[(Value.slice (some ⟨b_4, 0, none⟩) 4 4)], [(Value.slice p_5 rs_3.length c_4)], [(Value.slice p_6 rs_4.length c_5)]] rfl rfl (Fa2.cons ⟨_, _, _, rfl, rfl, (Nat.le_refl _), (fun w h => (celRd h 2 encL5 rfl [2, 1, 0, 0] rfl))⟩ (Fa2.cons ⟨_, _, _, rfl, rfl, cpp_5, (fun w h => (rowRd h 3 encL5 rfl))⟩ (Fa2.cons ⟨_, _, _, rfl, rfl, cpp_6, (fun w h => (rowRd h 1 encL5 rfl))⟩ Fa2.nil)))) rfl (Nat.le_refl _) h hp ?_
      rintro rs_5 p_7 n_6 c_6 w rfl h hp
      have cpp_7 := rowCap h 0 rfl
      refine ⟨_, _, _, rfl, ?_⟩
      replace h := h.sel [0] 5
      dsimp only [pickL, pickR, nthH, delH, dropH, List.cons_append, List.nil_append] at h
      exact hR rs_5 p_7 rs_5.length c_6 _ rfl h hp
    replace hp := hp.2
    refine pcp_host16_ok h hp ?_
    rintro rs_6 p_8 n_7 c_7 w rfl h hp
    have cpp_8 := rowCap h 0 rfl
    refine ⟨_, _, _, rfl, ?_⟩
    refine ⟨(h.sel [2] 2), ?_⟩
    refine newL (o := [(Value.int .u8 2), (Value.int .u8 1), (Value.int .u8 0), (Value.int .u8 0)]) h ?_
    intro b_6 w h
    refine ⟨(h.sel [3] 3), ?_⟩
    refine newL (o := [(Value.slice (some ⟨b_6, 0, none⟩) 4 4), (Value.slice p_5 rs_3.length c_4), (Value.slice p_8 rs_6.length c_7)]) h ?_
    intro b_7 w h
    refine ⟨(h.sel [4] 4), ?_⟩
    refine pcp_row_ok (FL := cel b_7 38 [(Value.slice (some ⟨b_6, 0, none⟩) 4 4), (Value.slice p_5 rs_3.length c_4), (Value.slice p_8 rs_6.length c_7)] :: cel b_6 5 [(Value.int .u8 2), (Value.int .u8 1), (Value.int .u8 0), (Value.int .u8 0)] :: row enc5 5 1 p_8 c_7 rs_6 :: row enc5 5 1 p_5 c_4 rs_3 :: cel b_1 36 [(Value.int .i64 l_Ver), (Value.int .i64 l_Inside), (Value.int .i64 l_Port), (Value.int .i64 l_Secs), (Value.int .u64 l_Nonce), (Value.int .i64 l_Result), (Value.int .i64 l_Epoch), (Value.int .u32 l_Host)] :: FL) (fun w h => celRdD (z := 1) h 0 rfl [[2, 1, 0, 0], rs_3, rs_6] [[(Value.slice (some ⟨b_6, 0, none⟩) 4 4)], [(Value.slice p_5 rs_3.length c_4)], [(Value.slice p_8 rs_6.length c_7)]] rfl rfl (Fa2.cons ⟨_, _, _, rfl, rfl, (Nat.le_refl _), (fun w h => (celRd h 1 encL5 rfl [2, 1, 0, 0] rfl))⟩ (Fa2.cons ⟨_, _, _, rfl, rfl, cpp_5, (fun w h => (rowRd h 3 encL5 rfl))⟩ (Fa2.cons ⟨_, _, _, rfl, rfl, cpp_8, (fun w h => (rowRd h 2 encL5 rfl))⟩ Fa2.nil)))) rfl (Nat.le_refl _) h hp ?_
    rintro rs_7 p_9 n_8 c_8 w rfl h hp
    have cpp_9 := rowCap h 0 rfl
    refine ⟨_, _, _, rfl, ?_⟩
    replace h := h.sel [0] 5
    dsimp only [pickL, pickR, nthH, delH, dropH, List.cons_append, List.nil_append] at h
    exact hR rs_7 p_9 rs_7.length c_8 _ rfl h hp
  clear hq
  refine ⟨_, cellL h 0 0 rfl rfl rfl, _, cellL h 0 1 rfl rfl rfl, _, cellL h 0 2 rfl rfl rfl, _, cellL h 0 3 rfl rfl rfl, _, cellL h 0 4 rfl rfl rfl, _, cellL h 0 5 rfl rfl rfl, _, cellL h 0 6 rfl rfl rfl, _, cellL h 0 7 rfl rfl rfl, ?_⟩
  refine pcp_fits_ok h hp ?_
  intro r w h hp
  refine ⟨_, rfl, ?_⟩
  refine cond_both hp (fun hp => ?_) (fun hp => ?_)
  · exact ⟨rfl, rfl, hp, h⟩
  refine ⟨_, cellL h 0 5 rfl rfl rfl, ?_⟩
  refine cond_both hp (fun hp => ?_) (fun hp => ?_)
  · exact ⟨rfl, rfl, hp, h⟩
  refine ⟨_, cellL h 0 6 rfl rfl rfl, ?_⟩
  exact ⟨rfl, rfl, hp, h⟩

/-! embrasure/pmp.fits (55) -/
def pmp_fits_wp (l_Ver : Int) (l_Inside : Int) (l_Port : Int) (l_Secs : Int) (l_Nonce : Int) (l_Result : Int) (l_Epoch : Int) (l_Host : Int) (K : Bool → Prop) : Prop :=
  cond (decide ((l_Inside : Int) ≥ 0)) (cond (decide ((l_Inside : Int) ≤ 65535)) (cond (decide ((l_Port : Int) ≥ 0)) (cond (decide ((l_Port : Int) ≤ 65535)) (cond (decide ((l_Secs : Int) ≥ 0)) (cond (decide ((l_Secs : Int) ≤ 4294967295)) (cond (decide ((l_Result : Int) ≥ 0)) (cond (decide ((l_Result : Int) ≤ 65535)) (cond (decide ((l_Epoch : Int) ≥ 0)) (K (decide ((l_Epoch : Int) ≤ 4294967295))) (K false)) (K false)) (K false)) (K false)) (K false)) (K false)) (K false)) (K false)) (K false)
theorem pmp_fits_ok {l_Ver : Int} {l_Inside : Int} {l_Port : Int} {l_Secs : Int} {l_Nonce : Int} {l_Result : Int} {l_Epoch : Int} {l_Host : Int} {FL : List HP} {w : World} {K : Bool → Prop} {R : Value → World → Prop}
  (h : Mem (FL) w) (hp : pmp_fits_wp l_Ver l_Inside l_Port l_Secs l_Nonce l_Result l_Epoch l_Host K)
  (hR : ∀ (r : Bool) (w : World), Mem (FL) w → K r → R (Value.bool r) w) :
  CallV Try.prog 55 #[(Value.agg #[(Value.int .i64 l_Ver), (Value.int .i64 l_Inside), (Value.int .i64 l_Port), (Value.int .i64 l_Secs), (Value.int .u64 l_Nonce), (Value.int .i64 l_Result), (Value.int .i64 l_Epoch), (Value.int .u32 l_Host)])] w R := by
  refine pmp_fits_call ?_
  unfold pmp_fits
  unfold pmp_fits_wp at hp
  refine newL (o := [(Value.int .i64 l_Ver), (Value.int .i64 l_Inside), (Value.int .i64 l_Port), (Value.int .i64 l_Secs), (Value.int .u64 l_Nonce), (Value.int .i64 l_Result), (Value.int .i64 l_Epoch), (Value.int .u32 l_Host)]) h ?_
  intro b_1 w h
  refine ⟨_, cellL h 0 1 rfl rfl rfl, ?_⟩
  refine cond_both' hp (fun hp => ?_) (fun hp => ?_)
  · replace h := h.sel [] 1
    dsimp only [pickL, pickR, nthH, delH, dropH, List.cons_append, List.nil_append] at h
    exact hR false _ h hp
  refine ⟨_, cellL h 0 1 rfl rfl rfl, ?_⟩
  refine cond_both' hp (fun hp => ?_) (fun hp => ?_)
  · replace h := h.sel [] 1
    dsimp only [pickL, pickR, nthH, delH, dropH, List.cons_append, List.nil_append] at h
    exact hR false _ h hp
  refine ⟨_, cellL h 0 2 rfl rfl rfl, ?_⟩
  refine cond_both' hp (fun hp => ?_) (fun hp => ?_)
  · replace h := h.sel [] 1
    dsimp only [pickL, pickR, nthH, delH, dropH, List.cons_append, List.nil_append] at h
    exact hR false _ h hp
  refine ⟨_, cellL h 0 2 rfl rfl rfl, ?_⟩
  refine cond_both' hp (fun hp => ?_) (fun hp => ?_)
  · replace h := h.sel [] 1
    dsimp only [pickL, pickR, nthH, delH, dropH, List.cons_append, List.nil_append] at h
    exact hR false _ h hp
  refine ⟨_, cellL h 0 3 rfl rfl rfl, ?_⟩
  refine cond_both' hp (fun hp => ?_) (fun hp => ?_)
  · replace h := h.sel [] 1
    dsimp only [pickL, pickR, nthH, delH, dropH, List.cons_append, List.nil_append] at h
    exact hR false _ h hp
  refine ⟨_, cellL h 0 3 rfl rfl rfl, ?_⟩
  refine cond_both' hp (fun hp => ?_) (fun hp => ?_)
  · replace h := h.sel [] 1
    dsimp only [pickL, pickR, nthH, delH, dropH, List.cons_append, List.nil_append] at h
    exact hR false _ h hp
  refine ⟨_, cellL h 0 5 rfl rfl rfl, ?_⟩
  refine cond_both' hp (fun hp => ?_) (fun hp => ?_)
  · replace h := h.sel [] 1
    dsimp only [pickL, pickR, nthH, delH, dropH, List.cons_append, List.nil_append] at h
    exact hR false _ h hp
  refine ⟨_, cellL h 0 5 rfl rfl rfl, ?_⟩
  refine cond_both' hp (fun hp => ?_) (fun hp => ?_)
  · replace h := h.sel [] 1
    dsimp only [pickL, pickR, nthH, delH, dropH, List.cons_append, List.nil_append] at h
    exact hR false _ h hp
  refine ⟨_, cellL h 0 6 rfl rfl rfl, ?_⟩
  refine cond_both' hp (fun hp => ?_) (fun hp => ?_)
  · replace h := h.sel [] 1
    dsimp only [pickL, pickR, nthH, delH, dropH, List.cons_append, List.nil_append] at h
    exact hR false _ h hp
  refine ⟨_, cellL h 0 6 rfl rfl rfl, ?_⟩
  replace h := h.sel [] 1
  dsimp only [pickL, pickR, nthH, delH, dropH, List.cons_append, List.nil_append] at h
  exact hR (decide ((l_Epoch : Int) ≤ 4294967295)) _ h hp

/-! embrasure/pmp.mayAsk (54) -/
def pmp_mayAsk_wp (l_Ver : Int) (l_Inside : Int) (l_Port : Int) (l_Secs : Int) (l_Nonce : Int) (l_Result : Int) (l_Epoch : Int) (l_Host : Int) (host : Bool) (K : Bool → Prop) : Prop :=
  pmp_fits_wp l_Ver l_Inside l_Port l_Secs l_Nonce l_Result l_Epoch l_Host (fun (r : Bool) => cond r (cond (((l_Ver : Int) == 0) && (((l_Inside : Int) == l_Inside) && (((l_Port : Int) == l_Port) && (((l_Secs : Int) == l_Secs) && (((l_Nonce : Int) == 0) && (((l_Result : Int) == 0) && (((l_Epoch : Int) == 0) && (((l_Host : Int) == 0) && true)))))))) (cond (!host) (K true) (K (((l_Ver : Int) == 0) && (((l_Inside : Int) == 0) && (((l_Port : Int) == 0) && (((l_Secs : Int) == 0) && (((l_Nonce : Int) == 0) && (((l_Result : Int) == 0) && (((l_Epoch : Int) == 0) && (((l_Host : Int) == 0) && true)))))))))) (K false)) (K false))
theorem pmp_mayAsk_ok {l_Ver : Int} {l_Inside : Int} {l_Port : Int} {l_Secs : Int} {l_Nonce : Int} {l_Result : Int} {l_Epoch : Int} {l_Host : Int} {host : Bool} {FL : List HP} {w : World} {K : Bool → Prop} {R : Value → World → Prop}
  (h : Mem (FL) w) (hp : pmp_mayAsk_wp l_Ver l_Inside l_Port l_Secs l_Nonce l_Result l_Epoch l_Host host K)
  (hR : ∀ (r : Bool) (w : World), Mem (FL) w → K r → R (Value.bool r) w) :
  CallV Try.prog 54 #[(Value.agg #[(Value.int .i64 l_Ver), (Value.int .i64 l_Inside), (Value.int .i64 l_Port), (Value.int .i64 l_Secs), (Value.int .u64 l_Nonce), (Value.int .i64 l_Result), (Value.int .i64 l_Epoch), (Value.int .u32 l_Host)]), (Value.bool host)] w R := by
  refine pmp_mayAsk_call ?_
  unfold pmp_mayAsk
  unfold pmp_mayAsk_wp at hp
  refine newL (o := [(Value.int .i64 l_Ver), (Value.int .i64 l_Inside), (Value.int .i64 l_Port), (Value.int .i64 l_Secs), (Value.int .u64 l_Nonce), (Value.int .i64 l_Result), (Value.int .i64 l_Epoch), (Value.int .u32 l_Host)]) h ?_
  intro b_1 w h
  refine ⟨_, cellL h 0 1 rfl rfl rfl, ?_⟩
  refine ⟨_, cellL h 0 2 rfl rfl rfl, ?_⟩
  refine ⟨_, cellL h 0 3 rfl rfl rfl, ?_⟩
  refine newL (o := [(Value.int .i64 0), (Value.int .i64 0), (Value.int .i64 0), (Value.int .i64 0), (Value.int .u64 0), (Value.int .i64 0), (Value.int .i64 0), (Value.int .u32 0)]) h ?_
  intro b_2 w h
  refine storeL (ys := [(Value.int .i64 0), (Value.int .i64 l_Inside), (Value.int .i64 l_Port), (Value.int .i64 l_Secs), (Value.int .u64 0), (Value.int .i64 0), (Value.int .i64 0), (Value.int .u32 0)]) h 0 0 rfl rfl rfl sz36 rfl rfl ?_
  intro w h
  dsimp only [setH, setVs, setV] at h
  refine ⟨_, cellL h 1 0 rfl rfl rfl, _, cellL h 1 1 rfl rfl rfl, _, cellL h 1 2 rfl rfl rfl, _, cellL h 1 3 rfl rfl rfl, _, cellL h 1 4 rfl rfl rfl, _, cellL h 1 5 rfl rfl rfl, _, cellL h 1 6 rfl rfl rfl, _, cellL h 1 7 rfl rfl rfl, ?_⟩
  refine pmp_fits_ok h hp ?_
  intro r w h hp
  refine ⟨_, rfl, ?_⟩
  refine cond_both' hp (fun hp => ?_) (fun hp => ?_)
  · replace h := h.sel [] 2
    dsimp only [pickL, pickR, nthH, delH, dropH, List.cons_append, List.nil_append] at h
    exact hR false _ h hp
  refine ⟨_, cellL h 1 0 rfl rfl rfl, _, cellL h 1 1 rfl rfl rfl, _, cellL h 1 2 rfl rfl rfl, _, cellL h 1 3 rfl rfl rfl, _, cellL h 1 4 rfl rfl rfl, _, cellL h 1 5 rfl rfl rfl, _, cellL h 1 6 rfl rfl rfl, _, cellL h 1 7 rfl rfl rfl, ?_⟩
  refine ⟨_, cellL h 0 0 rfl rfl rfl, _, cellL h 0 1 rfl rfl rfl, _, cellL h 0 2 rfl rfl rfl, _, cellL h 0 3 rfl rfl rfl, _, cellL h 0 4 rfl rfl rfl, _, cellL h 0 5 rfl rfl rfl, _, cellL h 0 6 rfl rfl rfl, _, cellL h 0 7 rfl rfl rfl, ?_⟩
  refine eqlAgg (xs := [(Value.int .i64 l_Ver), (Value.int .i64 l_Inside), (Value.int .i64 l_Port), (Value.int .i64 l_Secs), (Value.int .u64 l_Nonce), (Value.int .i64 l_Result), (Value.int .i64 l_Epoch), (Value.int .u32 l_Host)]) (ys := [(Value.int .i64 0), (Value.int .i64 l_Inside), (Value.int .i64 l_Port), (Value.int .i64 l_Secs), (Value.int .u64 0), (Value.int .i64 0), (Value.int .i64 0), (Value.int .u32 0)]) eqG36 eqA36 (eqT36 l_Ver l_Inside l_Port l_Secs l_Nonce l_Result l_Epoch l_Host 0 l_Inside l_Port l_Secs 0 0 0 0) ?_
  refine ⟨_, rfl, ?_⟩
  refine cond_both' hp (fun hp => ?_) (fun hp => ?_)
  · replace h := h.sel [] 2
    dsimp only [pickL, pickR, nthH, delH, dropH, List.cons_append, List.nil_append] at h
    exact hR false _ h hp
  refine cond_both hp (fun hp => ?_) (fun hp => ?_)
  · replace h := h.sel [] 2
    dsimp only [pickL, pickR, nthH, delH, dropH, List.cons_append, List.nil_append] at h
    exact hR true _ h hp
  refine ⟨_, cellL h 1 0 rfl rfl rfl, _, cellL h 1 1 rfl rfl rfl, _, cellL h 1 2 rfl rfl rfl, _, cellL h 1 3 rfl rfl rfl, _, cellL h 1 4 rfl rfl rfl, _, cellL h 1 5 rfl rfl rfl, _, cellL h 1 6 rfl rfl rfl, _, cellL h 1 7 rfl rfl rfl, ?_⟩
  refine eqlAgg (xs := [(Value.int .i64 l_Ver), (Value.int .i64 l_Inside), (Value.int .i64 l_Port), (Value.int .i64 l_Secs), (Value.int .u64 l_Nonce), (Value.int .i64 l_Result), (Value.int .i64 l_Epoch), (Value.int .u32 l_Host)]) (ys := [(Value.int .i64 0), (Value.int .i64 0), (Value.int .i64 0), (Value.int .i64 0), (Value.int .u64 0), (Value.int .i64 0), (Value.int .i64 0), (Value.int .u32 0)]) eqG36 eqA36 (eqT36 l_Ver l_Inside l_Port l_Secs l_Nonce l_Result l_Epoch l_Host 0 0 0 0 0 0 0 0) ?_
  refine ⟨_, rfl, ?_⟩
  replace h := h.sel [] 2
  dsimp only [pickL, pickR, nthH, delH, dropH, List.cons_append, List.nil_append] at h
  exact hR (((l_Ver : Int) == 0) && (((l_Inside : Int) == 0) && (((l_Port : Int) == 0) && (((l_Secs : Int) == 0) && (((l_Nonce : Int) == 0) && (((l_Result : Int) == 0) && (((l_Epoch : Int) == 0) && (((l_Host : Int) == 0) && true)))))))) _ h hp

/-! embrasure/pmp.row (51) -/
def pmp_row_wp (op : Int) (parts : List ((List (Int)))) (K : List (Int) → Prop) : Prop :=
  slices_Concat_sl_byte_byte_wp parts (fun (rs : List (Int)) => ([0, (IntKind.wrap .u8 op)].length + rs.length) * 1 ≤ 140737488355328 ∧ (K ([0, (IntKind.wrap .u8 op)] ++ rs)))
theorem pmp_row_ok {p_1 : Option Addr} {n_1 : Nat} {c_1 : Nat} {op : Int} {parts : List ((List (Int)))} {FL : List HP} {w : World} {K : List (Int) → Prop} {R : Value → World → Prop}
  (hF_parts : ∀ w, Mem FL w → RdD w 1 p_1 (encR38 FL) parts) (hl_parts : n_1 = parts.length) (hc_parts : n_1 ≤ c_1)
  (h : Mem (FL) w) (hp : pmp_row_wp op parts K)
  (hR : ∀ (rs : List (Int)) (p_2 : Option Addr) (n_2 : Nat) (c_2 : Nat) (w : World), n_2 = rs.length → Mem (row enc5 5 1 p_2 c_2 rs :: FL) w → K rs → R (Value.slice p_2 n_2 c_2) w) :
  CallV Try.prog 51 #[(Value.int .i64 op), (Value.slice p_1 n_1 c_1)] w R := by
  refine pmp_row_call ?_
  unfold pmp_row
  unfold pmp_row_wp at hp
  subst hl_parts
  refine newL (o := [(Value.int .u8 0), (Value.int .u8 (IntKind.wrap .u8 op))]) h ?_
  intro b_1 w h
  refine slices_Concat_sl_byte_byte_ok (FL := cel b_1 5 [(Value.int .u8 0), (Value.int .u8 (IntKind.wrap .u8 op))] :: FL) (fun w h => RdD.mono (encRm38 (fun w h => h.drop 1)) (hF_parts _ (h.drop 1))) rfl hc_parts h hp ?_
  rintro rs p_2 n_2 c_2 w rfl h hp
  have cpp_2 := rowCap h 0 rfl
  refine ⟨_, _, _, rfl, ?_⟩
  have sr := (rowRd h 0 encL5 rfl)
  replace h := rowOfCel h 1 encL5 rfl [0, (IntKind.wrap .u8 op)] rfl
  dsimp only [setH, setVs, setV] at h
  obtain ⟨hb, hp⟩ := hp
  refine appendL slt38 und38 encL5 encO5 h 1 rfl rfl sr rfl hb ?_
  intro p_3 c_3 w h
  dsimp only [setH, setVs, setV] at h
  have cpp_3 := rowCap h 1 rfl
  refine ⟨_, _, _, rfl, ?_⟩
  replace h := h.sel [1] 1
  dsimp only [pickL, pickR, nthH, delH, dropH, List.cons_append, List.nil_append] at h
  exact hR ([0, (IntKind.wrap .u8 op)] ++ rs) p_3 (([0, (IntKind.wrap .u8 op)] ++ rs).length) c_3 _ rfl h hp

/-! embrasure/pmp.short (52) -/
def pmp_short_wp (n_1 : Int) (K : List (Int) → Prop) : Prop :=
  K [(IntKind.wrap .u8 (Int.fdiv n_1 (2 ^ (min (Int.toNat 8) (IntKind.bits .i64))))), (IntKind.wrap .u8 n_1)]
theorem pmp_short_ok {n_1 : Int} {FL : List HP} {w : World} {K : List (Int) → Prop} {R : Value → World → Prop}
  (h : Mem (FL) w) (hp : pmp_short_wp n_1 K)
  (hR : ∀ (rs : List (Int)) (p_1 : Option Addr) (n_2 : Nat) (c_1 : Nat) (w : World), n_2 = rs.length → Mem (row enc5 5 1 p_1 c_1 rs :: FL) w → K rs → R (Value.slice p_1 n_2 c_1) w) :
  CallV Try.prog 52 #[(Value.int .i64 n_1)] w R := by
  refine pmp_short_call ?_
  unfold pmp_short
  unfold pmp_short_wp at hp
  refine ⟨by decide, ?_⟩
  refine newL (o := [(Value.int .u8 (IntKind.wrap .u8 (Int.fdiv n_1 (2 ^ (min (Int.toNat 8) (IntKind.bits .i64)))))), (Value.int .u8 (IntKind.wrap .u8 n_1))]) h ?_
  intro b_1 w h
  replace h := rowOfCel h 0 encL5 rfl [(IntKind.wrap .u8 (Int.fdiv n_1 (2 ^ (min (Int.toNat 8) (IntKind.bits .i64))))), (IntKind.wrap .u8 n_1)] rfl
  dsimp only [setH, setVs, setV] at h
  exact hR [(IntKind.wrap .u8 (Int.fdiv n_1 (2 ^ (min (Int.toNat 8) (IntKind.bits .i64))))), (IntKind.wrap .u8 n_1)] (some ⟨b_1, 0, none⟩) 2 2 _ rfl h hp

/-! embrasure/pmp.long (53) -/
def pmp_long_wp (n_1 : Int) (K : List (Int) → Prop) : Prop :=
  pmp_short_wp (Int.fdiv n_1 (2 ^ (min (Int.toNat 16) (IntKind.bits .i64)))) (fun (rs : List (Int)) => pmp_short_wp n_1 (fun (rs_1 : List (Int)) => (rs.length + rs_1.length) * 1 ≤ 140737488355328 ∧ (K (rs ++ rs_1))))
theorem pmp_long_ok {n_1 : Int} {FL : List HP} {w : World} {K : List (Int) → Prop} {R : Value → World → Prop}
  (h : Mem (FL) w) (hp : pmp_long_wp n_1 K)
  (hR : ∀ (rs : List (Int)) (p_1 : Option Addr) (n_2 : Nat) (c_1 : Nat) (w : World), n_2 = rs.length → Mem (row enc5 5 1 p_1 c_1 rs :: FL) w → K rs → R (Value.slice p_1 n_2 c_1) w) :
  CallV Try.prog 53 #[(Value.int .i64 n_1)] w R := by
  refine pmp_long_call ?_
  unfold pmp_long
  unfold pmp_long_wp at hp
  refine ⟨by decide, ?_⟩
  refine pmp_short_ok h hp ?_
  rintro rs p_1 n_2 c_1 w rfl h hp
  have cpp_1 := rowCap h 0 rfl
  refine ⟨_, _, _, rfl, ?_⟩
  refine pmp_short_ok h hp ?_
  rintro rs_1 p_2 n_3 c_2 w rfl h hp
  have cpp_2 := rowCap h 0 rfl
  refine ⟨_, _, _, rfl, ?_⟩
  have sr := (rowRd h 0 encL5 rfl)
  obtain ⟨hb, hp⟩ := hp
  refine appendL slt38 und38 encL5 encO5 h 1 rfl rfl sr rfl hb ?_
  intro p_3 c_3 w h
  dsimp only [setH, setVs, setV] at h
  have cpp_3 := rowCap h 1 rfl
  refine ⟨_, _, _, rfl, ?_⟩
  replace h := h.sel [1] 1
  dsimp only [pickL, pickR, nthH, delH, dropH, List.cons_append, List.nil_append] at h
  exact hR (rs ++ rs_1) p_3 ((rs ++ rs_1).length) c_3 _ rfl h hp

/-! embrasure/pmp.Ask (48) -/
def pmp_Ask_wp (l_Ver : Int) (l_Inside : Int) (l_Port : Int) (l_Secs : Int) (l_Nonce : Int) (l_Result : Int) (l_Epoch : Int) (l_Host : Int) (host : Bool) (K : List (Int) → Prop) : Prop :=
  pmp_mayAsk_wp l_Ver l_Inside l_Port l_Secs l_Nonce l_Result l_Epoch l_Host host (fun (r : Bool) => cond (!r) (K ([] : List (Int))) (cond host (pmp_row_wp 0 ([] : List ((List (Int)))) (fun (rs : List (Int)) => K rs)) (pmp_short_wp 0 (fun (rs_1 : List (Int)) => pmp_short_wp l_Inside (fun (rs_2 : List (Int)) => pmp_short_wp l_Port (fun (rs_3 : List (Int)) => pmp_long_wp l_Secs (fun (rs_4 : List (Int)) => pmp_row_wp 1 [rs_1, rs_2, rs_3, rs_4] (fun (rs_5 : List (Int)) => K rs_5))))))))
theorem pmp_Ask_ok {l_Ver : Int} {l_Inside : Int} {l_Port : Int} {l_Secs : Int} {l_Nonce : Int} {l_Result : Int} {l_Epoch : Int} {l_Host : Int} {host : Bool} {FL : List HP} {w : World} {K : List (Int) → Prop} {R : Value → World → Prop}
  (h : Mem (FL) w) (hp : pmp_Ask_wp l_Ver l_Inside l_Port l_Secs l_Nonce l_Result l_Epoch l_Host host K)
  (hR : ∀ (rs : List (Int)) (p_1 : Option Addr) (n_1 : Nat) (c_1 : Nat) (w : World), n_1 = rs.length → Mem (row enc5 5 1 p_1 c_1 rs :: FL) w → K rs → R (Value.slice p_1 n_1 c_1) w) :
  CallV Try.prog 48 #[(Value.agg #[(Value.int .i64 l_Ver), (Value.int .i64 l_Inside), (Value.int .i64 l_Port), (Value.int .i64 l_Secs), (Value.int .u64 l_Nonce), (Value.int .i64 l_Result), (Value.int .i64 l_Epoch), (Value.int .u32 l_Host)]), (Value.bool host)] w R := by
  refine pmp_Ask_call ?_
  unfold pmp_Ask
  unfold pmp_Ask_wp at hp
  refine newL (o := [(Value.int .i64 l_Ver), (Value.int .i64 l_Inside), (Value.int .i64 l_Port), (Value.int .i64 l_Secs), (Value.int .u64 l_Nonce), (Value.int .i64 l_Result), (Value.int .i64 l_Epoch), (Value.int .u32 l_Host)]) h ?_
  intro b_1 w h
  refine ⟨_, cellL h 0 0 rfl rfl rfl, _, cellL h 0 1 rfl rfl rfl, _, cellL h 0 2 rfl rfl rfl, _, cellL h 0 3 rfl rfl rfl, _, cellL h 0 4 rfl rfl rfl, _, cellL h 0 5 rfl rfl rfl, _, cellL h 0 6 rfl rfl rfl, _, cellL h 0 7 rfl rfl rfl, ?_⟩
  refine pmp_mayAsk_ok h hp ?_
  intro r w h hp
  refine ⟨_, rfl, ?_⟩
  refine cond_both hp (fun hp => ?_) (fun hp => ?_)
  · replace h := rowNil enc5 5 1 h
    replace h := h.sel [0] 1
    dsimp only [pickL, pickR, nthH, delH, dropH, List.cons_append, List.nil_append] at h
    exact hR ([] : List (Int)) (none ) 0 0 _ rfl h hp
  refine cond_both hp (fun hp => ?_) (fun hp => ?_)
  · refine pmp_row_ok (FL := cel b_1 36 [(Value.int .i64 l_Ver), (Value.int .i64 l_Inside), (Value.int .i64 l_Port), (Value.int .i64 l_Secs), (Value.int .u64 l_Nonce), (Value.int .i64 l_Result), (Value.int .i64 l_Epoch), (Value.int .u32 l_Host)] :: FL) (fun w h => RdD.nil) rfl (Nat.le_refl _) h hp ?_
    rintro rs p_2 n_1 c_1 w rfl h hp
    have cpp_2 := rowCap h 0 rfl
    refine ⟨_, _, _, rfl, ?_⟩
    replace h := h.sel [0] 1
    dsimp only [pickL, pickR, nthH, delH, dropH, List.cons_append, List.nil_append] at h
    exact hR rs p_2 rs.length c_1 _ rfl h hp
  replace h := h.drew
  refine ⟨fun w => Mem (cel b_1 36 [(Value.int .i64 l_Ver), (Value.int .i64 l_Inside), (Value.int .i64 l_Port), (Value.int .i64 l_Secs), (Value.int .u64 l_Nonce), (Value.int .i64 l_Result), (Value.int .i64 l_Epoch), (Value.int .u32 l_Host)] :: FL) w, (h.sel [0] 0), ?_⟩
  refine ⟨_, cellL h 0 1 rfl rfl rfl, ?_⟩
  refine ⟨?_, ?_⟩
  · intro w h
    change Mem _ _ at h
    refine ⟨_, cellL h 0 1 rfl rfl rfl, ?_⟩
    exact ⟨rfl, rfl⟩
  refine ⟨_, cellL h 0 2 rfl rfl rfl, ?_⟩
  refine ⟨?_, ?_⟩
  · intro w h
    change Mem _ _ at h
    refine ⟨_, cellL h 0 2 rfl rfl rfl, ?_⟩
    exact ⟨rfl, rfl⟩
  refine ⟨_, cellL h 0 3 rfl rfl rfl, ?_⟩
  refine ⟨?_, ?_⟩
  · intro w h
    change Mem _ _ at h
    refine ⟨_, cellL h 0 3 rfl rfl rfl, ?_⟩
    exact ⟨rfl, rfl⟩
  refine pmp_short_ok h hp ?_
  rintro rs_1 p_3 n_2 c_2 w rfl h hp
  have cpp_3 := rowCap h 0 rfl
  refine ⟨_, _, _, rfl, ?_⟩
  refine ⟨(h.sel [1] 1), ?_⟩
  refine pmp_short_ok h hp ?_
  rintro rs_2 p_4 n_3 c_3 w rfl h hp
  have cpp_4 := rowCap h 0 rfl
  refine ⟨_, _, _, rfl, ?_⟩
  refine ⟨(h.sel [2] 2), ?_⟩
  refine pmp_short_ok h hp ?_
  rintro rs_3 p_5 n_4 c_4 w rfl h hp
  have cpp_5 := rowCap h 0 rfl
  refine ⟨_, _, _, rfl, ?_⟩
  refine ⟨(h.sel [3] 3), ?_⟩
  refine pmp_long_ok h hp ?_
  rintro rs_4 p_6 n_5 c_5 w rfl h hp
  have cpp_6 := rowCap h 0 rfl
  refine ⟨_, _, _, rfl, ?_⟩
  refine newL (o := [(Value.slice p_3 rs_1.length c_2), (Value.slice p_4 rs_2.length c_3), (Value.slice p_5 rs_3.length c_4), (Value.slice p_6 rs_4.length c_5)]) h ?_
  intro b_2 w h
  refine pmp_row_ok (FL := cel b_2 38 [(Value.slice p_3 rs_1.length c_2), (Value.slice p_4 rs_2.length c_3), (Value.slice p_5 rs_3.length c_4), (Value.slice p_6 rs_4.length c_5)] :: row enc5 5 1 p_6 c_5 rs_4 :: row enc5 5 1 p_5 c_4 rs_3 :: row enc5 5 1 p_4 c_3 rs_2 :: row enc5 5 1 p_3 c_2 rs_1 :: cel b_1 36 [(Value.int .i64 l_Ver), (Value.int .i64 l_Inside), (Value.int .i64 l_Port), (Value.int .i64 l_Secs), (Value.int .u64 l_Nonce), (Value.int .i64 l_Result), (Value.int .i64 l_Epoch), (Value.int .u32 l_Host)] :: FL) (fun w h => celRdD (z := 1) h 0 rfl [rs_1, rs_2, rs_3, rs_4] [[(Value.slice p_3 rs_1.length c_2)], [(Value.slice p_4 rs_2.length c_3)], [(Value.slice p_5 rs_3.length c_4)], [(Value.slice p_6 rs_4.length c_5)]] rfl rfl (Fa2.cons ⟨_, _, _, rfl, rfl, cpp_3, (fun w h => (rowRd h 4 encL5 rfl))⟩ (Fa2.cons ⟨_, _, _, rfl, rfl, cpp_4, (fun w h => (rowRd h 3 encL5 rfl))⟩ (Fa2.cons ⟨_, _, _, rfl, rfl, cpp_5, (fun w h => (rowRd h 2 encL5 rfl))⟩ (Fa2.cons ⟨_, _, _, rfl, rfl, cpp_6, (fun w h => (rowRd h 1 encL5 rfl))⟩ Fa2.nil))))) rfl (Nat.le_refl _) h hp ?_
  rintro rs_5 p_7 n_6 c_6 w rfl h hp
  have cpp_7 := rowCap h 0 rfl
  refine ⟨_, _, _, rfl, ?_⟩
  replace h := h.sel [0] 6
  dsimp only [pickL, pickR, nthH, delH, dropH, List.cons_append, List.nil_append] at h
  exact hR rs_5 p_7 rs_5.length c_6 _ rfl h hp

/-! (*embrasure/mapper.Mapper).request (33) -/
def mapper_Mapper_request_wp (s : Int) (s_1 : Int) (s_2 : Int) (s_3 : Int) (s_4 : Int) (s_5 : Int) (s_6 : Int) (s_7 : Int) (host : Int) (secs : Int) (nonce : Int) (wish : Int) (wish_1 : Int) (outside : Int) (now : Int) (epoch : Int) (epochAt : Int) (hasEpoch : Bool) (secs_1 : Int) (m_1 : List ((Option Addr × Nat × Nat) × List (Int))) (K : List ((Option Addr × Nat × Nat)) → List ((Option Addr × Nat × Nat) × List (Int)) → Prop) : Prop :=
  cond ((s_1 : Int) == 2) (pcp_Ask_wp 2 s_2 wish_1 secs_1 nonce 0 0 wish host (fun (rs : List (Int)) => ∀ (hd : Option Addr × Nat × Nat), hd.2.1 = rs.length → (K [hd] (m_1 ++ [(hd, rs)])))) (pmp_Ask_wp 0 s_2 wish_1 secs_1 0 0 0 0 false (fun (rs_1 : List (Int)) => cond ((secs_1 : Int) == 0) (∀ (hd_1 : Option Addr × Nat × Nat), hd_1.2.1 = rs_1.length → (K [hd_1] (m_1 ++ [(hd_1, rs_1)]))) (pmp_Ask_wp 0 0 0 0 0 0 0 0 true (fun (rs_2 : List (Int)) => ∀ (hd_2 : Option Addr × Nat × Nat), hd_2.2.1 = rs_2.length → (∀ (hd_3 : Option Addr × Nat × Nat), hd_3.2.1 = rs_1.length → (K [hd_2, hd_3] ((m_1 ++ [(hd_2, rs_2)]) ++ [(hd_3, rs_1)])))))))
theorem mapper_Mapper_request_ok {b_1 : Nat} {s : Int} {s_1 : Int} {s_2 : Int} {s_3 : Int} {s_4 : Int} {s_5 : Int} {s_6 : Int} {s_7 : Int} {host : Int} {secs : Int} {nonce : Int} {wish : Int} {wish_1 : Int} {outside : Int} {now : Int} {epoch : Int} {epochAt : Int} {hasEpoch : Bool} {secs_1 : Int} {m_1 : List ((Option Addr × Nat × Nat) × List (Int))} {FL : List HP} {w : World} {K : List ((Option Addr × Nat × Nat)) → List ((Option Addr × Nat × Nat) × List (Int)) → Prop} {R : Value → World → Prop}
  (h : Mem (cel b_1 47 [(Value.int .i64 s), (Value.int .i64 s_1), (Value.int .i64 s_2), (Value.int .u32 s_3), (Value.int .i64 s_4), (Value.int .i64 s_5), (Value.int .i64 s_6), (Value.int .i64 s_7), (Value.int .u32 host), (Value.int .i64 secs), (Value.int .u64 nonce), (Value.int .u32 wish), (Value.int .i64 wish_1), (Value.int .u32 outside), (Value.int .i64 now), (Value.int .i64 epoch), (Value.int .i64 epochAt), (Value.bool hasEpoch)] :: poolP enc5 5 1 m_1 :: FL) w) (hp : mapper_Mapper_request_wp s s_1 s_2 s_3 s_4 s_5 s_6 s_7 host secs nonce wish wish_1 outside now epoch epochAt hasEpoch secs_1 m_1 K)
  (hR : ∀ (rs : List ((Option Addr × Nat × Nat))) (m_2 : List ((Option Addr × Nat × Nat) × List (Int))) (p_1 : Option Addr) (n_1 : Nat) (c_1 : Nat) (w : World), n_1 = rs.length → Mem (row enc38 38 1 p_1 c_1 rs :: cel b_1 47 [(Value.int .i64 s), (Value.int .i64 s_1), (Value.int .i64 s_2), (Value.int .u32 s_3), (Value.int .i64 s_4), (Value.int .i64 s_5), (Value.int .i64 s_6), (Value.int .i64 s_7), (Value.int .u32 host), (Value.int .i64 secs), (Value.int .u64 nonce), (Value.int .u32 wish), (Value.int .i64 wish_1), (Value.int .u32 outside), (Value.int .i64 now), (Value.int .i64 epoch), (Value.int .i64 epochAt), (Value.bool hasEpoch)] :: poolP enc5 5 1 m_2 :: FL) w → K rs m_2 → R (Value.slice p_1 n_1 c_1) w) :
  CallV Try.prog 33 #[(Value.pointer (some (Addr.mk b_1 0 none))), (Value.int .i64 secs_1)] w R := by
  refine mapper_Mapper_request_call ?_
  unfold mapper_Mapper_request
  unfold mapper_Mapper_request_wp at hp
  refine ⟨_, rfl, ?_⟩
  refine ⟨_, cellL h 0 1 rfl rfl rfl, ?_⟩
  refine cond_both hp (fun hp => ?_) (fun hp => ?_)
  · replace h := h.drew
    refine ⟨_, rfl, ?_⟩
    refine ⟨_, cellL h 0 2 rfl rfl rfl, ?_⟩
    refine ⟨_, rfl, ?_⟩
    refine ⟨_, cellL h 0 12 rfl rfl rfl, ?_⟩
    refine ⟨_, rfl, ?_⟩
    refine ⟨_, cellL h 0 11 rfl rfl rfl, ?_⟩
    refine ⟨_, rfl, ?_⟩
    refine ⟨_, cellL h 0 10 rfl rfl rfl, ?_⟩
    refine ⟨_, rfl, ?_⟩
    refine ⟨_, cellL h 0 8 rfl rfl rfl, ?_⟩
    refine pcp_Ask_ok h hp ?_
    rintro rs p_1 n_1 c_1 w rfl h hp
    have cpp_1 := rowCap h 0 rfl
    refine ⟨_, _, _, rfl, ?_⟩
    replace h := h.pick [0, 1]
    dsimp only [pickL, pickR, nthH, delH, dropH, List.cons_append, List.nil_append] at h
    let hd : Hd := (p_1, rs.length, c_1)
    replace hp := hp hd rfl
    replace h : Mem (poolP enc5 5 1 (m_1 ++ [(hd, rs)]) :: cel b_1 47 [(Value.int .i64 s), (Value.int .i64 s_1), (Value.int .i64 s_2), (Value.int .u32 s_3), (Value.int .i64 s_4), (Value.int .i64 s_5), (Value.int .i64 s_6), (Value.int .i64 s_7), (Value.int .u32 host), (Value.int .i64 secs), (Value.int .u64 nonce), (Value.int .u32 wish), (Value.int .i64 wish_1), (Value.int .u32 outside), (Value.int .i64 now), (Value.int .i64 epoch), (Value.int .i64 epochAt), (Value.bool hasEpoch)] :: FL) _ := poolPush h
    refine newL (o := [(Value.slice hd.1 hd.2.1 hd.2.2)]) h ?_
    intro b_2 w h
    replace h := rowOfCel h 0 encL38 rfl [hd] rfl
    dsimp only [setH, setVs, setV] at h
    replace h := h.sel [0, 1, 0] 0
    dsimp only [pickL, pickR, nthH, delH, dropH, List.cons_append, List.nil_append] at h
    exact hR [hd] (m_1 ++ [(hd, rs)]) (some ⟨b_2, 0, none⟩) 1 1 _ rfl h hp
  replace h := h.drew
  refine ⟨_, rfl, ?_⟩
  refine ⟨_, cellL h 0 2 rfl rfl rfl, ?_⟩
  refine ⟨_, rfl, ?_⟩
  refine ⟨_, cellL h 0 12 rfl rfl rfl, ?_⟩
  refine pmp_Ask_ok h hp ?_
  rintro rs_1 p_2 n_2 c_2 w rfl h hp
  have cpp_2 := rowCap h 0 rfl
  refine ⟨_, _, _, rfl, ?_⟩
  refine cond_both hp (fun hp => ?_) (fun hp => ?_)
  · replace h := h.pick [0, 1]
    dsimp only [pickL, pickR, nthH, delH, dropH, List.cons_append, List.nil_append] at h
    let hd_1 : Hd := (p_2, rs_1.length, c_2)
    replace hp := hp hd_1 rfl
    replace h : Mem (poolP enc5 5 1 (m_1 ++ [(hd_1, rs_1)]) :: cel b_1 47 [(Value.int .i64 s), (Value.int .i64 s_1), (Value.int .i64 s_2), (Value.int .u32 s_3), (Value.int .i64 s_4), (Value.int .i64 s_5), (Value.int .i64 s_6), (Value.int .i64 s_7), (Value.int .u32 host), (Value.int .i64 secs), (Value.int .u64 nonce), (Value.int .u32 wish), (Value.int .i64 wish_1), (Value.int .u32 outside), (Value.int .i64 now), (Value.int .i64 epoch), (Value.int .i64 epochAt), (Value.bool hasEpoch)] :: FL) _ := poolPush h
    refine newL (o := [(Value.slice hd_1.1 hd_1.2.1 hd_1.2.2)]) h ?_
    intro b_3 w h
    replace h := rowOfCel h 0 encL38 rfl [hd_1] rfl
    dsimp only [setH, setVs, setV] at h
    replace h := h.sel [0, 1, 0] 0
    dsimp only [pickL, pickR, nthH, delH, dropH, List.cons_append, List.nil_append] at h
    exact hR [hd_1] (m_1 ++ [(hd_1, rs_1)]) (some ⟨b_3, 0, none⟩) 1 1 _ rfl h hp
  refine pmp_Ask_ok h hp ?_
  rintro rs_2 p_3 n_3 c_3 w rfl h hp
  have cpp_3 := rowCap h 0 rfl
  refine ⟨_, _, _, rfl, ?_⟩
  replace h := h.pick [0, 2]
  dsimp only [pickL, pickR, nthH, delH, dropH, List.cons_append, List.nil_append] at h
  let hd_2 : Hd := (p_3, rs_2.length, c_3)
  replace hp := hp hd_2 rfl
  replace h : Mem (poolP enc5 5 1 (m_1 ++ [(hd_2, rs_2)]) :: row enc5 5 1 p_2 c_2 rs_1 :: cel b_1 47 [(Value.int .i64 s), (Value.int .i64 s_1), (Value.int .i64 s_2), (Value.int .u32 s_3), (Value.int .i64 s_4), (Value.int .i64 s_5), (Value.int .i64 s_6), (Value.int .i64 s_7), (Value.int .u32 host), (Value.int .i64 secs), (Value.int .u64 nonce), (Value.int .u32 wish), (Value.int .i64 wish_1), (Value.int .u32 outside), (Value.int .i64 now), (Value.int .i64 epoch), (Value.int .i64 epochAt), (Value.bool hasEpoch)] :: FL) _ := poolPush h
  replace h := h.pick [1, 0]
  dsimp only [pickL, pickR, nthH, delH, dropH, List.cons_append, List.nil_append] at h
  let hd_3 : Hd := (p_2, rs_1.length, c_2)
  replace hp := hp hd_3 rfl
  replace h : Mem (poolP enc5 5 1 ((m_1 ++ [(hd_2, rs_2)]) ++ [(hd_3, rs_1)]) :: cel b_1 47 [(Value.int .i64 s), (Value.int .i64 s_1), (Value.int .i64 s_2), (Value.int .u32 s_3), (Value.int .i64 s_4), (Value.int .i64 s_5), (Value.int .i64 s_6), (Value.int .i64 s_7), (Value.int .u32 host), (Value.int .i64 secs), (Value.int .u64 nonce), (Value.int .u32 wish), (Value.int .i64 wish_1), (Value.int .u32 outside), (Value.int .i64 now), (Value.int .i64 epoch), (Value.int .i64 epochAt), (Value.bool hasEpoch)] :: FL) _ := poolPush h
  refine newL (o := [(Value.slice hd_2.1 hd_2.2.1 hd_2.2.2), (Value.slice hd_3.1 hd_3.2.1 hd_3.2.2)]) h ?_
  intro b_4 w h
  replace h := rowOfCel h 0 encL38 rfl [hd_2, hd_3] rfl
  dsimp only [setH, setVs, setV] at h
  replace h := h.sel [0, 1, 0] 0
  dsimp only [pickL, pickR, nthH, delH, dropH, List.cons_append, List.nil_append] at h
  exact hR [hd_2, hd_3] ((m_1 ++ [(hd_2, rs_2)]) ++ [(hd_3, rs_1)]) (some ⟨b_4, 0, none⟩) 2 2 _ rfl h hp

/-! (*embrasure/mapper.Mapper).ask (24) -/
def mapper_Mapper_ask_wp (s : Int) (s_1 : Int) (s_2 : Int) (s_3 : Int) (s_4 : Int) (s_5 : Int) (s_6 : Int) (s_7 : Int) (host : Int) (secs : Int) (nonce : Int) (wish : Int) (wish_1 : Int) (outside : Int) (now : Int) (epoch : Int) (epochAt : Int) (hasEpoch : Bool) (m_1 : List ((Option Addr × Nat × Nat) × List (Int))) (K : List ((Option Addr × Nat × Nat)) → Int → Int → List ((Option Addr × Nat × Nat) × List (Int)) → Prop) : Prop :=
  back_Wait_wp 1 64 s_6 (fun (r : Int) (r_1 : Int) => mapper_Mapper_request_wp s s_1 s_2 s_3 s_4 s_5 (IntKind.wrap .i64 (s_6 + 1)) (IntKind.wrap .i64 (now + r)) host secs nonce wish wish_1 outside now epoch epochAt hasEpoch secs m_1 (fun (rs : List ((Option Addr × Nat × Nat))) (m_3 : List ((Option Addr × Nat × Nat) × List (Int))) => K rs (IntKind.wrap .i64 (s_6 + 1)) (IntKind.wrap .i64 (now + r)) m_3))
theorem mapper_Mapper_ask_ok {b_1 : Nat} {s : Int} {s_1 : Int} {s_2 : Int} {s_3 : Int} {s_4 : Int} {s_5 : Int} {s_6 : Int} {s_7 : Int} {host : Int} {secs : Int} {nonce : Int} {wish : Int} {wish_1 : Int} {outside : Int} {now : Int} {epoch : Int} {epochAt : Int} {hasEpoch : Bool} {m_1 : List ((Option Addr × Nat × Nat) × List (Int))} {FL : List HP} {w : World} {K : List ((Option Addr × Nat × Nat)) → Int → Int → List ((Option Addr × Nat × Nat) × List (Int)) → Prop} {R : Value → World → Prop}
  (h : Mem (cel b_1 47 [(Value.int .i64 s), (Value.int .i64 s_1), (Value.int .i64 s_2), (Value.int .u32 s_3), (Value.int .i64 s_4), (Value.int .i64 s_5), (Value.int .i64 s_6), (Value.int .i64 s_7), (Value.int .u32 host), (Value.int .i64 secs), (Value.int .u64 nonce), (Value.int .u32 wish), (Value.int .i64 wish_1), (Value.int .u32 outside), (Value.int .i64 now), (Value.int .i64 epoch), (Value.int .i64 epochAt), (Value.bool hasEpoch)] :: poolP enc5 5 1 m_1 :: FL) w) (hp : mapper_Mapper_ask_wp s s_1 s_2 s_3 s_4 s_5 s_6 s_7 host secs nonce wish wish_1 outside now epoch epochAt hasEpoch m_1 K)
  (hR : ∀ (rs : List ((Option Addr × Nat × Nat))) (s_8 : Int) (s_9 : Int) (m_2 : List ((Option Addr × Nat × Nat) × List (Int))) (p_1 : Option Addr) (n_1 : Nat) (c_1 : Nat) (w : World), n_1 = rs.length → Mem (row enc38 38 1 p_1 c_1 rs :: cel b_1 47 [(Value.int .i64 s), (Value.int .i64 s_1), (Value.int .i64 s_2), (Value.int .u32 s_3), (Value.int .i64 s_4), (Value.int .i64 s_5), (Value.int .i64 s_8), (Value.int .i64 s_9), (Value.int .u32 host), (Value.int .i64 secs), (Value.int .u64 nonce), (Value.int .u32 wish), (Value.int .i64 wish_1), (Value.int .u32 outside), (Value.int .i64 now), (Value.int .i64 epoch), (Value.int .i64 epochAt), (Value.bool hasEpoch)] :: poolP enc5 5 1 m_2 :: FL) w → K rs s_8 s_9 m_2 → R (Value.slice p_1 n_1 c_1) w) :
  CallV Try.prog 24 #[(Value.pointer (some (Addr.mk b_1 0 none)))] w R := by
  refine mapper_Mapper_ask_call ?_
  unfold mapper_Mapper_ask
  unfold mapper_Mapper_ask_wp at hp
  refine ⟨_, rfl, ?_⟩
  refine ⟨_, cellL h 0 6 rfl rfl rfl, ?_⟩
  refine back_Wait_ok h hp ?_
  intro r r_1 w h hp
  refine ⟨_, _, rfl, ?_⟩
  refine ⟨_, rfl, ?_⟩
  refine ⟨_, rfl, ?_⟩
  refine ⟨_, rfl, ?_⟩
  refine ⟨_, cellL h 0 14 rfl rfl rfl, ?_⟩
  refine ⟨_, rfl, ?_⟩
  refine storeL (ys := [(Value.int .i64 (IntKind.wrap .i64 (now + r)))]) h 0 7 rfl rfl rfl sz3 rfl rfl ?_
  intro w h
  dsimp only [setH, setVs, setV] at h
  refine ⟨_, rfl, ?_⟩
  refine ⟨_, cellL h 0 6 rfl rfl rfl, ?_⟩
  refine ⟨_, rfl, ?_⟩
  refine storeL (ys := [(Value.int .i64 (IntKind.wrap .i64 (s_6 + 1)))]) h 0 6 rfl rfl rfl sz3 rfl rfl ?_
  intro w h
  dsimp only [setH, setVs, setV] at h
  refine ⟨_, rfl, ?_⟩
  refine ⟨_, cellL h 0 9 rfl rfl rfl, ?_⟩
  refine mapper_Mapper_request_ok h hp ?_
  rintro rs m_3 p_1 n_1 c_1 w rfl h hp
  have cpp_1 := rowCap h 0 rfl
  refine ⟨_, _, _, rfl, ?_⟩
  exact hR rs (IntKind.wrap .i64 (s_6 + 1)) (IntKind.wrap .i64 (now + r)) m_3 p_1 rs.length c_1 _ rfl h hp

/-! (*embrasure/mapper.Mapper).probe (13) -/
def mapper_Mapper_probe_wp (s : Int) (s_1 : Int) (s_2 : Int) (s_3 : Int) (s_4 : Int) (s_5 : Int) (s_6 : Int) (s_7 : Int) (host : Int) (secs : Int) (nonce : Int) (wish : Int) (wish_1 : Int) (outside : Int) (now : Int) (epoch : Int) (epochAt : Int) (hasEpoch : Bool) (ver : Int) (m_1 : List ((Option Addr × Nat × Nat) × List (Int))) (K : List ((Option Addr × Nat × Nat)) → Int → Int → Int → Int → Int → Int → Int → Bool → List ((Option Addr × Nat × Nat) × List (Int)) → Prop) : Prop :=
  mapper_Mapper_ask_wp 1 ver s_2 0 0 0 0 0 host secs nonce wish wish_1 outside now epoch epochAt false m_1 (fun (rs : List ((Option Addr × Nat × Nat))) (s_15 : Int) (s_16 : Int) (m_3 : List ((Option Addr × Nat × Nat) × List (Int))) => K rs 1 ver 0 0 0 s_15 s_16 false m_3)
theorem mapper_Mapper_probe_ok {b_1 : Nat} {s : Int} {s_1 : Int} {s_2 : Int} {s_3 : Int} {s_4 : Int} {s_5 : Int} {s_6 : Int} {s_7 : Int} {host : Int} {secs : Int} {nonce : Int} {wish : Int} {wish_1 : Int} {outside : Int} {now : Int} {epoch : Int} {epochAt : Int} {hasEpoch : Bool} {ver : Int} {m_1 : List ((Option Addr × Nat × Nat) × List (Int))} {FL : List HP} {w : World} {K : List ((Option Addr × Nat × Nat)) → Int → Int → Int → Int → Int → Int → Int → Bool → List ((Option Addr × Nat × Nat) × List (Int)) → Prop} {R : Value → World → Prop}
  (h : Mem (cel b_1 47 [(Value.int .i64 s), (Value.int .i64 s_1), (Value.int .i64 s_2), (Value.int .u32 s_3), (Value.int .i64 s_4), (Value.int .i64 s_5), (Value.int .i64 s_6), (Value.int .i64 s_7), (Value.int .u32 host), (Value.int .i64 secs), (Value.int .u64 nonce), (Value.int .u32 wish), (Value.int .i64 wish_1), (Value.int .u32 outside), (Value.int .i64 now), (Value.int .i64 epoch), (Value.int .i64 epochAt), (Value.bool hasEpoch)] :: poolP enc5 5 1 m_1 :: FL) w) (hp : mapper_Mapper_probe_wp s s_1 s_2 s_3 s_4 s_5 s_6 s_7 host secs nonce wish wish_1 outside now epoch epochAt hasEpoch ver m_1 K)
  (hR : ∀ (rs : List ((Option Addr × Nat × Nat))) (s_8 : Int) (s_9 : Int) (s_10 : Int) (s_11 : Int) (s_12 : Int) (s_13 : Int) (s_14 : Int) (hasEpoch_1 : Bool) (m_2 : List ((Option Addr × Nat × Nat) × List (Int))) (p_1 : Option Addr) (n_1 : Nat) (c_1 : Nat) (w : World), n_1 = rs.length → Mem (row enc38 38 1 p_1 c_1 rs :: cel b_1 47 [(Value.int .i64 s_8), (Value.int .i64 s_9), (Value.int .i64 s_2), (Value.int .u32 s_10), (Value.int .i64 s_11), (Value.int .i64 s_12), (Value.int .i64 s_13), (Value.int .i64 s_14), (Value.int .u32 host), (Value.int .i64 secs), (Value.int .u64 nonce), (Value.int .u32 wish), (Value.int .i64 wish_1), (Value.int .u32 outside), (Value.int .i64 now), (Value.int .i64 epoch), (Value.int .i64 epochAt), (Value.bool hasEpoch_1)] :: poolP enc5 5 1 m_2 :: FL) w → K rs s_8 s_9 s_10 s_11 s_12 s_13 s_14 hasEpoch_1 m_2 → R (Value.slice p_1 n_1 c_1) w) :
  CallV Try.prog 13 #[(Value.pointer (some (Addr.mk b_1 0 none))), (Value.int .i64 ver)] w R := by
  refine mapper_Mapper_probe_call ?_
  unfold mapper_Mapper_probe
  unfold mapper_Mapper_probe_wp at hp
  refine ⟨_, rfl, ?_⟩
  refine ⟨_, cellL h 0 2 rfl rfl rfl, ?_⟩
  refine ⟨_, rfl, ?_⟩
  refine storeL (ys := [(Value.int .i64 1), (Value.int .i64 ver), (Value.int .i64 s_2), (Value.int .u32 0), (Value.int .i64 0), (Value.int .i64 0), (Value.int .i64 0), (Value.int .i64 0)]) h 0 0 rfl rfl rfl sz43 rfl rfl ?_
  intro w h
  dsimp only [setH, setVs, setV] at h
  refine ⟨_, rfl, ?_⟩
  refine storeL (ys := [(Value.bool false)]) h 0 17 rfl rfl rfl sz4 rfl rfl ?_
  intro w h
  dsimp only [setH, setVs, setV] at h
  refine mapper_Mapper_ask_ok h hp ?_
  rintro rs s_15 s_16 m_3 p_1 n_1 c_1 w rfl h hp
  have cpp_1 := rowCap h 0 rfl
  refine ⟨_, _, _, rfl, ?_⟩
  exact hR rs 1 ver 0 0 0 s_15 s_16 false m_3 p_1 rs.length c_1 _ rfl h hp

/-! (*embrasure/mapper.Mapper).Start (7) -/
def mapper_Mapper_Start_wp (s : Int) (s_1 : Int) (s_2 : Int) (s_3 : Int) (s_4 : Int) (s_5 : Int) (s_6 : Int) (s_7 : Int) (host : Int) (secs : Int) (nonce : Int) (wish : Int) (wish_1 : Int) (outside : Int) (now : Int) (epoch : Int) (epochAt : Int) (hasEpoch : Bool) (now_1 : Int) (m_1 : List ((Option Addr × Nat × Nat) × List (Int))) (K : List ((Option Addr × Nat × Nat)) → Int → Int → Int → Int → Int → Int → Int → Int → Bool → List ((Option Addr × Nat × Nat) × List (Int)) → Prop) : Prop :=
  joinP2 (fun (now_3 : Int) (t24 : Bool) => cond t24 (K ([] : List ((Option Addr × Nat × Nat))) s s_1 s_3 s_4 s_5 s_6 s_7 now_3 hasEpoch m_1) (mapper_Mapper_probe_wp s s_1 s_2 s_3 s_4 s_5 s_6 s_7 host secs nonce wish wish_1 outside now_3 epoch epochAt hasEpoch 2 m_1 (fun (rs : List ((Option Addr × Nat × Nat))) (s_15 : Int) (s_16 : Int) (s_17 : Int) (s_18 : Int) (s_19 : Int) (s_20 : Int) (s_21 : Int) (hasEpoch_2 : Bool) (m_3 : List ((Option Addr × Nat × Nat) × List (Int))) => K rs s_15 s_16 s_17 s_18 s_19 s_20 s_21 now_3 hasEpoch_2 m_3))) (fun (Q : Int → Bool → Prop) => cond ((s : Int) != 0) (cond ((s : Int) != 4) (Q now true) (mapper_Mapper_on_wp s s_1 s_2 s_3 s_4 s_5 s_6 s_7 host secs nonce wish wish_1 outside now epoch epochAt hasEpoch now_1 (fun (r : Bool) (now_4 : Int) => Q now_4 (!r)))) (mapper_Mapper_on_wp s s_1 s_2 s_3 s_4 s_5 s_6 s_7 host secs nonce wish wish_1 outside now epoch epochAt hasEpoch now_1 (fun (r_1 : Bool) (now_5 : Int) => Q now_5 (!r_1))))
theorem mapper_Mapper_Start_ok {b_1 : Nat} {s : Int} {s_1 : Int} {s_2 : Int} {s_3 : Int} {s_4 : Int} {s_5 : Int} {s_6 : Int} {s_7 : Int} {host : Int} {secs : Int} {nonce : Int} {wish : Int} {wish_1 : Int} {outside : Int} {now : Int} {epoch : Int} {epochAt : Int} {hasEpoch : Bool} {now_1 : Int} {m_1 : List ((Option Addr × Nat × Nat) × List (Int))} {FL : List HP} {w : World} {K : List ((Option Addr × Nat × Nat)) → Int → Int → Int → Int → Int → Int → Int → Int → Bool → List ((Option Addr × Nat × Nat) × List (Int)) → Prop} {R : Value → World → Prop}
  (h : Mem (cel b_1 47 [(Value.int .i64 s), (Value.int .i64 s_1), (Value.int .i64 s_2), (Value.int .u32 s_3), (Value.int .i64 s_4), (Value.int .i64 s_5), (Value.int .i64 s_6), (Value.int .i64 s_7), (Value.int .u32 host), (Value.int .i64 secs), (Value.int .u64 nonce), (Value.int .u32 wish), (Value.int .i64 wish_1), (Value.int .u32 outside), (Value.int .i64 now), (Value.int .i64 epoch), (Value.int .i64 epochAt), (Value.bool hasEpoch)] :: poolP enc5 5 1 m_1 :: FL) w) (hp : mapper_Mapper_Start_wp s s_1 s_2 s_3 s_4 s_5 s_6 s_7 host secs nonce wish wish_1 outside now epoch epochAt hasEpoch now_1 m_1 K)
  (hR : ∀ (rs : List ((Option Addr × Nat × Nat))) (s_8 : Int) (s_9 : Int) (s_10 : Int) (s_11 : Int) (s_12 : Int) (s_13 : Int) (s_14 : Int) (now_2 : Int) (hasEpoch_1 : Bool) (m_2 : List ((Option Addr × Nat × Nat) × List (Int))) (p_1 : Option Addr) (n_1 : Nat) (c_1 : Nat) (w : World), n_1 = rs.length → Mem (row enc38 38 1 p_1 c_1 rs :: cel b_1 47 [(Value.int .i64 s_8), (Value.int .i64 s_9), (Value.int .i64 s_2), (Value.int .u32 s_10), (Value.int .i64 s_11), (Value.int .i64 s_12), (Value.int .i64 s_13), (Value.int .i64 s_14), (Value.int .u32 host), (Value.int .i64 secs), (Value.int .u64 nonce), (Value.int .u32 wish), (Value.int .i64 wish_1), (Value.int .u32 outside), (Value.int .i64 now_2), (Value.int .i64 epoch), (Value.int .i64 epochAt), (Value.bool hasEpoch_1)] :: poolP enc5 5 1 m_2 :: FL) w → K rs s_8 s_9 s_10 s_11 s_12 s_13 s_14 now_2 hasEpoch_1 m_2 → R (Value.slice p_1 n_1 c_1) w) :
  CallV Try.prog 7 #[(Value.pointer (some (Addr.mk b_1 0 none))), (Value.int .i64 now_1)] w R := by
  refine mapper_Mapper_Start_call ?_
  unfold mapper_Mapper_Start
  unfold mapper_Mapper_Start_wp at hp
  obtain ⟨Q, hq, hp⟩ := hp
  refine ⟨fun m0 t24 w => ∃ (now_3 : Int), (some (Addr.mk b_1 0 none)) = m0 ∧ Q now_3 t24 ∧ Mem (cel b_1 47 [(Value.int .i64 s), (Value.int .i64 s_1), (Value.int .i64 s_2), (Value.int .u32 s_3), (Value.int .i64 s_4), (Value.int .i64 s_5), (Value.int .i64 s_6), (Value.int .i64 s_7), (Value.int .u32 host), (Value.int .i64 secs), (Value.int .u64 nonce), (Value.int .u32 wish), (Value.int .i64 wish_1), (Value.int .u32 outside), (Value.int .i64 now_3), (Value.int .i64 epoch), (Value.int .i64 epochAt), (Value.bool hasEpoch)] :: poolP enc5 5 1 m_1 :: FL) w, ?_, ?_⟩
  · rintro m0 t24 w ⟨now_3, rfl, hp, h⟩
    replace hp := hq now_3 t24 hp
    unfold mapper_Mapper_Start_j1
    refine cond_both hp (fun hp => ?_) (fun hp => ?_)
    · replace h := rowNil enc38 38 1 h
      exact hR ([] : List ((Option Addr × Nat × Nat))) s s_1 s_3 s_4 s_5 s_6 s_7 now_3 hasEpoch m_1 (none ) 0 0 _ rfl h hp
    refine mapper_Mapper_probe_ok h hp ?_
    rintro rs s_15 s_16 s_17 s_18 s_19 s_20 s_21 hasEpoch_2 m_3 p_2 n_1 c_1 w rfl h hp
    have cpp_2 := rowCap h 0 rfl
    refine ⟨_, _, _, rfl, ?_⟩
    exact hR rs s_15 s_16 s_17 s_18 s_19 s_20 s_21 now_3 hasEpoch_2 m_3 p_2 rs.length c_1 _ rfl h hp
  clear hq
  refine ⟨_, rfl, ?_⟩
  refine ⟨_, cellL h 0 0 rfl rfl rfl, ?_⟩
  refine cond_both' hp (fun hp => ?_) (fun hp => ?_)
  · refine mapper_Mapper_on_ok h hp ?_
    intro r_1 now_5 w h hp
    refine ⟨_, rfl, ?_⟩
    exact ⟨now_5, rfl, hp, h⟩
  refine ⟨_, rfl, ?_⟩
  refine ⟨_, cellL h 0 0 rfl rfl rfl, ?_⟩
  refine cond_both hp (fun hp => ?_) (fun hp => ?_)
  · exact ⟨now, rfl, hp, h⟩
  refine mapper_Mapper_on_ok h hp ?_
  intro r now_4 w h hp
  refine ⟨_, rfl, ?_⟩
  exact ⟨now_4, rfl, hp, h⟩

/-! (*embrasure/mapper.Mapper).lost (20) -/
def mapper_Mapper_lost_wp (s : Int) (s_1 : Int) (s_2 : Int) (s_3 : Int) (s_4 : Int) (s_5 : Int) (s_6 : Int) (s_7 : Int) (host : Int) (secs : Int) (nonce : Int) (wish : Int) (wish_1 : Int) (outside : Int) (now : Int) (epoch : Int) (epochAt : Int) (hasEpoch : Bool) (K : Bool → Prop) : Prop :=
  cond ((s : Int) == 2) (K (decide ((s_5 : Int) ≤ now))) (cond ((s : Int) == 3) (K (decide ((s_5 : Int) ≤ now))) (K false))
theorem mapper_Mapper_lost_ok {b_1 : Nat} {s : Int} {s_1 : Int} {s_2 : Int} {s_3 : Int} {s_4 : Int} {s_5 : Int} {s_6 : Int} {s_7 : Int} {host : Int} {secs : Int} {nonce : Int} {wish : Int} {wish_1 : Int} {outside : Int} {now : Int} {epoch : Int} {epochAt : Int} {hasEpoch : Bool} {FL : List HP} {w : World} {K : Bool → Prop} {R : Value → World → Prop}
  (h : Mem (cel b_1 47 [(Value.int .i64 s), (Value.int .i64 s_1), (Value.int .i64 s_2), (Value.int .u32 s_3), (Value.int .i64 s_4), (Value.int .i64 s_5), (Value.int .i64 s_6), (Value.int .i64 s_7), (Value.int .u32 host), (Value.int .i64 secs), (Value.int .u64 nonce), (Value.int .u32 wish), (Value.int .i64 wish_1), (Value.int .u32 outside), (Value.int .i64 now), (Value.int .i64 epoch), (Value.int .i64 epochAt), (Value.bool hasEpoch)] :: FL) w) (hp : mapper_Mapper_lost_wp s s_1 s_2 s_3 s_4 s_5 s_6 s_7 host secs nonce wish wish_1 outside now epoch epochAt hasEpoch K)
  (hR : ∀ (r : Bool) (w : World), Mem (cel b_1 47 [(Value.int .i64 s), (Value.int .i64 s_1), (Value.int .i64 s_2), (Value.int .u32 s_3), (Value.int .i64 s_4), (Value.int .i64 s_5), (Value.int .i64 s_6), (Value.int .i64 s_7), (Value.int .u32 host), (Value.int .i64 secs), (Value.int .u64 nonce), (Value.int .u32 wish), (Value.int .i64 wish_1), (Value.int .u32 outside), (Value.int .i64 now), (Value.int .i64 epoch), (Value.int .i64 epochAt), (Value.bool hasEpoch)] :: FL) w → K r → R (Value.bool r) w) :
  CallV Try.prog 20 #[(Value.pointer (some (Addr.mk b_1 0 none)))] w R := by
  refine mapper_Mapper_lost_call ?_
  unfold mapper_Mapper_lost
  unfold mapper_Mapper_lost_wp at hp
  replace h := h.drew
  refine ⟨_, rfl, ?_⟩
  refine ⟨_, cellL h 0 0 rfl rfl rfl, ?_⟩
  refine cond_both hp (fun hp => ?_) (fun hp => ?_)
  · refine ⟨_, rfl, ?_⟩
    refine ⟨_, cellL h 0 5 rfl rfl rfl, ?_⟩
    refine ⟨_, rfl, ?_⟩
    refine ⟨_, cellL h 0 14 rfl rfl rfl, ?_⟩
    exact hR (decide ((s_5 : Int) ≤ now)) _ h hp
  refine ⟨_, rfl, ?_⟩
  refine ⟨_, cellL h 0 0 rfl rfl rfl, ?_⟩
  refine cond_both' hp (fun hp => ?_) (fun hp => ?_)
  · exact hR false _ h hp
  refine ⟨_, rfl, ?_⟩
  refine ⟨_, cellL h 0 5 rfl rfl rfl, ?_⟩
  refine ⟨_, rfl, ?_⟩
  refine ⟨_, cellL h 0 14 rfl rfl rfl, ?_⟩
  exact hR (decide ((s_5 : Int) ≤ now)) _ h hp

/-! (*embrasure/mapper.Mapper).end (45) -/
def mapper_Mapper_end_wp (s : Int) (s_1 : Int) (s_2 : Int) (s_3 : Int) (s_4 : Int) (s_5 : Int) (s_6 : Int) (s_7 : Int) (host : Int) (secs : Int) (nonce : Int) (wish : Int) (wish_1 : Int) (outside : Int) (now : Int) (epoch : Int) (epochAt : Int) (hasEpoch : Bool) (state : Int) (K : Int → Int → Int → Int → Int → Int → Int → Bool → Prop) : Prop :=
  K state 0 0 0 0 0 0 false
theorem mapper_Mapper_end_ok {b_1 : Nat} {s : Int} {s_1 : Int} {s_2 : Int} {s_3 : Int} {s_4 : Int} {s_5 : Int} {s_6 : Int} {s_7 : Int} {host : Int} {secs : Int} {nonce : Int} {wish : Int} {wish_1 : Int} {outside : Int} {now : Int} {epoch : Int} {epochAt : Int} {hasEpoch : Bool} {state : Int} {FL : List HP} {w : World} {K : Int → Int → Int → Int → Int → Int → Int → Bool → Prop} {R : Value → World → Prop}
  (h : Mem (cel b_1 47 [(Value.int .i64 s), (Value.int .i64 s_1), (Value.int .i64 s_2), (Value.int .u32 s_3), (Value.int .i64 s_4), (Value.int .i64 s_5), (Value.int .i64 s_6), (Value.int .i64 s_7), (Value.int .u32 host), (Value.int .i64 secs), (Value.int .u64 nonce), (Value.int .u32 wish), (Value.int .i64 wish_1), (Value.int .u32 outside), (Value.int .i64 now), (Value.int .i64 epoch), (Value.int .i64 epochAt), (Value.bool hasEpoch)] :: FL) w) (hp : mapper_Mapper_end_wp s s_1 s_2 s_3 s_4 s_5 s_6 s_7 host secs nonce wish wish_1 outside now epoch epochAt hasEpoch state K)
  (hR : ∀ (s_8 : Int) (s_9 : Int) (s_10 : Int) (s_11 : Int) (s_12 : Int) (s_13 : Int) (s_14 : Int) (hasEpoch_1 : Bool) (w : World), Mem (cel b_1 47 [(Value.int .i64 s_8), (Value.int .i64 s_9), (Value.int .i64 s_2), (Value.int .u32 s_10), (Value.int .i64 s_11), (Value.int .i64 s_12), (Value.int .i64 s_13), (Value.int .i64 s_14), (Value.int .u32 host), (Value.int .i64 secs), (Value.int .u64 nonce), (Value.int .u32 wish), (Value.int .i64 wish_1), (Value.int .u32 outside), (Value.int .i64 now), (Value.int .i64 epoch), (Value.int .i64 epochAt), (Value.bool hasEpoch_1)] :: FL) w → K s_8 s_9 s_10 s_11 s_12 s_13 s_14 hasEpoch_1 → R undef w) :
  CallV Try.prog 45 #[(Value.pointer (some (Addr.mk b_1 0 none))), (Value.int .i64 state)] w R := by
  refine mapper_Mapper_end_call ?_
  unfold mapper_Mapper_end
  unfold mapper_Mapper_end_wp at hp
  refine ⟨_, rfl, ?_⟩
  refine ⟨_, cellL h 0 2 rfl rfl rfl, ?_⟩
  refine ⟨_, rfl, ?_⟩
  refine storeL (ys := [(Value.int .i64 state), (Value.int .i64 0), (Value.int .i64 s_2), (Value.int .u32 0), (Value.int .i64 0), (Value.int .i64 0), (Value.int .i64 0), (Value.int .i64 0)]) h 0 0 rfl rfl rfl sz43 rfl rfl ?_
  intro w h
  dsimp only [setH, setVs, setV] at h
  refine ⟨_, rfl, ?_⟩
  refine storeL (ys := [(Value.bool false)]) h 0 17 rfl rfl rfl sz4 rfl rfl ?_
  intro w h
  dsimp only [setH, setVs, setV] at h
  exact hR state 0 0 0 0 0 0 false _ h hp

/-! (*embrasure/mapper.Mapper).other (31) -/
def mapper_Mapper_other_wp (s : Int) (s_1 : Int) (s_2 : Int) (s_3 : Int) (s_4 : Int) (s_5 : Int) (s_6 : Int) (s_7 : Int) (host : Int) (secs : Int) (nonce : Int) (wish : Int) (wish_1 : Int) (outside : Int) (now : Int) (epoch : Int) (epochAt : Int) (hasEpoch : Bool) (m_1 : List ((Option Addr × Nat × Nat) × List (Int))) (K : List ((Option Addr × Nat × Nat)) → Int → Int → Int → Int → Int → Int → Int → Bool → List ((Option Addr × Nat × Nat) × List (Int)) → Prop) : Prop :=
  cond ((s_1 : Int) == 2) (mapper_Mapper_probe_wp s s_1 s_2 s_3 s_4 s_5 s_6 s_7 host secs nonce wish wish_1 outside now epoch epochAt hasEpoch 0 m_1 (fun (rs : List ((Option Addr × Nat × Nat))) (s_15 : Int) (s_16 : Int) (s_17 : Int) (s_18 : Int) (s_19 : Int) (s_20 : Int) (s_21 : Int) (hasEpoch_2 : Bool) (m_3 : List ((Option Addr × Nat × Nat) × List (Int))) => K rs s_15 s_16 s_17 s_18 s_19 s_20 s_21 hasEpoch_2 m_3)) (mapper_Mapper_end_wp s s_1 s_2 s_3 s_4 s_5 s_6 s_7 host secs nonce wish wish_1 outside now epoch epochAt hasEpoch 4 (fun (s_22 : Int) (s_23 : Int) (s_24 : Int) (s_25 : Int) (s_26 : Int) (s_27 : Int) (s_28 : Int) (hasEpoch_3 : Bool) => K ([] : List ((Option Addr × Nat × Nat))) s_22 s_23 s_24 s_25 s_26 s_27 s_28 hasEpoch_3 m_1))
theorem mapper_Mapper_other_ok {b_1 : Nat} {s : Int} {s_1 : Int} {s_2 : Int} {s_3 : Int} {s_4 : Int} {s_5 : Int} {s_6 : Int} {s_7 : Int} {host : Int} {secs : Int} {nonce : Int} {wish : Int} {wish_1 : Int} {outside : Int} {now : Int} {epoch : Int} {epochAt : Int} {hasEpoch : Bool} {m_1 : List ((Option Addr × Nat × Nat) × List (Int))} {FL : List HP} {w : World} {K : List ((Option Addr × Nat × Nat)) → Int → Int → Int → Int → Int → Int → Int → Bool → List ((Option Addr × Nat × Nat) × List (Int)) → Prop} {R : Value → World → Prop}
  (h : Mem (cel b_1 47 [(Value.int .i64 s), (Value.int .i64 s_1), (Value.int .i64 s_2), (Value.int .u32 s_3), (Value.int .i64 s_4), (Value.int .i64 s_5), (Value.int .i64 s_6), (Value.int .i64 s_7), (Value.int .u32 host), (Value.int .i64 secs), (Value.int .u64 nonce), (Value.int .u32 wish), (Value.int .i64 wish_1), (Value.int .u32 outside), (Value.int .i64 now), (Value.int .i64 epoch), (Value.int .i64 epochAt), (Value.bool hasEpoch)] :: poolP enc5 5 1 m_1 :: FL) w) (hp : mapper_Mapper_other_wp s s_1 s_2 s_3 s_4 s_5 s_6 s_7 host secs nonce wish wish_1 outside now epoch epochAt hasEpoch m_1 K)
  (hR : ∀ (rs : List ((Option Addr × Nat × Nat))) (s_8 : Int) (s_9 : Int) (s_10 : Int) (s_11 : Int) (s_12 : Int) (s_13 : Int) (s_14 : Int) (hasEpoch_1 : Bool) (m_2 : List ((Option Addr × Nat × Nat) × List (Int))) (p_1 : Option Addr) (n_1 : Nat) (c_1 : Nat) (w : World), n_1 = rs.length → Mem (row enc38 38 1 p_1 c_1 rs :: cel b_1 47 [(Value.int .i64 s_8), (Value.int .i64 s_9), (Value.int .i64 s_2), (Value.int .u32 s_10), (Value.int .i64 s_11), (Value.int .i64 s_12), (Value.int .i64 s_13), (Value.int .i64 s_14), (Value.int .u32 host), (Value.int .i64 secs), (Value.int .u64 nonce), (Value.int .u32 wish), (Value.int .i64 wish_1), (Value.int .u32 outside), (Value.int .i64 now), (Value.int .i64 epoch), (Value.int .i64 epochAt), (Value.bool hasEpoch_1)] :: poolP enc5 5 1 m_2 :: FL) w → K rs s_8 s_9 s_10 s_11 s_12 s_13 s_14 hasEpoch_1 m_2 → R (Value.slice p_1 n_1 c_1) w) :
  CallV Try.prog 31 #[(Value.pointer (some (Addr.mk b_1 0 none)))] w R := by
  refine mapper_Mapper_other_call ?_
  unfold mapper_Mapper_other
  unfold mapper_Mapper_other_wp at hp
  refine ⟨_, rfl, ?_⟩
  refine ⟨_, cellL h 0 1 rfl rfl rfl, ?_⟩
  refine cond_both hp (fun hp => ?_) (fun hp => ?_)
  · refine mapper_Mapper_probe_ok h hp ?_
    rintro rs s_15 s_16 s_17 s_18 s_19 s_20 s_21 hasEpoch_2 m_3 p_1 n_1 c_1 w rfl h hp
    have cpp_1 := rowCap h 0 rfl
    refine ⟨_, _, _, rfl, ?_⟩
    exact hR rs s_15 s_16 s_17 s_18 s_19 s_20 s_21 hasEpoch_2 m_3 p_1 rs.length c_1 _ rfl h hp
  refine mapper_Mapper_end_ok h hp ?_
  intro s_22 s_23 s_24 s_25 s_26 s_27 s_28 hasEpoch_3 w h hp
  refine ⟨rfl, ?_⟩
  replace h := rowNil enc38 38 1 h
  exact hR ([] : List ((Option Addr × Nat × Nat))) s_22 s_23 s_24 s_25 s_26 s_27 s_28 hasEpoch_3 m_1 (none ) 0 0 _ rfl h hp

/-! (*embrasure/mapper.Mapper).probing (21) -/
def mapper_Mapper_probing_wp (s : Int) (s_1 : Int) (s_2 : Int) (s_3 : Int) (s_4 : Int) (s_5 : Int) (s_6 : Int) (s_7 : Int) (host : Int) (secs : Int) (nonce : Int) (wish : Int) (wish_1 : Int) (outside : Int) (now : Int) (epoch : Int) (epochAt : Int) (hasEpoch : Bool) (m_1 : List ((Option Addr × Nat × Nat) × List (Int))) (K : List ((Option Addr × Nat × Nat)) → Int → Int → Int → Int → Int → Int → Int → Bool → List ((Option Addr × Nat × Nat) × List (Int)) → Prop) : Prop :=
  cond (decide ((s_6 : Int) ≥ 5)) (mapper_Mapper_other_wp s s_1 s_2 s_3 s_4 s_5 s_6 s_7 host secs nonce wish wish_1 outside now epoch epochAt hasEpoch m_1 (fun (rs : List ((Option Addr × Nat × Nat))) (s_15 : Int) (s_16 : Int) (s_17 : Int) (s_18 : Int) (s_19 : Int) (s_20 : Int) (s_21 : Int) (hasEpoch_2 : Bool) (m_3 : List ((Option Addr × Nat × Nat) × List (Int))) => K rs s_15 s_16 s_17 s_18 s_19 s_20 s_21 hasEpoch_2 m_3)) (mapper_Mapper_ask_wp s s_1 s_2 s_3 s_4 s_5 s_6 s_7 host secs nonce wish wish_1 outside now epoch epochAt hasEpoch m_1 (fun (rs_1 : List ((Option Addr × Nat × Nat))) (s_22 : Int) (s_23 : Int) (m_4 : List ((Option Addr × Nat × Nat) × List (Int))) => K rs_1 s s_1 s_3 s_4 s_5 s_22 s_23 hasEpoch m_4))
theorem mapper_Mapper_probing_ok {b_1 : Nat} {s : Int} {s_1 : Int} {s_2 : Int} {s_3 : Int} {s_4 : Int} {s_5 : Int} {s_6 : Int} {s_7 : Int} {host : Int} {secs : Int} {nonce : Int} {wish : Int} {wish_1 : Int} {outside : Int} {now : Int} {epoch : Int} {epochAt : Int} {hasEpoch : Bool} {m_1 : List ((Option Addr × Nat × Nat) × List (Int))} {FL : List HP} {w : World} {K : List ((Option Addr × Nat × Nat)) → Int → Int → Int → Int → Int → Int → Int → Bool → List ((Option Addr × Nat × Nat) × List (Int)) → Prop} {R : Value → World → Prop}
  (h : Mem (cel b_1 47 [(Value.int .i64 s), (Value.int .i64 s_1), (Value.int .i64 s_2), (Value.int .u32 s_3), (Value.int .i64 s_4), (Value.int .i64 s_5), (Value.int .i64 s_6), (Value.int .i64 s_7), (Value.int .u32 host), (Value.int .i64 secs), (Value.int .u64 nonce), (Value.int .u32 wish), (Value.int .i64 wish_1), (Value.int .u32 outside), (Value.int .i64 now), (Value.int .i64 epoch), (Value.int .i64 epochAt), (Value.bool hasEpoch)] :: poolP enc5 5 1 m_1 :: FL) w) (hp : mapper_Mapper_probing_wp s s_1 s_2 s_3 s_4 s_5 s_6 s_7 host secs nonce wish wish_1 outside now epoch epochAt hasEpoch m_1 K)
  (hR : ∀ (rs : List ((Option Addr × Nat × Nat))) (s_8 : Int) (s_9 : Int) (s_10 : Int) (s_11 : Int) (s_12 : Int) (s_13 : Int) (s_14 : Int) (hasEpoch_1 : Bool) (m_2 : List ((Option Addr × Nat × Nat) × List (Int))) (p_1 : Option Addr) (n_1 : Nat) (c_1 : Nat) (w : World), n_1 = rs.length → Mem (row enc38 38 1 p_1 c_1 rs :: cel b_1 47 [(Value.int .i64 s_8), (Value.int .i64 s_9), (Value.int .i64 s_2), (Value.int .u32 s_10), (Value.int .i64 s_11), (Value.int .i64 s_12), (Value.int .i64 s_13), (Value.int .i64 s_14), (Value.int .u32 host), (Value.int .i64 secs), (Value.int .u64 nonce), (Value.int .u32 wish), (Value.int .i64 wish_1), (Value.int .u32 outside), (Value.int .i64 now), (Value.int .i64 epoch), (Value.int .i64 epochAt), (Value.bool hasEpoch_1)] :: poolP enc5 5 1 m_2 :: FL) w → K rs s_8 s_9 s_10 s_11 s_12 s_13 s_14 hasEpoch_1 m_2 → R (Value.slice p_1 n_1 c_1) w) :
  CallV Try.prog 21 #[(Value.pointer (some (Addr.mk b_1 0 none)))] w R := by
  refine mapper_Mapper_probing_call ?_
  unfold mapper_Mapper_probing
  unfold mapper_Mapper_probing_wp at hp
  refine ⟨_, rfl, ?_⟩
  refine ⟨_, cellL h 0 6 rfl rfl rfl, ?_⟩
  refine cond_both hp (fun hp => ?_) (fun hp => ?_)
  · refine mapper_Mapper_other_ok h hp ?_
    rintro rs s_15 s_16 s_17 s_18 s_19 s_20 s_21 hasEpoch_2 m_3 p_1 n_1 c_1 w rfl h hp
    have cpp_1 := rowCap h 0 rfl
    refine ⟨_, _, _, rfl, ?_⟩
    exact hR rs s_15 s_16 s_17 s_18 s_19 s_20 s_21 hasEpoch_2 m_3 p_1 rs.length c_1 _ rfl h hp
  refine mapper_Mapper_ask_ok h hp ?_
  rintro rs_1 s_22 s_23 m_4 p_2 n_2 c_2 w rfl h hp
  have cpp_2 := rowCap h 0 rfl
  refine ⟨_, _, _, rfl, ?_⟩
  exact hR rs_1 s s_1 s_3 s_4 s_5 s_22 s_23 hasEpoch m_4 p_2 rs_1.length c_2 _ rfl h hp

/-! (*embrasure/mapper.Mapper).holding (22) -/
def mapper_Mapper_holding_wp (s : Int) (s_1 : Int) (s_2 : Int) (s_3 : Int) (s_4 : Int) (s_5 : Int) (s_6 : Int) (s_7 : Int) (host : Int) (secs : Int) (nonce : Int) (wish : Int) (wish_1 : Int) (outside : Int) (now : Int) (epoch : Int) (epochAt : Int) (hasEpoch : Bool) (m_1 : List ((Option Addr × Nat × Nat) × List (Int))) (K : List ((Option Addr × Nat × Nat)) → Int → Int → Int → List ((Option Addr × Nat × Nat) × List (Int)) → Prop) : Prop :=
  mapper_Mapper_ask_wp 3 s_1 s_2 s_3 s_4 s_5 0 s_7 host secs nonce wish wish_1 outside now epoch epochAt hasEpoch m_1 (fun (rs : List ((Option Addr × Nat × Nat))) (s_11 : Int) (s_12 : Int) (m_3 : List ((Option Addr × Nat × Nat) × List (Int))) => K rs 3 s_11 s_12 m_3)
theorem mapper_Mapper_holding_ok {b_1 : Nat} {s : Int} {s_1 : Int} {s_2 : Int} {s_3 : Int} {s_4 : Int} {s_5 : Int} {s_6 : Int} {s_7 : Int} {host : Int} {secs : Int} {nonce : Int} {wish : Int} {wish_1 : Int} {outside : Int} {now : Int} {epoch : Int} {epochAt : Int} {hasEpoch : Bool} {m_1 : List ((Option Addr × Nat × Nat) × List (Int))} {FL : List HP} {w : World} {K : List ((Option Addr × Nat × Nat)) → Int → Int → Int → List ((Option Addr × Nat × Nat) × List (Int)) → Prop} {R : Value → World → Prop}
  (h : Mem (cel b_1 47 [(Value.int .i64 s), (Value.int .i64 s_1), (Value.int .i64 s_2), (Value.int .u32 s_3), (Value.int .i64 s_4), (Value.int .i64 s_5), (Value.int .i64 s_6), (Value.int .i64 s_7), (Value.int .u32 host), (Value.int .i64 secs), (Value.int .u64 nonce), (Value.int .u32 wish), (Value.int .i64 wish_1), (Value.int .u32 outside), (Value.int .i64 now), (Value.int .i64 epoch), (Value.int .i64 epochAt), (Value.bool hasEpoch)] :: poolP enc5 5 1 m_1 :: FL) w) (hp : mapper_Mapper_holding_wp s s_1 s_2 s_3 s_4 s_5 s_6 s_7 host secs nonce wish wish_1 outside now epoch epochAt hasEpoch m_1 K)
  (hR : ∀ (rs : List ((Option Addr × Nat × Nat))) (s_8 : Int) (s_9 : Int) (s_10 : Int) (m_2 : List ((Option Addr × Nat × Nat) × List (Int))) (p_1 : Option Addr) (n_1 : Nat) (c_1 : Nat) (w : World), n_1 = rs.length → Mem (row enc38 38 1 p_1 c_1 rs :: cel b_1 47 [(Value.int .i64 s_8), (Value.int .i64 s_1), (Value.int .i64 s_2), (Value.int .u32 s_3), (Value.int .i64 s_4), (Value.int .i64 s_5), (Value.int .i64 s_9), (Value.int .i64 s_10), (Value.int .u32 host), (Value.int .i64 secs), (Value.int .u64 nonce), (Value.int .u32 wish), (Value.int .i64 wish_1), (Value.int .u32 outside), (Value.int .i64 now), (Value.int .i64 epoch), (Value.int .i64 epochAt), (Value.bool hasEpoch)] :: poolP enc5 5 1 m_2 :: FL) w → K rs s_8 s_9 s_10 m_2 → R (Value.slice p_1 n_1 c_1) w) :
  CallV Try.prog 22 #[(Value.pointer (some (Addr.mk b_1 0 none)))] w R := by
  refine mapper_Mapper_holding_call ?_
  unfold mapper_Mapper_holding
  unfold mapper_Mapper_holding_wp at hp
  refine ⟨_, rfl, ?_⟩
  refine storeL (ys := [(Value.int .i64 3)]) h 0 0 rfl rfl rfl sz3 rfl rfl ?_
  intro w h
  dsimp only [setH, setVs, setV] at h
  refine ⟨_, rfl, ?_⟩
  refine storeL (ys := [(Value.int .i64 0)]) h 0 6 rfl rfl rfl sz3 rfl rfl ?_
  intro w h
  dsimp only [setH, setVs, setV] at h
  refine mapper_Mapper_ask_ok h hp ?_
  rintro rs s_11 s_12 m_3 p_1 n_1 c_1 w rfl h hp
  have cpp_1 := rowCap h 0 rfl
  refine ⟨_, _, _, rfl, ?_⟩
  exact hR rs 3 s_11 s_12 m_3 p_1 rs.length c_1 _ rfl h hp

/-! (*embrasure/mapper.Mapper).renewing (23) -/
def mapper_Mapper_renewing_wp (s : Int) (s_1 : Int) (s_2 : Int) (s_3 : Int) (s_4 : Int) (s_5 : Int) (s_6 : Int) (s_7 : Int) (host : Int) (secs : Int) (nonce : Int) (wish : Int) (wish_1 : Int) (outside : Int) (now : Int) (epoch : Int) (epochAt : Int) (hasEpoch : Bool) (m_1 : List ((Option Addr × Nat × Nat) × List (Int))) (K : List ((Option Addr × Nat × Nat)) → Int → Int → List ((Option Addr × Nat × Nat) × List (Int)) → Prop) : Prop :=
  mapper_Mapper_ask_wp s s_1 s_2 s_3 s_4 s_5 s_6 s_7 host secs nonce wish wish_1 outside now epoch epochAt hasEpoch m_1 (fun (rs : List ((Option Addr × Nat × Nat))) (s_10 : Int) (s_11 : Int) (m_3 : List ((Option Addr × Nat × Nat) × List (Int))) => K rs s_10 s_11 m_3)
theorem mapper_Mapper_renewing_ok {b_1 : Nat} {s : Int} {s_1 : Int} {s_2 : Int} {s_3 : Int} {s_4 : Int} {s_5 : Int} {s_6 : Int} {s_7 : Int} {host : Int} {secs : Int} {nonce : Int} {wish : Int} {wish_1 : Int} {outside : Int} {now : Int} {epoch : Int} {epochAt : Int} {hasEpoch : Bool} {m_1 : List ((Option Addr × Nat × Nat) × List (Int))} {FL : List HP} {w : World} {K : List ((Option Addr × Nat × Nat)) → Int → Int → List ((Option Addr × Nat × Nat) × List (Int)) → Prop} {R : Value → World → Prop}
  (h : Mem (cel b_1 47 [(Value.int .i64 s), (Value.int .i64 s_1), (Value.int .i64 s_2), (Value.int .u32 s_3), (Value.int .i64 s_4), (Value.int .i64 s_5), (Value.int .i64 s_6), (Value.int .i64 s_7), (Value.int .u32 host), (Value.int .i64 secs), (Value.int .u64 nonce), (Value.int .u32 wish), (Value.int .i64 wish_1), (Value.int .u32 outside), (Value.int .i64 now), (Value.int .i64 epoch), (Value.int .i64 epochAt), (Value.bool hasEpoch)] :: poolP enc5 5 1 m_1 :: FL) w) (hp : mapper_Mapper_renewing_wp s s_1 s_2 s_3 s_4 s_5 s_6 s_7 host secs nonce wish wish_1 outside now epoch epochAt hasEpoch m_1 K)
  (hR : ∀ (rs : List ((Option Addr × Nat × Nat))) (s_8 : Int) (s_9 : Int) (m_2 : List ((Option Addr × Nat × Nat) × List (Int))) (p_1 : Option Addr) (n_1 : Nat) (c_1 : Nat) (w : World), n_1 = rs.length → Mem (row enc38 38 1 p_1 c_1 rs :: cel b_1 47 [(Value.int .i64 s), (Value.int .i64 s_1), (Value.int .i64 s_2), (Value.int .u32 s_3), (Value.int .i64 s_4), (Value.int .i64 s_5), (Value.int .i64 s_8), (Value.int .i64 s_9), (Value.int .u32 host), (Value.int .i64 secs), (Value.int .u64 nonce), (Value.int .u32 wish), (Value.int .i64 wish_1), (Value.int .u32 outside), (Value.int .i64 now), (Value.int .i64 epoch), (Value.int .i64 epochAt), (Value.bool hasEpoch)] :: poolP enc5 5 1 m_2 :: FL) w → K rs s_8 s_9 m_2 → R (Value.slice p_1 n_1 c_1) w) :
  CallV Try.prog 23 #[(Value.pointer (some (Addr.mk b_1 0 none)))] w R := by
  refine mapper_Mapper_renewing_call ?_
  unfold mapper_Mapper_renewing
  unfold mapper_Mapper_renewing_wp at hp
  refine mapper_Mapper_ask_ok h hp ?_
  rintro rs s_10 s_11 m_3 p_1 n_1 c_1 w rfl h hp
  have cpp_1 := rowCap h 0 rfl
  refine ⟨_, _, _, rfl, ?_⟩
  exact hR rs s_10 s_11 m_3 p_1 rs.length c_1 _ rfl h hp

end Go.Proofs.Ytighenkbdiahpaa
