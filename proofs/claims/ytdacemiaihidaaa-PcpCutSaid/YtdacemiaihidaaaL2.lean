/- Each function over plain data (printed by a program of this claim's author). -/
import Derived.Test.YtdacemiaihidaaaL1
namespace Go.Proofs.Ytdacemiaihidaaa
open Go Go.Eng Go.Proofs
set_option maxRecDepth 100000
set_option maxHeartbeats 2000000

/-! embrasure/embrasureref10.nonce (46) -/
def embrasureref10_nonce_wp (v : Int) (K : List (Int) → Prop) : Prop :=
  embrasureref09_Big_wp (IntKind.wrap .i64 (IntKind.wrap .u64 (Int.tdiv v 4294967296))) 4 (fun (rs : List (Int)) => ([0, 0, 0, 0].length + rs.length) * 1 ≤ 140737488355328 ∧ (embrasureref09_Big_wp (IntKind.wrap .i64 (Int.tmod v 4294967296)) 4 (fun (rs_1 : List (Int)) => (([0, 0, 0, 0] ++ rs).length + rs_1.length) * 1 ≤ 140737488355328 ∧ (K (([0, 0, 0, 0] ++ rs) ++ rs_1)))))
theorem embrasureref10_nonce_ok {v : Int} {FL : List HP} {w : World} {K : List (Int) → Prop} {R : Value → World → Prop}
  (h : Mem (FL) w) (hp : embrasureref10_nonce_wp v K)
  (hR : ∀ (rs : List (Int)) (p_1 : Option Addr) (n_1 : Nat) (c_1 : Nat) (w : World), n_1 = rs.length → Mem (row enc5 5 1 p_1 c_1 rs :: FL) w → K rs → R (Value.slice p_1 n_1 c_1) w) :
  CallV Try.prog 46 #[(Value.int .u64 v)] w R := by
  refine embrasureref10_nonce_call ?_
  unfold embrasureref10_nonce
  unfold embrasureref10_nonce_wp at hp
  refine newL (o := [(Value.int .u8 0), (Value.int .u8 0), (Value.int .u8 0), (Value.int .u8 0)]) h ?_
  intro b_1 w h
  refine ⟨by decide, ?_⟩
  refine embrasureref09_Big_ok h hp ?_
  rintro rs p_1 n_1 c_1 w rfl h hp
  have cpp_1 := rowCap h 0 rfl
  refine ⟨_, _, _, rfl, ?_⟩
  have sr := (rowRd h 0 encL5 rfl)
  replace h := rowOfCel h 1 encL5 rfl [0, 0, 0, 0] rfl
  dsimp only [setH, setVs, setV] at h
  obtain ⟨hb, hp⟩ := hp
  refine appendL slt27 und27 encL5 encO5 h 1 rfl rfl sr rfl hb ?_
  intro p_2 c_2 w h
  dsimp only [setH, setVs, setV] at h
  have cpp_2 := rowCap h 1 rfl
  refine ⟨_, _, _, rfl, ?_⟩
  refine ⟨by decide, ?_⟩
  refine embrasureref09_Big_ok h hp ?_
  rintro rs_1 p_3 n_2 c_3 w rfl h hp
  have cpp_3 := rowCap h 0 rfl
  refine ⟨_, _, _, rfl, ?_⟩
  have sr_1 := (rowRd h 0 encL5 rfl)
  obtain ⟨hb, hp⟩ := hp
  refine appendL slt27 und27 encL5 encO5 h 2 rfl rfl sr_1 rfl hb ?_
  intro p_4 c_4 w h
  dsimp only [setH, setVs, setV] at h
  have cpp_4 := rowCap h 2 rfl
  refine ⟨_, _, _, rfl, ?_⟩
  replace h := h.sel [2] 2
  dsimp only [pickL, pickR, nthH, delH, dropH, List.cons_append, List.nil_append] at h
  exact hR (([0, 0, 0, 0] ++ rs) ++ rs_1) p_4 ((([0, 0, 0, 0] ++ rs) ++ rs_1).length) c_4 _ rfl h hp

/-! embrasure/embrasureref10.tail (29) -/
def embrasureref10_tail_wp (l_Ver : Int) (l_Inside : Int) (l_Port : Int) (l_Secs : Int) (l_Nonce : Int) (l_Result : Int) (l_Epoch : Int) (l_Host : Int) (K : List (Int) → Prop) : Prop :=
  embrasureref10_nonce_wp l_Nonce (fun (rs : List (Int)) => (rs.length + [17, 0, 0, 0].length) * 1 ≤ 140737488355328 ∧ (embrasureref09_Big_wp l_Inside 2 (fun (rs_1 : List (Int)) => ((rs ++ [17, 0, 0, 0]).length + rs_1.length) * 1 ≤ 140737488355328 ∧ (embrasureref09_Big_wp l_Port 2 (fun (rs_2 : List (Int)) => (((rs ++ [17, 0, 0, 0]) ++ rs_1).length + rs_2.length) * 1 ≤ 140737488355328 ∧ (embrasureref10_host_wp l_Host (fun (rs_3 : List (Int)) => ((((rs ++ [17, 0, 0, 0]) ++ rs_1) ++ rs_2).length + rs_3.length) * 1 ≤ 140737488355328 ∧ (K ((((rs ++ [17, 0, 0, 0]) ++ rs_1) ++ rs_2) ++ rs_3)))))))))
theorem embrasureref10_tail_ok {l_Ver : Int} {l_Inside : Int} {l_Port : Int} {l_Secs : Int} {l_Nonce : Int} {l_Result : Int} {l_Epoch : Int} {l_Host : Int} {FL : List HP} {w : World} {K : List (Int) → Prop} {R : Value → World → Prop}
  (h : Mem (FL) w) (hp : embrasureref10_tail_wp l_Ver l_Inside l_Port l_Secs l_Nonce l_Result l_Epoch l_Host K)
  (hR : ∀ (rs : List (Int)) (p_1 : Option Addr) (n_1 : Nat) (c_1 : Nat) (w : World), n_1 = rs.length → Mem (row enc5 5 1 p_1 c_1 rs :: FL) w → K rs → R (Value.slice p_1 n_1 c_1) w) :
  CallV Try.prog 29 #[(Value.agg #[(Value.int .i64 l_Ver), (Value.int .i64 l_Inside), (Value.int .i64 l_Port), (Value.int .i64 l_Secs), (Value.int .u64 l_Nonce), (Value.int .i64 l_Result), (Value.int .i64 l_Epoch), (Value.int .u32 l_Host)])] w R := by
  refine embrasureref10_tail_call ?_
  unfold embrasureref10_tail
  unfold embrasureref10_tail_wp at hp
  refine newL (o := [(Value.int .i64 l_Ver), (Value.int .i64 l_Inside), (Value.int .i64 l_Port), (Value.int .i64 l_Secs), (Value.int .u64 l_Nonce), (Value.int .i64 l_Result), (Value.int .i64 l_Epoch), (Value.int .u32 l_Host)]) h ?_
  intro b_1 w h
  refine ⟨_, cellL h 0 4 rfl rfl rfl, ?_⟩
  refine embrasureref10_nonce_ok h hp ?_
  rintro rs p_1 n_1 c_1 w rfl h hp
  have cpp_1 := rowCap h 0 rfl
  refine ⟨_, _, _, rfl, ?_⟩
  refine newL (o := [(Value.int .u8 17), (Value.int .u8 0), (Value.int .u8 0), (Value.int .u8 0)]) h ?_
  intro b_2 w h
  have sr := (celRd h 0 encL5 rfl [17, 0, 0, 0] rfl)
  obtain ⟨hb, hp⟩ := hp
  refine appendL slt27 und27 encL5 encO5 h 1 rfl rfl sr rfl hb ?_
  intro p_2 c_2 w h
  dsimp only [setH, setVs, setV] at h
  have cpp_2 := rowCap h 1 rfl
  refine ⟨_, _, _, rfl, ?_⟩
  replace h := h.drew
  refine ⟨fun w => Mem (cel b_1 25 [(Value.int .i64 l_Ver), (Value.int .i64 l_Inside), (Value.int .i64 l_Port), (Value.int .i64 l_Secs), (Value.int .u64 l_Nonce), (Value.int .i64 l_Result), (Value.int .i64 l_Epoch), (Value.int .u32 l_Host)] :: FL) w, (h.sel [2] 2), ?_⟩
  refine ⟨_, cellL h 2 1 rfl rfl rfl, ?_⟩
  refine ⟨_, cellL h 2 2 rfl rfl rfl, ?_⟩
  refine ⟨?_, ?_⟩
  · intro w h
    change Mem _ _ at h
    refine ⟨_, cellL h 0 2 rfl rfl rfl, ?_⟩
    exact ⟨rfl, rfl⟩
  refine embrasureref09_Big_ok h hp ?_
  rintro rs_1 p_3 n_2 c_3 w rfl h hp
  have cpp_3 := rowCap h 0 rfl
  refine ⟨_, _, _, rfl, ?_⟩
  refine ⟨(h.sel [3] 3), ?_⟩
  have sr_1 := (rowRd h 0 encL5 rfl)
  obtain ⟨hb, hp⟩ := hp
  refine appendL slt27 und27 encL5 encO5 h 2 rfl rfl sr_1 rfl hb ?_
  intro p_4 c_4 w h
  dsimp only [setH, setVs, setV] at h
  have cpp_4 := rowCap h 2 rfl
  refine ⟨_, _, _, rfl, ?_⟩
  refine ⟨(h.sel [3] 3), ?_⟩
  refine embrasureref09_Big_ok h hp ?_
  rintro rs_2 p_5 n_3 c_5 w rfl h hp
  have cpp_5 := rowCap h 0 rfl
  refine ⟨_, _, _, rfl, ?_⟩
  have sr_2 := (rowRd h 0 encL5 rfl)
  obtain ⟨hb, hp⟩ := hp
  refine appendL slt27 und27 encL5 encO5 h 3 rfl rfl sr_2 rfl hb ?_
  intro p_6 c_6 w h
  dsimp only [setH, setVs, setV] at h
  have cpp_6 := rowCap h 3 rfl
  refine ⟨_, _, _, rfl, ?_⟩
  refine ⟨_, cellL h 4 7 rfl rfl rfl, ?_⟩
  refine embrasureref10_host_ok h hp ?_
  rintro rs_3 p_7 n_4 c_7 w rfl h hp
  have cpp_7 := rowCap h 0 rfl
  refine ⟨_, _, _, rfl, ?_⟩
  have sr_3 := (rowRd h 0 encL5 rfl)
  obtain ⟨hb, hp⟩ := hp
  refine appendL slt27 und27 encL5 encO5 h 4 rfl rfl sr_3 rfl hb ?_
  intro p_8 c_8 w h
  dsimp only [setH, setVs, setV] at h
  have cpp_8 := rowCap h 4 rfl
  refine ⟨_, _, _, rfl, ?_⟩
  replace h := h.sel [4] 5
  dsimp only [pickL, pickR, nthH, delH, dropH, List.cons_append, List.nil_append] at h
  exact hR ((((rs ++ [17, 0, 0, 0]) ++ rs_1) ++ rs_2) ++ rs_3) p_8 (((((rs ++ [17, 0, 0, 0]) ++ rs_1) ++ rs_2) ++ rs_3).length) c_8 _ rfl h hp

/-! embrasure/embrasureref10.Ask (11) -/
def embrasureref10_Ask_wp (l_Ver : Int) (l_Inside : Int) (l_Port : Int) (l_Secs : Int) (l_Nonce : Int) (l_Result : Int) (l_Epoch : Int) (l_Host : Int) (client : Int) (K : List (Int) → Prop) : Prop :=
  joinP1 (fun (t18 : Bool) => cond t18 (K ([] : List (Int))) (embrasureref09_Big_wp l_Secs 4 (fun (rs : List (Int)) => ([2, 1, 0, 0].length + rs.length) * 1 ≤ 140737488355328 ∧ (embrasureref10_host_wp client (fun (rs_1 : List (Int)) => (([2, 1, 0, 0] ++ rs).length + rs_1.length) * 1 ≤ 140737488355328 ∧ (embrasureref10_tail_wp l_Ver l_Inside l_Port l_Secs l_Nonce l_Result l_Epoch l_Host (fun (rs_2 : List (Int)) => ((([2, 1, 0, 0] ++ rs) ++ rs_1).length + rs_2.length) * 1 ≤ 140737488355328 ∧ (K ((([2, 1, 0, 0] ++ rs) ++ rs_1) ++ rs_2))))))))) (fun (Q : Bool → Prop) => embrasureref10_may_wp l_Ver l_Inside l_Port l_Secs l_Nonce l_Result l_Epoch l_Host (fun (r : Bool) => cond (!r) (Q true) (cond ((l_Epoch : Int) != 0) (Q true) (Q ((l_Result : Int) != 0)))))
theorem embrasureref10_Ask_ok {l_Ver : Int} {l_Inside : Int} {l_Port : Int} {l_Secs : Int} {l_Nonce : Int} {l_Result : Int} {l_Epoch : Int} {l_Host : Int} {client : Int} {FL : List HP} {w : World} {K : List (Int) → Prop} {R : Value → World → Prop}
  (h : Mem (FL) w) (hp : embrasureref10_Ask_wp l_Ver l_Inside l_Port l_Secs l_Nonce l_Result l_Epoch l_Host client K)
  (hR : ∀ (rs : List (Int)) (p_1 : Option Addr) (n_1 : Nat) (c_1 : Nat) (w : World), n_1 = rs.length → Mem (row enc5 5 1 p_1 c_1 rs :: FL) w → K rs → R (Value.slice p_1 n_1 c_1) w) :
  CallV Try.prog 11 #[(Value.agg #[(Value.int .i64 l_Ver), (Value.int .i64 l_Inside), (Value.int .i64 l_Port), (Value.int .i64 l_Secs), (Value.int .u64 l_Nonce), (Value.int .i64 l_Result), (Value.int .i64 l_Epoch), (Value.int .u32 l_Host)]), (Value.int .u32 client)] w R := by
  refine embrasureref10_Ask_call ?_
  unfold embrasureref10_Ask
  unfold embrasureref10_Ask_wp at hp
  refine newL (o := [(Value.int .i64 l_Ver), (Value.int .i64 l_Inside), (Value.int .i64 l_Port), (Value.int .i64 l_Secs), (Value.int .u64 l_Nonce), (Value.int .i64 l_Result), (Value.int .i64 l_Epoch), (Value.int .u32 l_Host)]) h ?_
  intro b_1 w h
  obtain ⟨Q, hq, hp⟩ := hp
  refine ⟨fun client1 l2 t18 w => client = client1 ∧ (Addr.mk b_1 0 none) = l2 ∧ Q t18 ∧ Mem (cel b_1 25 [(Value.int .i64 l_Ver), (Value.int .i64 l_Inside), (Value.int .i64 l_Port), (Value.int .i64 l_Secs), (Value.int .u64 l_Nonce), (Value.int .i64 l_Result), (Value.int .i64 l_Epoch), (Value.int .u32 l_Host)] :: FL) w, ?_, ?_⟩
  · rintro client1 l2 t18 w ⟨rfl, rfl, hp, h⟩
    replace hp := hq t18 hp
    unfold embrasureref10_Ask_j1
    refine cond_both hp (fun hp => ?_) (fun hp => ?_)
    · replace h := rowNil enc5 5 1 h
      replace h := h.sel [0] 1
      dsimp only [pickL, pickR, nthH, delH, dropH, List.cons_append, List.nil_append] at h
      exact hR ([] : List (Int)) (none ) 0 0 _ rfl h hp
    refine newL (o := [(Value.int .u8 2), (Value.int .u8 1), (Value.int .u8 0), (Value.int .u8 0)]) h ?_
    intro b_2 w h
    refine ⟨_, cellL h 1 3 rfl rfl rfl, ?_⟩
    refine embrasureref09_Big_ok h hp ?_
    rintro rs p_2 n_1 c_1 w rfl h hp
    have cpp_2 := rowCap h 0 rfl
    refine ⟨_, _, _, rfl, ?_⟩
    have sr := (rowRd h 0 encL5 rfl)
    replace h := rowOfCel h 1 encL5 rfl [2, 1, 0, 0] rfl
    dsimp only [setH, setVs, setV] at h
    obtain ⟨hb, hp⟩ := hp
    refine appendL slt27 und27 encL5 encO5 h 1 rfl rfl sr rfl hb ?_
    intro p_3 c_2 w h
    dsimp only [setH, setVs, setV] at h
    have cpp_3 := rowCap h 1 rfl
    refine ⟨_, _, _, rfl, ?_⟩
    refine embrasureref10_host_ok h hp ?_
    rintro rs_1 p_4 n_2 c_3 w rfl h hp
    have cpp_4 := rowCap h 0 rfl
    refine ⟨_, _, _, rfl, ?_⟩
    have sr_1 := (rowRd h 0 encL5 rfl)
    obtain ⟨hb, hp⟩ := hp
    refine appendL slt27 und27 encL5 encO5 h 2 rfl rfl sr_1 rfl hb ?_
    intro p_5 c_4 w h
    dsimp only [setH, setVs, setV] at h
    have cpp_5 := rowCap h 2 rfl
    refine ⟨_, _, _, rfl, ?_⟩
    refine ⟨_, cellL h 3 0 rfl rfl rfl, _, cellL h 3 1 rfl rfl rfl, _, cellL h 3 2 rfl rfl rfl, _, cellL h 3 3 rfl rfl rfl, _, cellL h 3 4 rfl rfl rfl, _, cellL h 3 5 rfl rfl rfl, _, cellL h 3 6 rfl rfl rfl, _, cellL h 3 7 rfl rfl rfl, ?_⟩
    refine embrasureref10_tail_ok h hp ?_
    rintro rs_2 p_6 n_3 c_5 w rfl h hp
    have cpp_6 := rowCap h 0 rfl
    refine ⟨_, _, _, rfl, ?_⟩
    have sr_2 := (rowRd h 0 encL5 rfl)
    obtain ⟨hb, hp⟩ := hp
    refine appendL slt27 und27 encL5 encO5 h 3 rfl rfl sr_2 rfl hb ?_
    intro p_7 c_6 w h
    dsimp only [setH, setVs, setV] at h
    have cpp_7 := rowCap h 3 rfl
    refine ⟨_, _, _, rfl, ?_⟩
    replace h := h.sel [3] 4
    dsimp only [pickL, pickR, nthH, delH, dropH, List.cons_append, List.nil_append] at h
    exact hR ((([2, 1, 0, 0] ++ rs) ++ rs_1) ++ rs_2) p_7 (((([2, 1, 0, 0] ++ rs) ++ rs_1) ++ rs_2).length) c_6 _ rfl h hp
  clear hq
  refine ⟨_, cellL h 0 0 rfl rfl rfl, _, cellL h 0 1 rfl rfl rfl, _, cellL h 0 2 rfl rfl rfl, _, cellL h 0 3 rfl rfl rfl, _, cellL h 0 4 rfl rfl rfl, _, cellL h 0 5 rfl rfl rfl, _, cellL h 0 6 rfl rfl rfl, _, cellL h 0 7 rfl rfl rfl, ?_⟩
  refine embrasureref10_may_ok h hp ?_
  intro r w h hp
  refine ⟨_, rfl, ?_⟩
  refine cond_both hp (fun hp => ?_) (fun hp => ?_)
  · exact ⟨rfl, rfl, hp, h⟩
  refine ⟨_, cellL h 0 6 rfl rfl rfl, ?_⟩
  refine cond_both hp (fun hp => ?_) (fun hp => ?_)
  · exact ⟨rfl, rfl, hp, h⟩
  refine ⟨_, cellL h 0 5 rfl rfl rfl, ?_⟩
  exact ⟨rfl, rfl, hp, h⟩

/-! embrasure/embrasureref01.Same (10) -/
def embrasureref01_Same_wp (a_1 : List (Int)) (b_1 : List (Int)) (K : Bool → Prop) : Prop :=
  cond ((((a_1.length : Nat) : Int) : Int) != ((b_1.length : Nat) : Int)) (K false) (∃ (I : Nat → Int → Prop), (∃ (n_5 : Nat), I n_5 0) ∧ ∀ (n_3 : Nat) (i5 : Int), I n_3 i5 → (cond (decide ((i5 : Int) < ((a_1.length : Nat) : Int))) (0 ≤ (i5 : Int) ∧ (i5 : Int) < ((a_1.length : Nat) : Int) ∧ (∀ (x_1 : Int), a_1[Int.toNat i5]? = some x_1 → (0 ≤ (i5 : Int) ∧ (i5 : Int) < ((b_1.length : Nat) : Int) ∧ (∀ (x_2 : Int), b_1[Int.toNat i5]? = some x_2 → (cond ((x_1 : Int) != x_2) (K false) (∃ (n_4 : Nat), n_4 < n_3 ∧ I n_4 (IntKind.wrap .i64 (i5 + 1)))))))) (K true)))
theorem embrasureref01_Same_ok {p_1 : Option Addr} {n_1 : Nat} {c_1 : Nat} {p_2 : Option Addr} {n_2 : Nat} {c_2 : Nat} {a_1 : List (Int)} {b_1 : List (Int)} {FL : List HP} {w : World} {K : Bool → Prop} {R : Value → World → Prop}
  (hF_a_1 : ∀ w, Mem FL w → Rd w 1 p_1 enc5 a_1) (hl_a_1 : n_1 = a_1.length) (hc_a_1 : n_1 ≤ c_1)
  (hF_b_1 : ∀ w, Mem FL w → Rd w 1 p_2 enc5 b_1) (hl_b_1 : n_2 = b_1.length) (hc_b_1 : n_2 ≤ c_2)
  (h : Mem (FL) w) (hp : embrasureref01_Same_wp a_1 b_1 K)
  (hR : ∀ (r : Bool) (w : World), Mem (FL) w → K r → R (Value.bool r) w) :
  CallV Try.prog 10 #[(Value.slice p_1 n_1 c_1), (Value.slice p_2 n_2 c_2)] w R := by
  refine embrasureref01_Same_call ?_
  unfold embrasureref01_Same
  unfold embrasureref01_Same_wp at hp
  subst hl_a_1
  subst hl_b_1
  refine cond_both hp (fun hp => ?_) (fun hp => ?_)
  · exact hR false _ h hp
  obtain ⟨I, ⟨n_5, h0⟩, hq⟩ := hp
  refine ⟨fun n_3 a0p a0l a0c b1p b1l b1c i5 w => p_1 = a0p ∧ a_1.length = a0l ∧ c_1 = a0c ∧ p_2 = b1p ∧ b_1.length = b1l ∧ c_2 = b1c ∧ I n_3 i5 ∧ Mem (FL) w, ⟨n_5, rfl, rfl, rfl, rfl, rfl, rfl, h0, h⟩, ?_⟩
  clear h0 h
  rintro n_3 a0p a0l a0c b1p b1l b1c i5 w ⟨rfl, rfl, rfl, rfl, rfl, rfl, hp, h⟩
  replace hp := hq n_3 i5 hp
  clear hq
  unfold embrasureref01_Same_l1
  refine cond_both' hp (fun hp => ?_) (fun hp => ?_)
  · exact hR true _ h hp
  replace h := h.drew
  obtain ⟨ia_2, ja_2, hp⟩ := hp
  obtain ⟨a_2, ha_2⟩ := rdAddr (hF_a_1 _ (h.drop 0)) rfl ia_2 ja_2
  refine ⟨a_2, ha_2, ia_2, ja_2, ?_⟩
  obtain ⟨x_1, hx_1, hc⟩ := rdCell0 (hF_a_1 _ (h.drop 0)) ha_2 rfl ia_2 ja_2
  replace hp := hp x_1 hx_1
  refine ⟨_, hc _ rfl, ?_⟩
  obtain ⟨ia_3, ja_3, hp⟩ := hp
  obtain ⟨a_3, ha_3⟩ := rdAddr (hF_b_1 _ (h.drop 0)) rfl ia_3 ja_3
  refine ⟨a_3, ha_3, ia_3, ja_3, ?_⟩
  obtain ⟨x_2, hx_2, hc⟩ := rdCell0 (hF_b_1 _ (h.drop 0)) ha_3 rfl ia_3 ja_3
  replace hp := hp x_2 hx_2
  refine ⟨_, hc _ rfl, ?_⟩
  refine cond_both hp (fun hp => ?_) (fun hp => ?_)
  · exact hR false _ h hp
  obtain ⟨n_4, hn, hp⟩ := hp
  exact ⟨n_4, hn, rfl, rfl, rfl, rfl, rfl, rfl, hp, h⟩

/-! embrasure/embrasureref10.Answer (12) -/
def embrasureref10_Answer_wp (l_Ver : Int) (l_Inside : Int) (l_Port : Int) (l_Secs : Int) (l_Nonce : Int) (l_Result : Int) (l_Epoch : Int) (l_Host : Int) (K : List (Int) → Prop) : Prop :=
  embrasureref10_may_wp l_Ver l_Inside l_Port l_Secs l_Nonce l_Result l_Epoch l_Host (fun (r : Bool) => cond (!r) (K ([] : List (Int))) (joinP1 (fun (out : List (Int)) => 0 ≤ (12 : Int) ∧ (out.length + Int.toNat 12) * 1 ≤ 140737488355328 ∧ (embrasureref10_tail_wp l_Ver l_Inside l_Port l_Secs l_Nonce l_Result l_Epoch l_Host (fun (rs : List (Int)) => ((out ++ List.replicate (Int.toNat 12) 0).length + rs.length) * 1 ≤ 140737488355328 ∧ (K ((out ++ List.replicate (Int.toNat 12) 0) ++ rs))))) (fun (Q : List (Int) → Prop) => (embrasureref09_Big_wp l_Secs 4 (fun (rs_1 : List (Int)) => ([2, 129, 0, (IntKind.wrap .u8 l_Result)].length + rs_1.length) * 1 ≤ 140737488355328 ∧ (embrasureref09_Big_wp l_Epoch 4 (fun (rs_2 : List (Int)) => (([2, 129, 0, (IntKind.wrap .u8 l_Result)] ++ rs_1).length + rs_2.length) * 1 ≤ 140737488355328 ∧ (Q (([2, 129, 0, (IntKind.wrap .u8 l_Result)] ++ rs_1) ++ rs_2)))))) ∧ (embrasureref09_Big_wp l_Secs 4 (fun (rs_3 : List (Int)) => ([2, 129, 0, (IntKind.wrap .u8 l_Result)].length + rs_3.length) * 1 ≤ 140737488355328 ∧ (embrasureref09_Big_wp l_Epoch 4 (fun (rs_4 : List (Int)) => (([2, 129, 0, (IntKind.wrap .u8 l_Result)] ++ rs_3).length + rs_4.length) * 1 ≤ 140737488355328 ∧ (Q (([2, 129, 0, (IntKind.wrap .u8 l_Result)] ++ rs_3) ++ rs_4)))))))))
theorem embrasureref10_Answer_ok {l_Ver : Int} {l_Inside : Int} {l_Port : Int} {l_Secs : Int} {l_Nonce : Int} {l_Result : Int} {l_Epoch : Int} {l_Host : Int} {FL : List HP} {w : World} {K : List (Int) → Prop} {R : Value → World → Prop}
  (h : Mem (FL) w) (hp : embrasureref10_Answer_wp l_Ver l_Inside l_Port l_Secs l_Nonce l_Result l_Epoch l_Host K)
  (hR : ∀ (rs : List (Int)) (p_1 : Option Addr) (n_1 : Nat) (c_1 : Nat) (w : World), n_1 = rs.length → Mem (row enc5 5 1 p_1 c_1 rs :: FL) w → K rs → R (Value.slice p_1 n_1 c_1) w) :
  CallV Try.prog 12 #[(Value.agg #[(Value.int .i64 l_Ver), (Value.int .i64 l_Inside), (Value.int .i64 l_Port), (Value.int .i64 l_Secs), (Value.int .u64 l_Nonce), (Value.int .i64 l_Result), (Value.int .i64 l_Epoch), (Value.int .u32 l_Host)])] w R := by
  refine embrasureref10_Answer_call ?_
  unfold embrasureref10_Answer
  unfold embrasureref10_Answer_wp at hp
  refine newL (o := [(Value.int .i64 l_Ver), (Value.int .i64 l_Inside), (Value.int .i64 l_Port), (Value.int .i64 l_Secs), (Value.int .u64 l_Nonce), (Value.int .i64 l_Result), (Value.int .i64 l_Epoch), (Value.int .u32 l_Host)]) h ?_
  intro b_1 w h
  refine ⟨_, cellL h 0 0 rfl rfl rfl, _, cellL h 0 1 rfl rfl rfl, _, cellL h 0 2 rfl rfl rfl, _, cellL h 0 3 rfl rfl rfl, _, cellL h 0 4 rfl rfl rfl, _, cellL h 0 5 rfl rfl rfl, _, cellL h 0 6 rfl rfl rfl, _, cellL h 0 7 rfl rfl rfl, ?_⟩
  refine embrasureref10_may_ok h hp ?_
  intro r w h hp
  refine ⟨_, rfl, ?_⟩
  refine cond_both hp (fun hp => ?_) (fun hp => ?_)
  · replace h := rowNil enc5 5 1 h
    replace h := h.sel [0] 1
    dsimp only [pickL, pickR, nthH, delH, dropH, List.cons_append, List.nil_append] at h
    exact hR ([] : List (Int)) (none ) 0 0 _ rfl h hp
  obtain ⟨Q, hq, hp⟩ := hp
  refine ⟨fun l1 out3p out3l out3c w => ∃ (out : List (Int)), (Addr.mk b_1 0 none) = l1 ∧ out3l = out.length ∧ Q out ∧ Mem (cel b_1 25 [(Value.int .i64 l_Ver), (Value.int .i64 l_Inside), (Value.int .i64 l_Port), (Value.int .i64 l_Secs), (Value.int .u64 l_Nonce), (Value.int .i64 l_Result), (Value.int .i64 l_Epoch), (Value.int .u32 l_Host)] :: row enc5 5 1 out3p out3c out :: FL) w, ?_, ?_⟩
  · rintro l1 out3p out3l out3c w ⟨out, rfl, rfl, hp, h⟩
    replace hp := hq out hp
    unfold embrasureref10_Answer_j1
    have cpout3p := rowCap h 1 rfl
    replace h := h.drew
    refine ⟨fun w => Mem (cel b_1 25 [(Value.int .i64 l_Ver), (Value.int .i64 l_Inside), (Value.int .i64 l_Port), (Value.int .i64 l_Secs), (Value.int .u64 l_Nonce), (Value.int .i64 l_Result), (Value.int .i64 l_Epoch), (Value.int .u32 l_Host)] :: FL) w, (h.sel [0] 1), ?_⟩
    refine ⟨_, cellL h 0 0 rfl rfl rfl, _, cellL h 0 1 rfl rfl rfl, _, cellL h 0 2 rfl rfl rfl, _, cellL h 0 3 rfl rfl rfl, _, cellL h 0 4 rfl rfl rfl, _, cellL h 0 5 rfl rfl rfl, _, cellL h 0 6 rfl rfl rfl, _, cellL h 0 7 rfl rfl rfl, ?_⟩
    refine ⟨?_, ?_⟩
    · intro w h
      change Mem _ _ at h
      refine ⟨_, cellL h 0 0 rfl rfl rfl, _, cellL h 0 1 rfl rfl rfl, _, cellL h 0 2 rfl rfl rfl, _, cellL h 0 3 rfl rfl rfl, _, cellL h 0 4 rfl rfl rfl, _, cellL h 0 5 rfl rfl rfl, _, cellL h 0 6 rfl rfl rfl, _, cellL h 0 7 rfl rfl rfl, ?_⟩
      exact ⟨rfl, rfl⟩
    obtain ⟨za, zb, hp⟩ := hp
    refine appendZ (x0 := 0) slt27 undn3 encL5 encO5 rfl h 1 rfl rfl (by decide) za zb ?_
    intro p_2 c_1 w h
    dsimp only [setH, setVs, setV] at h
    have cpp_2 := rowCap h 1 rfl
    refine ⟨_, _, _, rfl, ?_⟩
    refine ⟨(h.sel [0] 1), ?_⟩
    refine embrasureref10_tail_ok h hp ?_
    rintro rs p_3 n_1 c_2 w rfl h hp
    have cpp_3 := rowCap h 0 rfl
    refine ⟨_, _, _, rfl, ?_⟩
    have sr := (rowRd h 0 encL5 rfl)
    obtain ⟨hb, hp⟩ := hp
    refine appendL slt27 und27 encL5 encO5 h 2 rfl rfl sr rfl hb ?_
    intro p_4 c_3 w h
    dsimp only [setH, setVs, setV] at h
    have cpp_4 := rowCap h 2 rfl
    refine ⟨_, _, _, rfl, ?_⟩
    replace h := h.sel [2] 2
    dsimp only [pickL, pickR, nthH, delH, dropH, List.cons_append, List.nil_append] at h
    exact hR ((out ++ List.replicate (Int.toNat 12) 0) ++ rs) p_4 (((out ++ List.replicate (Int.toNat 12) 0) ++ rs).length) c_3 _ rfl h hp
  clear hq
  replace h := h.drew
  refine ⟨fun w => Mem (cel b_1 25 [(Value.int .i64 l_Ver), (Value.int .i64 l_Inside), (Value.int .i64 l_Port), (Value.int .i64 l_Secs), (Value.int .u64 l_Nonce), (Value.int .i64 l_Result), (Value.int .i64 l_Epoch), (Value.int .u32 l_Host)] :: FL) w, (h.sel [0] 0), ?_⟩
  refine ⟨_, cellL h 0 5 rfl rfl rfl, ?_⟩
  refine ⟨?_, ?_⟩
  · intro w h
    change Mem _ _ at h
    refine ⟨_, cellL h 0 5 rfl rfl rfl, ?_⟩
    exact ⟨rfl, rfl⟩
  refine ⟨_, cellL h 0 3 rfl rfl rfl, ?_⟩
  refine ⟨?_, ?_⟩
  · intro w h
    change Mem _ _ at h
    refine ⟨_, cellL h 0 3 rfl rfl rfl, ?_⟩
    exact ⟨rfl, rfl⟩
  refine ⟨_, cellL h 0 6 rfl rfl rfl, ?_⟩
  refine ⟨?_, ?_⟩
  · intro w h
    change Mem _ _ at h
    refine ⟨_, cellL h 0 6 rfl rfl rfl, ?_⟩
    exact ⟨rfl, rfl⟩
  refine ⟨?_, ?_⟩
  · replace hp := hp.1
    refine newL (o := [(Value.int .u8 2), (Value.int .u8 129), (Value.int .u8 0), (Value.int .u8 (IntKind.wrap .u8 l_Result))]) h ?_
    intro b_2 w h
    refine ⟨(h.sel [1] 1), ?_⟩
    refine embrasureref09_Big_ok h hp ?_
    rintro rs_1 p_5 n_2 c_4 w rfl h hp
    have cpp_5 := rowCap h 0 rfl
    refine ⟨_, _, _, rfl, ?_⟩
    refine ⟨(h.sel [2] 2), ?_⟩
    have sr_1 := (rowRd h 0 encL5 rfl)
    replace h := rowOfCel h 1 encL5 rfl [2, 129, 0, (IntKind.wrap .u8 l_Result)] rfl
    dsimp only [setH, setVs, setV] at h
    obtain ⟨hb, hp⟩ := hp
    refine appendL slt27 und27 encL5 encO5 h 1 rfl rfl sr_1 rfl hb ?_
    intro p_6 c_5 w h
    dsimp only [setH, setVs, setV] at h
    have cpp_6 := rowCap h 1 rfl
    refine ⟨_, _, _, rfl, ?_⟩
    refine ⟨(h.sel [2] 2), ?_⟩
    refine embrasureref09_Big_ok h hp ?_
    rintro rs_2 p_7 n_3 c_6 w rfl h hp
    have cpp_7 := rowCap h 0 rfl
    refine ⟨_, _, _, rfl, ?_⟩
    have sr_2 := (rowRd h 0 encL5 rfl)
    obtain ⟨hb, hp⟩ := hp
    refine appendL slt27 und27 encL5 encO5 h 2 rfl rfl sr_2 rfl hb ?_
    intro p_8 c_7 w h
    dsimp only [setH, setVs, setV] at h
    have cpp_8 := rowCap h 2 rfl
    refine ⟨_, _, _, rfl, ?_⟩
    replace h := h.sel [3, 2] 2
    dsimp only [pickL, pickR, nthH, delH, dropH, List.cons_append, List.nil_append] at h
    exact ⟨(([2, 129, 0, (IntKind.wrap .u8 l_Result)] ++ rs_1) ++ rs_2), rfl, rfl, hp, h⟩
  replace hp := hp.2
  refine embrasureref09_Big_ok h hp ?_
  rintro rs_3 p_9 n_4 c_8 w rfl h hp
  have cpp_9 := rowCap h 0 rfl
  refine ⟨_, _, _, rfl, ?_⟩
  refine ⟨(h.sel [1] 1), ?_⟩
  refine newL (o := [(Value.int .u8 2), (Value.int .u8 129), (Value.int .u8 0), (Value.int .u8 (IntKind.wrap .u8 l_Result))]) h ?_
  intro b_3 w h
  refine ⟨(h.sel [2] 2), ?_⟩
  have sr_3 := (rowRd h 1 encL5 rfl)
  replace h := rowOfCel h 0 encL5 rfl [2, 129, 0, (IntKind.wrap .u8 l_Result)] rfl
  dsimp only [setH, setVs, setV] at h
  obtain ⟨hb, hp⟩ := hp
  refine appendL slt27 und27 encL5 encO5 h 0 rfl rfl sr_3 rfl hb ?_
  intro p_10 c_9 w h
  dsimp only [setH, setVs, setV] at h
  have cpp_10 := rowCap h 0 rfl
  refine ⟨_, _, _, rfl, ?_⟩
  refine ⟨(h.sel [2] 2), ?_⟩
  refine embrasureref09_Big_ok h hp ?_
  rintro rs_4 p_11 n_5 c_10 w rfl h hp
  have cpp_11 := rowCap h 0 rfl
  refine ⟨_, _, _, rfl, ?_⟩
  have sr_4 := (rowRd h 0 encL5 rfl)
  obtain ⟨hb, hp⟩ := hp
  refine appendL slt27 und27 encL5 encO5 h 1 rfl rfl sr_4 rfl hb ?_
  intro p_12 c_11 w h
  dsimp only [setH, setVs, setV] at h
  have cpp_12 := rowCap h 1 rfl
  refine ⟨_, _, _, rfl, ?_⟩
  replace h := h.sel [3, 1] 2
  dsimp only [pickL, pickR, nthH, delH, dropH, List.cons_append, List.nil_append] at h
  exact ⟨(([2, 129, 0, (IntKind.wrap .u8 l_Result)] ++ rs_3) ++ rs_4), rfl, rfl, hp, h⟩

/-! embrasure/embrasurelaw10.PcpTells (3) -/
def embrasurelaw10_PcpTells_wp (l_Ver : Int) (l_Inside : Int) (l_Port : Int) (l_Secs : Int) (l_Nonce : Int) (l_Result : Int) (l_Epoch : Int) (l_Host : Int) (client : Int) (K : Bool → Prop) : Prop :=
  embrasurelaw10_awake_wp (fun (r : Bool) => cond (!r) (K false) (pcp_Ask_wp l_Ver l_Inside l_Port l_Secs l_Nonce l_Result l_Epoch l_Host client (fun (rs : List (Int)) => pcp_Answer_wp l_Ver l_Inside l_Port l_Secs l_Nonce l_Result l_Epoch l_Host (fun (rs_1 : List (Int)) => joinP1 (fun (t31 : Bool) => cond t31 (K false) (pcp_ReadAsk_wp rs (fun (r_1 : Int) (r_2 : Int) (r_3 : Int) (r_4 : Int) (r_5 : Int) (r_6 : Int) (r_7 : Int) (r_8 : Int) (r_9 : Int) (r_10 : Int) => pcp_ReadAnswer_wp rs_1 (fun (r_11 : Int) (r_12 : Int) (r_13 : Int) (r_14 : Int) (r_15 : Int) (r_16 : Int) (r_17 : Int) (r_18 : Int) (r_19 : Int) => cond ((((rs.length : Nat) : Int) : Int) == 0) (cond ((((rs_1.length : Nat) : Int) : Int) == 0) (K true) (cond ((r_19 : Int) == 0) (K (((r_11 : Int) == l_Ver) && (((r_12 : Int) == l_Inside) && (((r_13 : Int) == l_Port) && (((r_14 : Int) == l_Secs) && (((r_15 : Int) == l_Nonce) && (((r_16 : Int) == l_Result) && (((r_17 : Int) == l_Epoch) && (((r_18 : Int) == l_Host) && true))))))))) (K false))) (cond ((r_10 : Int) == 0) (cond (((r_1 : Int) == l_Ver) && (((r_2 : Int) == l_Inside) && (((r_3 : Int) == l_Port) && (((r_4 : Int) == l_Secs) && (((r_5 : Int) == l_Nonce) && (((r_6 : Int) == l_Result) && (((r_7 : Int) == l_Epoch) && (((r_8 : Int) == l_Host) && true)))))))) (cond ((r_9 : Int) == client) (cond ((((rs_1.length : Nat) : Int) : Int) == 0) (K true) (cond ((r_19 : Int) == 0) (K (((r_11 : Int) == l_Ver) && (((r_12 : Int) == l_Inside) && (((r_13 : Int) == l_Port) && (((r_14 : Int) == l_Secs) && (((r_15 : Int) == l_Nonce) && (((r_16 : Int) == l_Result) && (((r_17 : Int) == l_Epoch) && (((r_18 : Int) == l_Host) && true))))))))) (K false))) (K false)) (K false)) (K false)))))) (fun (Q : Bool → Prop) => embrasureref10_Ask_wp l_Ver l_Inside l_Port l_Secs l_Nonce l_Result l_Epoch l_Host client (fun (rs_2 : List (Int)) => embrasureref01_Same_wp rs rs_2 (fun (r_20 : Bool) => cond (!r_20) (Q true) (embrasureref10_Answer_wp l_Ver l_Inside l_Port l_Secs l_Nonce l_Result l_Epoch l_Host (fun (rs_3 : List (Int)) => embrasureref01_Same_wp rs_1 rs_3 (fun (r_21 : Bool) => Q (!r_21)))))))))))
theorem embrasurelaw10_PcpTells_ok {l_Ver : Int} {l_Inside : Int} {l_Port : Int} {l_Secs : Int} {l_Nonce : Int} {l_Result : Int} {l_Epoch : Int} {l_Host : Int} {client : Int} {FL : List HP} {w : World} {K : Bool → Prop} {R : Value → World → Prop}
  (h : Mem (FL) w) (hp : embrasurelaw10_PcpTells_wp l_Ver l_Inside l_Port l_Secs l_Nonce l_Result l_Epoch l_Host client K)
  (hR : ∀ (r : Bool) (w : World), Mem (FL) w → K r → R (Value.bool r) w) :
  CallV Try.prog 3 #[(Value.agg #[(Value.int .i64 l_Ver), (Value.int .i64 l_Inside), (Value.int .i64 l_Port), (Value.int .i64 l_Secs), (Value.int .u64 l_Nonce), (Value.int .i64 l_Result), (Value.int .i64 l_Epoch), (Value.int .u32 l_Host)]), (Value.int .u32 client)] w R := by
  refine embrasurelaw10_PcpTells_call ?_
  unfold embrasurelaw10_PcpTells
  unfold embrasurelaw10_PcpTells_wp at hp
  refine newL (o := [(Value.int .i64 l_Ver), (Value.int .i64 l_Inside), (Value.int .i64 l_Port), (Value.int .i64 l_Secs), (Value.int .u64 l_Nonce), (Value.int .i64 l_Result), (Value.int .i64 l_Epoch), (Value.int .u32 l_Host)]) h ?_
  intro b_1 w h
  refine embrasurelaw10_awake_ok h hp ?_
  intro r w h hp
  refine ⟨_, rfl, ?_⟩
  refine cond_both hp (fun hp => ?_) (fun hp => ?_)
  · replace h := h.sel [] 1
    dsimp only [pickL, pickR, nthH, delH, dropH, List.cons_append, List.nil_append] at h
    exact hR false _ h hp
  refine ⟨_, cellL h 0 0 rfl rfl rfl, _, cellL h 0 1 rfl rfl rfl, _, cellL h 0 2 rfl rfl rfl, _, cellL h 0 3 rfl rfl rfl, _, cellL h 0 4 rfl rfl rfl, _, cellL h 0 5 rfl rfl rfl, _, cellL h 0 6 rfl rfl rfl, _, cellL h 0 7 rfl rfl rfl, ?_⟩
  refine pcp_Ask_ok h hp ?_
  rintro rs p_1 n_1 c_1 w rfl h hp
  have cpp_1 := rowCap h 0 rfl
  refine ⟨_, _, _, rfl, ?_⟩
  refine ⟨_, cellL h 1 0 rfl rfl rfl, _, cellL h 1 1 rfl rfl rfl, _, cellL h 1 2 rfl rfl rfl, _, cellL h 1 3 rfl rfl rfl, _, cellL h 1 4 rfl rfl rfl, _, cellL h 1 5 rfl rfl rfl, _, cellL h 1 6 rfl rfl rfl, _, cellL h 1 7 rfl rfl rfl, ?_⟩
  refine pcp_Answer_ok h hp ?_
  rintro rs_1 p_2 n_2 c_2 w rfl h hp
  have cpp_2 := rowCap h 0 rfl
  refine ⟨_, _, _, rfl, ?_⟩
  obtain ⟨Q, hq, hp⟩ := hp
  refine ⟨fun client1 l2 a5p a5l a5c b6p b6l b6c t31 w => client = client1 ∧ (Addr.mk b_1 0 none) = l2 ∧ p_1 = a5p ∧ rs.length = a5l ∧ c_1 = a5c ∧ p_2 = b6p ∧ rs_1.length = b6l ∧ c_2 = b6c ∧ Q t31 ∧ Mem (cel b_1 25 [(Value.int .i64 l_Ver), (Value.int .i64 l_Inside), (Value.int .i64 l_Port), (Value.int .i64 l_Secs), (Value.int .u64 l_Nonce), (Value.int .i64 l_Result), (Value.int .i64 l_Epoch), (Value.int .u32 l_Host)] :: row enc5 5 1 p_1 c_1 rs :: row enc5 5 1 p_2 c_2 rs_1 :: FL) w, ?_, ?_⟩
  · rintro client1 l2 a5p a5l a5c b6p b6l b6c t31 w ⟨rfl, rfl, rfl, rfl, rfl, rfl, rfl, rfl, hp, h⟩
    replace hp := hq t31 hp
    unfold embrasurelaw10_PcpTells_j1
    refine cond_both hp (fun hp => ?_) (fun hp => ?_)
    · replace h := h.sel [] 3
      dsimp only [pickL, pickR, nthH, delH, dropH, List.cons_append, List.nil_append] at h
      exact hR false _ h hp
    refine pcp_ReadAsk_ok (FL := cel b_1 25 [(Value.int .i64 l_Ver), (Value.int .i64 l_Inside), (Value.int .i64 l_Port), (Value.int .i64 l_Secs), (Value.int .u64 l_Nonce), (Value.int .i64 l_Result), (Value.int .i64 l_Epoch), (Value.int .u32 l_Host)] :: row enc5 5 1 p_1 c_1 rs :: row enc5 5 1 p_2 c_2 rs_1 :: FL) (fun w h => (rowRd h 1 encL5 rfl)) rfl cpp_1 h hp ?_
    intro r_1 r_2 r_3 r_4 r_5 r_6 r_7 r_8 r_9 r_10 w h hp
    refine ⟨_, _, _, _, _, _, _, _, _, _, rfl, ?_⟩
    refine newL (o := [(Value.int .i64 0), (Value.int .i64 0), (Value.int .i64 0), (Value.int .i64 0), (Value.int .u64 0), (Value.int .i64 0), (Value.int .i64 0), (Value.int .u32 0)]) h ?_
    intro b_2 w h
    refine storeL (ys := [(Value.int .i64 r_1), (Value.int .i64 r_2), (Value.int .i64 r_3), (Value.int .i64 r_4), (Value.int .u64 r_5), (Value.int .i64 r_6), (Value.int .i64 r_7), (Value.int .u32 r_8)]) h 0 0 rfl rfl rfl sz25 rfl rfl ?_
    intro w h
    dsimp only [setH, setVs, setV] at h
    refine pcp_ReadAnswer_ok (FL := cel b_2 25 [(Value.int .i64 r_1), (Value.int .i64 r_2), (Value.int .i64 r_3), (Value.int .i64 r_4), (Value.int .u64 r_5), (Value.int .i64 r_6), (Value.int .i64 r_7), (Value.int .u32 r_8)] :: cel b_1 25 [(Value.int .i64 l_Ver), (Value.int .i64 l_Inside), (Value.int .i64 l_Port), (Value.int .i64 l_Secs), (Value.int .u64 l_Nonce), (Value.int .i64 l_Result), (Value.int .i64 l_Epoch), (Value.int .u32 l_Host)] :: row enc5 5 1 p_1 c_1 rs :: row enc5 5 1 p_2 c_2 rs_1 :: FL) (fun w h => (rowRd h 3 encL5 rfl)) rfl cpp_2 h hp ?_
    intro r_11 r_12 r_13 r_14 r_15 r_16 r_17 r_18 r_19 w h hp
    refine ⟨_, _, _, _, _, _, _, _, _, rfl, ?_⟩
    refine newL (o := [(Value.int .i64 0), (Value.int .i64 0), (Value.int .i64 0), (Value.int .i64 0), (Value.int .u64 0), (Value.int .i64 0), (Value.int .i64 0), (Value.int .u32 0)]) h ?_
    intro b_3 w h
    refine storeL (ys := [(Value.int .i64 r_11), (Value.int .i64 r_12), (Value.int .i64 r_13), (Value.int .i64 r_14), (Value.int .u64 r_15), (Value.int .i64 r_16), (Value.int .i64 r_17), (Value.int .u32 r_18)]) h 0 0 rfl rfl rfl sz25 rfl rfl ?_
    intro w h
    dsimp only [setH, setVs, setV] at h
    refine cond_both hp (fun hp => ?_) (fun hp => ?_)
    · refine cond_both hp (fun hp => ?_) (fun hp => ?_)
      · replace h := h.sel [] 5
        dsimp only [pickL, pickR, nthH, delH, dropH, List.cons_append, List.nil_append] at h
        exact hR true _ h hp
      refine cond_both' hp (fun hp => ?_) (fun hp => ?_)
      · replace h := h.sel [] 5
        dsimp only [pickL, pickR, nthH, delH, dropH, List.cons_append, List.nil_append] at h
        exact hR false _ h hp
      refine ⟨_, cellL h 0 0 rfl rfl rfl, _, cellL h 0 1 rfl rfl rfl, _, cellL h 0 2 rfl rfl rfl, _, cellL h 0 3 rfl rfl rfl, _, cellL h 0 4 rfl rfl rfl, _, cellL h 0 5 rfl rfl rfl, _, cellL h 0 6 rfl rfl rfl, _, cellL h 0 7 rfl rfl rfl, ?_⟩
      refine ⟨_, cellL h 2 0 rfl rfl rfl, _, cellL h 2 1 rfl rfl rfl, _, cellL h 2 2 rfl rfl rfl, _, cellL h 2 3 rfl rfl rfl, _, cellL h 2 4 rfl rfl rfl, _, cellL h 2 5 rfl rfl rfl, _, cellL h 2 6 rfl rfl rfl, _, cellL h 2 7 rfl rfl rfl, ?_⟩
      refine eqlAgg (xs := [(Value.int .i64 r_11), (Value.int .i64 r_12), (Value.int .i64 r_13), (Value.int .i64 r_14), (Value.int .u64 r_15), (Value.int .i64 r_16), (Value.int .i64 r_17), (Value.int .u32 r_18)]) (ys := [(Value.int .i64 l_Ver), (Value.int .i64 l_Inside), (Value.int .i64 l_Port), (Value.int .i64 l_Secs), (Value.int .u64 l_Nonce), (Value.int .i64 l_Result), (Value.int .i64 l_Epoch), (Value.int .u32 l_Host)]) eqG25 eqA25 (eqT25 r_11 r_12 r_13 r_14 r_15 r_16 r_17 r_18 l_Ver l_Inside l_Port l_Secs l_Nonce l_Result l_Epoch l_Host) ?_
      refine ⟨_, rfl, ?_⟩
      replace h := h.sel [] 5
      dsimp only [pickL, pickR, nthH, delH, dropH, List.cons_append, List.nil_append] at h
      exact hR (((r_11 : Int) == l_Ver) && (((r_12 : Int) == l_Inside) && (((r_13 : Int) == l_Port) && (((r_14 : Int) == l_Secs) && (((r_15 : Int) == l_Nonce) && (((r_16 : Int) == l_Result) && (((r_17 : Int) == l_Epoch) && (((r_18 : Int) == l_Host) && true)))))))) _ h hp
    refine cond_both' hp (fun hp => ?_) (fun hp => ?_)
    · replace h := h.sel [] 5
      dsimp only [pickL, pickR, nthH, delH, dropH, List.cons_append, List.nil_append] at h
      exact hR false _ h hp
    refine ⟨_, cellL h 1 0 rfl rfl rfl, _, cellL h 1 1 rfl rfl rfl, _, cellL h 1 2 rfl rfl rfl, _, cellL h 1 3 rfl rfl rfl, _, cellL h 1 4 rfl rfl rfl, _, cellL h 1 5 rfl rfl rfl, _, cellL h 1 6 rfl rfl rfl, _, cellL h 1 7 rfl rfl rfl, ?_⟩
    refine ⟨_, cellL h 2 0 rfl rfl rfl, _, cellL h 2 1 rfl rfl rfl, _, cellL h 2 2 rfl rfl rfl, _, cellL h 2 3 rfl rfl rfl, _, cellL h 2 4 rfl rfl rfl, _, cellL h 2 5 rfl rfl rfl, _, cellL h 2 6 rfl rfl rfl, _, cellL h 2 7 rfl rfl rfl, ?_⟩
    refine eqlAgg (xs := [(Value.int .i64 r_1), (Value.int .i64 r_2), (Value.int .i64 r_3), (Value.int .i64 r_4), (Value.int .u64 r_5), (Value.int .i64 r_6), (Value.int .i64 r_7), (Value.int .u32 r_8)]) (ys := [(Value.int .i64 l_Ver), (Value.int .i64 l_Inside), (Value.int .i64 l_Port), (Value.int .i64 l_Secs), (Value.int .u64 l_Nonce), (Value.int .i64 l_Result), (Value.int .i64 l_Epoch), (Value.int .u32 l_Host)]) eqG25 eqA25 (eqT25 r_1 r_2 r_3 r_4 r_5 r_6 r_7 r_8 l_Ver l_Inside l_Port l_Secs l_Nonce l_Result l_Epoch l_Host) ?_
    refine ⟨_, rfl, ?_⟩
    refine cond_both' hp (fun hp => ?_) (fun hp => ?_)
    · replace h := h.sel [] 5
      dsimp only [pickL, pickR, nthH, delH, dropH, List.cons_append, List.nil_append] at h
      exact hR false _ h hp
    refine cond_both' hp (fun hp => ?_) (fun hp => ?_)
    · replace h := h.sel [] 5
      dsimp only [pickL, pickR, nthH, delH, dropH, List.cons_append, List.nil_append] at h
      exact hR false _ h hp
    refine cond_both hp (fun hp => ?_) (fun hp => ?_)
    · replace h := h.sel [] 5
      dsimp only [pickL, pickR, nthH, delH, dropH, List.cons_append, List.nil_append] at h
      exact hR true _ h hp
    refine cond_both' hp (fun hp => ?_) (fun hp => ?_)
    · replace h := h.sel [] 5
      dsimp only [pickL, pickR, nthH, delH, dropH, List.cons_append, List.nil_append] at h
      exact hR false _ h hp
    refine ⟨_, cellL h 0 0 rfl rfl rfl, _, cellL h 0 1 rfl rfl rfl, _, cellL h 0 2 rfl rfl rfl, _, cellL h 0 3 rfl rfl rfl, _, cellL h 0 4 rfl rfl rfl, _, cellL h 0 5 rfl rfl rfl, _, cellL h 0 6 rfl rfl rfl, _, cellL h 0 7 rfl rfl rfl, ?_⟩
    refine ⟨_, cellL h 2 0 rfl rfl rfl, _, cellL h 2 1 rfl rfl rfl, _, cellL h 2 2 rfl rfl rfl, _, cellL h 2 3 rfl rfl rfl, _, cellL h 2 4 rfl rfl rfl, _, cellL h 2 5 rfl rfl rfl, _, cellL h 2 6 rfl rfl rfl, _, cellL h 2 7 rfl rfl rfl, ?_⟩
    refine eqlAgg (xs := [(Value.int .i64 r_11), (Value.int .i64 r_12), (Value.int .i64 r_13), (Value.int .i64 r_14), (Value.int .u64 r_15), (Value.int .i64 r_16), (Value.int .i64 r_17), (Value.int .u32 r_18)]) (ys := [(Value.int .i64 l_Ver), (Value.int .i64 l_Inside), (Value.int .i64 l_Port), (Value.int .i64 l_Secs), (Value.int .u64 l_Nonce), (Value.int .i64 l_Result), (Value.int .i64 l_Epoch), (Value.int .u32 l_Host)]) eqG25 eqA25 (eqT25 r_11 r_12 r_13 r_14 r_15 r_16 r_17 r_18 l_Ver l_Inside l_Port l_Secs l_Nonce l_Result l_Epoch l_Host) ?_
    refine ⟨_, rfl, ?_⟩
    replace h := h.sel [] 5
    dsimp only [pickL, pickR, nthH, delH, dropH, List.cons_append, List.nil_append] at h
    exact hR (((r_11 : Int) == l_Ver) && (((r_12 : Int) == l_Inside) && (((r_13 : Int) == l_Port) && (((r_14 : Int) == l_Secs) && (((r_15 : Int) == l_Nonce) && (((r_16 : Int) == l_Result) && (((r_17 : Int) == l_Epoch) && (((r_18 : Int) == l_Host) && true)))))))) _ h hp
  clear hq
  refine ⟨_, cellL h 2 0 rfl rfl rfl, _, cellL h 2 1 rfl rfl rfl, _, cellL h 2 2 rfl rfl rfl, _, cellL h 2 3 rfl rfl rfl, _, cellL h 2 4 rfl rfl rfl, _, cellL h 2 5 rfl rfl rfl, _, cellL h 2 6 rfl rfl rfl, _, cellL h 2 7 rfl rfl rfl, ?_⟩
  refine embrasureref10_Ask_ok h hp ?_
  rintro rs_2 p_3 n_3 c_3 w rfl h hp
  have cpp_3 := rowCap h 0 rfl
  refine ⟨_, _, _, rfl, ?_⟩
  refine embrasureref01_Same_ok (FL := row enc5 5 1 p_3 c_3 rs_2 :: row enc5 5 1 p_2 c_2 rs_1 :: row enc5 5 1 p_1 c_1 rs :: cel b_1 25 [(Value.int .i64 l_Ver), (Value.int .i64 l_Inside), (Value.int .i64 l_Port), (Value.int .i64 l_Secs), (Value.int .u64 l_Nonce), (Value.int .i64 l_Result), (Value.int .i64 l_Epoch), (Value.int .u32 l_Host)] :: FL) (fun w h => (rowRd h 2 encL5 rfl)) rfl cpp_1 (fun w h => (rowRd h 0 encL5 rfl)) rfl cpp_3 h hp ?_
  intro r_20 w h hp
  refine ⟨_, rfl, ?_⟩
  refine cond_both hp (fun hp => ?_) (fun hp => ?_)
  · replace h := h.sel [3, 2, 1] 1
    dsimp only [pickL, pickR, nthH, delH, dropH, List.cons_append, List.nil_append] at h
    exact ⟨rfl, rfl, rfl, rfl, rfl, rfl, rfl, rfl, hp, h⟩
  refine ⟨_, cellL h 3 0 rfl rfl rfl, _, cellL h 3 1 rfl rfl rfl, _, cellL h 3 2 rfl rfl rfl, _, cellL h 3 3 rfl rfl rfl, _, cellL h 3 4 rfl rfl rfl, _, cellL h 3 5 rfl rfl rfl, _, cellL h 3 6 rfl rfl rfl, _, cellL h 3 7 rfl rfl rfl, ?_⟩
  refine embrasureref10_Answer_ok h hp ?_
  rintro rs_3 p_4 n_4 c_4 w rfl h hp
  have cpp_4 := rowCap h 0 rfl
  refine ⟨_, _, _, rfl, ?_⟩
  refine embrasureref01_Same_ok (FL := row enc5 5 1 p_4 c_4 rs_3 :: row enc5 5 1 p_3 c_3 rs_2 :: row enc5 5 1 p_2 c_2 rs_1 :: row enc5 5 1 p_1 c_1 rs :: cel b_1 25 [(Value.int .i64 l_Ver), (Value.int .i64 l_Inside), (Value.int .i64 l_Port), (Value.int .i64 l_Secs), (Value.int .u64 l_Nonce), (Value.int .i64 l_Result), (Value.int .i64 l_Epoch), (Value.int .u32 l_Host)] :: FL) (fun w h => (rowRd h 2 encL5 rfl)) rfl cpp_2 (fun w h => (rowRd h 0 encL5 rfl)) rfl cpp_4 h hp ?_
  intro r_21 w h hp
  refine ⟨_, rfl, ?_⟩
  replace h := h.sel [4, 3, 2] 2
  dsimp only [pickL, pickR, nthH, delH, dropH, List.cons_append, List.nil_append] at h
  exact ⟨rfl, rfl, rfl, rfl, rfl, rfl, rfl, rfl, hp, h⟩

/-! embrasure/embrasureref09.Num (34) -/
def embrasureref09_Num_wp (b_1 : List (Int)) (K : Int → Prop) : Prop :=
  ∃ (I : Nat → Int → Int → Prop), (∃ (n_4 : Nat), I n_4 0 0) ∧ ∀ (n_2 : Nat) (v3 : Int) (i4 : Int), I n_2 v3 i4 → (cond (decide ((i4 : Int) < ((b_1.length : Nat) : Int))) (0 ≤ (i4 : Int) ∧ (i4 : Int) < ((b_1.length : Nat) : Int) ∧ (∀ (x_1 : Int), b_1[Int.toNat i4]? = some x_1 → (∃ (n_3 : Nat), n_3 < n_2 ∧ I n_3 (IntKind.wrap .i64 ((IntKind.wrap .i64 (v3 * 256)) + (IntKind.wrap .i64 x_1))) (IntKind.wrap .i64 (i4 + 1))))) (K v3))
theorem embrasureref09_Num_ok {p_1 : Option Addr} {n_1 : Nat} {c_1 : Nat} {b_1 : List (Int)} {FL : List HP} {w : World} {K : Int → Prop} {R : Value → World → Prop}
  (hF_b_1 : ∀ w, Mem FL w → Rd w 1 p_1 enc5 b_1) (hl_b_1 : n_1 = b_1.length) (hc_b_1 : n_1 ≤ c_1)
  (h : Mem (FL) w) (hp : embrasureref09_Num_wp b_1 K)
  (hR : ∀ (r : Int) (w : World), Mem (FL) w → K r → R (Value.int .i64 r) w) :
  CallV Try.prog 34 #[(Value.slice p_1 n_1 c_1)] w R := by
  refine embrasureref09_Num_call ?_
  unfold embrasureref09_Num
  unfold embrasureref09_Num_wp at hp
  subst hl_b_1
  obtain ⟨I, ⟨n_4, h0⟩, hq⟩ := hp
  refine ⟨fun n_2 b0p b0l b0c v3 i4 w => p_1 = b0p ∧ b_1.length = b0l ∧ c_1 = b0c ∧ I n_2 v3 i4 ∧ Mem (FL) w, ⟨n_4, rfl, rfl, rfl, h0, h⟩, ?_⟩
  clear h0 h
  rintro n_2 b0p b0l b0c v3 i4 w ⟨rfl, rfl, rfl, hp, h⟩
  replace hp := hq n_2 v3 i4 hp
  clear hq
  unfold embrasureref09_Num_l1
  refine cond_both' hp (fun hp => ?_) (fun hp => ?_)
  · exact hR v3 _ h hp
  obtain ⟨ia_1, ja_1, hp⟩ := hp
  obtain ⟨a_1, ha_1⟩ := rdAddr (hF_b_1 _ (h.drop 0)) rfl ia_1 ja_1
  refine ⟨a_1, ha_1, ia_1, ja_1, ?_⟩
  obtain ⟨x_1, hx_1, hc⟩ := rdCell0 (hF_b_1 _ (h.drop 0)) ha_1 rfl ia_1 ja_1
  replace hp := hp x_1 hx_1
  refine ⟨_, hc _ rfl, ?_⟩
  obtain ⟨n_3, hn, hp⟩ := hp
  exact ⟨n_3, hn, rfl, rfl, rfl, hp, h⟩

/-! embrasure/embrasureref10.of (33) -/
def embrasureref10_of_wp (b_1 : List (Int)) (K : Int → Int → Int → Int → Int → Int → Int → Int → Prop) : Prop :=
  joinP8 (fun (Ver : Int) (Inside : Int) (Port : Int) (Secs : Int) (Nonce : Int) (Result : Int) (Epoch : Int) (Host : Int) => 0 ≤ (32 : Int) ∧ (32 : Int) ≤ ((b_1.length : Nat) : Int) ∧ 0 ≤ (28 : Int) ∧ (28 : Int) ≤ (32 : Int) ∧ (0 ≤ (36 : Int) ∧ (36 : Int) ≤ ((b_1.length : Nat) : Int) ∧ 0 ≤ (32 : Int) ∧ (32 : Int) ≤ (36 : Int) ∧ (embrasureref09_Num_wp ((b_1.take (Int.toNat 32)).drop (Int.toNat 28)) (fun (r : Int) => embrasureref09_Num_wp ((b_1.take (Int.toNat 36)).drop (Int.toNat 32)) (fun (r_1 : Int) => K Ver Inside Port Secs (IntKind.wrap .u64 ((IntKind.wrap .u64 ((IntKind.wrap .u64 r) * 4294967296)) + (IntKind.wrap .u64 r_1))) Result Epoch Host))))) (fun (Q : Int → Int → Int → Int → Int → Int → Int → Int → Prop) => 0 ≤ (8 : Int) ∧ (8 : Int) ≤ ((b_1.length : Nat) : Int) ∧ 0 ≤ (4 : Int) ∧ (4 : Int) ≤ (8 : Int) ∧ (0 ≤ (42 : Int) ∧ (42 : Int) ≤ ((b_1.length : Nat) : Int) ∧ 0 ≤ (40 : Int) ∧ (40 : Int) ≤ (42 : Int) ∧ (0 ≤ (44 : Int) ∧ (44 : Int) ≤ ((b_1.length : Nat) : Int) ∧ 0 ≤ (42 : Int) ∧ (42 : Int) ≤ (44 : Int) ∧ (0 ≤ (60 : Int) ∧ (60 : Int) ≤ ((b_1.length : Nat) : Int) ∧ 0 ≤ (56 : Int) ∧ (56 : Int) ≤ (60 : Int) ∧ ((embrasureref09_Num_wp ((b_1.take (Int.toNat 8)).drop (Int.toNat 4)) (fun (r_2 : Int) => (embrasureref09_Num_wp ((b_1.take (Int.toNat 42)).drop (Int.toNat 40)) (fun (r_3 : Int) => (embrasureref09_Num_wp ((b_1.take (Int.toNat 44)).drop (Int.toNat 42)) (fun (r_4 : Int) => (embrasureref09_Num_wp ((b_1.take (Int.toNat 60)).drop (Int.toNat 56)) (fun (r_5 : Int) => Q 2 r_3 r_4 r_2 0 0 0 (IntKind.wrap .u32 r_5))) ∧ (embrasureref09_Num_wp ((b_1.take (Int.toNat 60)).drop (Int.toNat 56)) (fun (r_6 : Int) => Q 2 r_3 r_4 r_2 0 0 0 (IntKind.wrap .u32 r_6))))) ∧ (embrasureref09_Num_wp ((b_1.take (Int.toNat 44)).drop (Int.toNat 42)) (fun (r_7 : Int) => embrasureref09_Num_wp ((b_1.take (Int.toNat 60)).drop (Int.toNat 56)) (fun (r_8 : Int) => Q 2 r_3 r_7 r_2 0 0 0 (IntKind.wrap .u32 r_8)))))) ∧ (embrasureref09_Num_wp ((b_1.take (Int.toNat 42)).drop (Int.toNat 40)) (fun (r_9 : Int) => embrasureref09_Num_wp ((b_1.take (Int.toNat 44)).drop (Int.toNat 42)) (fun (r_10 : Int) => embrasureref09_Num_wp ((b_1.take (Int.toNat 60)).drop (Int.toNat 56)) (fun (r_11 : Int) => Q 2 r_9 r_10 r_2 0 0 0 (IntKind.wrap .u32 r_11))))))) ∧ (embrasureref09_Num_wp ((b_1.take (Int.toNat 8)).drop (Int.toNat 4)) (fun (r_12 : Int) => embrasureref09_Num_wp ((b_1.take (Int.toNat 42)).drop (Int.toNat 40)) (fun (r_13 : Int) => embrasureref09_Num_wp ((b_1.take (Int.toNat 44)).drop (Int.toNat 42)) (fun (r_14 : Int) => embrasureref09_Num_wp ((b_1.take (Int.toNat 60)).drop (Int.toNat 56)) (fun (r_15 : Int) => Q 2 r_13 r_14 r_12 0 0 0 (IntKind.wrap .u32 r_15)))))))))))
theorem embrasureref10_of_ok {p_1 : Option Addr} {n_1 : Nat} {c_1 : Nat} {b_1 : List (Int)} {FL : List HP} {w : World} {K : Int → Int → Int → Int → Int → Int → Int → Int → Prop} {R : Value → World → Prop}
  (hF_b_1 : ∀ w, Mem FL w → Rd w 1 p_1 enc5 b_1) (hl_b_1 : n_1 = b_1.length) (hc_b_1 : n_1 ≤ c_1)
  (h : Mem (FL) w) (hp : embrasureref10_of_wp b_1 K)
  (hR : ∀ (r : Int) (r_1 : Int) (r_2 : Int) (r_3 : Int) (r_4 : Int) (r_5 : Int) (r_6 : Int) (r_7 : Int) (w : World), Mem (FL) w → K r r_1 r_2 r_3 r_4 r_5 r_6 r_7 → R (Value.agg #[(Value.int .i64 r), (Value.int .i64 r_1), (Value.int .i64 r_2), (Value.int .i64 r_3), (Value.int .u64 r_4), (Value.int .i64 r_5), (Value.int .i64 r_6), (Value.int .u32 r_7)]) w) :
  CallV Try.prog 33 #[(Value.slice p_1 n_1 c_1)] w R := by
  refine embrasureref10_of_call ?_
  unfold embrasureref10_of
  unfold embrasureref10_of_wp at hp
  subst hl_b_1
  refine newL (o := [(Value.int .i64 0), (Value.int .i64 0), (Value.int .i64 0), (Value.int .i64 0), (Value.int .u64 0), (Value.int .i64 0), (Value.int .i64 0), (Value.int .u32 0)]) h ?_
  intro b_2 w h
  obtain ⟨Q, hq, hp⟩ := hp
  refine ⟨fun b0p b0l b0c t2 l3 w => ∃ (b_3 : Nat), ∃ (Ver : Int), ∃ (Inside : Int), ∃ (Port : Int), ∃ (Secs : Int), ∃ (Nonce : Int), ∃ (Result : Int), ∃ (Epoch : Int), ∃ (Host : Int), p_1 = b0p ∧ b_1.length = b0l ∧ c_1 = b0c ∧ (Addr.mk b_2 0 none) = t2 ∧ (Addr.mk b_3 0 none) = l3 ∧ Q Ver Inside Port Secs Nonce Result Epoch Host ∧ Mem (cel b_2 25 [(Value.int .i64 0), (Value.int .i64 0), (Value.int .i64 0), (Value.int .i64 0), (Value.int .u64 0), (Value.int .i64 0), (Value.int .i64 0), (Value.int .u32 0)] :: cel b_3 25 [(Value.int .i64 Ver), (Value.int .i64 Inside), (Value.int .i64 Port), (Value.int .i64 Secs), (Value.int .u64 Nonce), (Value.int .i64 Result), (Value.int .i64 Epoch), (Value.int .u32 Host)] :: FL) w, ?_, ?_⟩
  · rintro b0p b0l b0c t2 l3 w ⟨b_3, Ver, Inside, Port, Secs, Nonce, Result, Epoch, Host, rfl, rfl, rfl, rfl, rfl, hp, h⟩
    replace hp := hq Ver Inside Port Secs Nonce Result Epoch Host hp
    unfold embrasureref10_of_j1
    replace h := h.drew
    refine ⟨fun w => Mem (FL) w, (h.sel [] 2), ?_⟩
    obtain ⟨g_1ha, g_1hb, g_1la, g_1lb, hp⟩ := hp
    have vg_1_lh : (Int.toNat 28) ≤ (Int.toNat 32) := (natLe2 g_1la g_1ha g_1lb)
    have vg_1_hm : (Int.toNat 32) ≤ c_1 := (Nat.le_trans (natLe g_1ha g_1hb) hc_b_1)
    have vg_1_mc : c_1 ≤ c_1 := (Nat.le_refl _)
    have vg_1_hl : (Int.toNat 32) ≤ b_1.length := (leLen g_1ha g_1hb rfl)
    refine ⟨g_1ha, (leCap g_1hb hc_b_1), g_1la, (leNat g_1ha g_1lb), ?_⟩
    obtain ⟨g_2ha, g_2hb, g_2la, g_2lb, hp⟩ := hp
    have vg_2_lh : (Int.toNat 32) ≤ (Int.toNat 36) := (natLe2 g_2la g_2ha g_2lb)
    have vg_2_hm : (Int.toNat 36) ≤ c_1 := (Nat.le_trans (natLe g_2ha g_2hb) hc_b_1)
    have vg_2_mc : c_1 ≤ c_1 := (Nat.le_refl _)
    have vg_2_hl : (Int.toNat 36) ≤ b_1.length := (leLen g_2ha g_2hb rfl)
    refine ⟨g_2ha, (leCap g_2hb hc_b_1), g_2la, (leNat g_2ha g_2lb), ?_⟩
    refine embrasureref09_Num_ok (FL := cel b_2 25 [(Value.int .i64 0), (Value.int .i64 0), (Value.int .i64 0), (Value.int .i64 0), (Value.int .u64 0), (Value.int .i64 0), (Value.int .i64 0), (Value.int .u32 0)] :: cel b_3 25 [(Value.int .i64 Ver), (Value.int .i64 Inside), (Value.int .i64 Port), (Value.int .i64 Secs), (Value.int .u64 Nonce), (Value.int .i64 Result), (Value.int .i64 Epoch), (Value.int .u32 Host)] :: FL) (fun w h => (Rd.view (hF_b_1 _ (h.drop 2)) (l := (Int.toNat 28)) (h := (Int.toNat 32)) (m := c_1) vg_1_hm)) (viewLen vg_1_hl) (Nat.sub_le_sub_right vg_1_hm _) h hp ?_
    intro r w h hp
    refine ⟨_, rfl, ?_⟩
    refine ⟨(h.sel [] 2), ?_⟩
    refine embrasureref09_Num_ok (FL := cel b_2 25 [(Value.int .i64 0), (Value.int .i64 0), (Value.int .i64 0), (Value.int .i64 0), (Value.int .u64 0), (Value.int .i64 0), (Value.int .i64 0), (Value.int .u32 0)] :: cel b_3 25 [(Value.int .i64 Ver), (Value.int .i64 Inside), (Value.int .i64 Port), (Value.int .i64 Secs), (Value.int .u64 Nonce), (Value.int .i64 Result), (Value.int .i64 Epoch), (Value.int .u32 Host)] :: FL) (fun w h => (Rd.view (hF_b_1 _ (h.drop 2)) (l := (Int.toNat 32)) (h := (Int.toNat 36)) (m := c_1) vg_2_hm)) (viewLen vg_2_hl) (Nat.sub_le_sub_right vg_2_hm _) h hp ?_
    intro r_1 w h hp
    refine ⟨_, rfl, ?_⟩
    refine ⟨(h.sel [] 2), ?_⟩
    refine storeL (ys := [(Value.int .u64 (IntKind.wrap .u64 ((IntKind.wrap .u64 ((IntKind.wrap .u64 r) * 4294967296)) + (IntKind.wrap .u64 r_1))))]) h 1 4 rfl rfl rfl sz22 rfl rfl ?_
    intro w h
    dsimp only [setH, setVs, setV] at h
    refine ⟨_, cellL h 1 0 rfl rfl rfl, _, cellL h 1 1 rfl rfl rfl, _, cellL h 1 2 rfl rfl rfl, _, cellL h 1 3 rfl rfl rfl, _, cellL h 1 4 rfl rfl rfl, _, cellL h 1 5 rfl rfl rfl, _, cellL h 1 6 rfl rfl rfl, _, cellL h 1 7 rfl rfl rfl, ?_⟩
    refine storeL (ys := [(Value.int .i64 Ver), (Value.int .i64 Inside), (Value.int .i64 Port), (Value.int .i64 Secs), (Value.int .u64 (IntKind.wrap .u64 ((IntKind.wrap .u64 ((IntKind.wrap .u64 r) * 4294967296)) + (IntKind.wrap .u64 r_1)))), (Value.int .i64 Result), (Value.int .i64 Epoch), (Value.int .u32 Host)]) h 0 0 rfl rfl rfl sz25 rfl rfl ?_
    intro w h
    dsimp only [setH, setVs, setV] at h
    refine ⟨_, cellL h 0 0 rfl rfl rfl, _, cellL h 0 1 rfl rfl rfl, _, cellL h 0 2 rfl rfl rfl, _, cellL h 0 3 rfl rfl rfl, _, cellL h 0 4 rfl rfl rfl, _, cellL h 0 5 rfl rfl rfl, _, cellL h 0 6 rfl rfl rfl, _, cellL h 0 7 rfl rfl rfl, ?_⟩
    replace h := h.sel [] 2
    dsimp only [pickL, pickR, nthH, delH, dropH, List.cons_append, List.nil_append] at h
    exact hR Ver Inside Port Secs (IntKind.wrap .u64 ((IntKind.wrap .u64 ((IntKind.wrap .u64 r) * 4294967296)) + (IntKind.wrap .u64 r_1))) Result Epoch Host _ h hp
  clear hq
  replace h := h.drew
  refine ⟨fun w => Mem (FL) w, (h.sel [] 1), ?_⟩
  obtain ⟨g_3ha, g_3hb, g_3la, g_3lb, hp⟩ := hp
  have vg_3_lh : (Int.toNat 4) ≤ (Int.toNat 8) := (natLe2 g_3la g_3ha g_3lb)
  have vg_3_hm : (Int.toNat 8) ≤ c_1 := (Nat.le_trans (natLe g_3ha g_3hb) hc_b_1)
  have vg_3_mc : c_1 ≤ c_1 := (Nat.le_refl _)
  have vg_3_hl : (Int.toNat 8) ≤ b_1.length := (leLen g_3ha g_3hb rfl)
  refine ⟨g_3ha, (leCap g_3hb hc_b_1), g_3la, (leNat g_3ha g_3lb), ?_⟩
  obtain ⟨g_4ha, g_4hb, g_4la, g_4lb, hp⟩ := hp
  have vg_4_lh : (Int.toNat 40) ≤ (Int.toNat 42) := (natLe2 g_4la g_4ha g_4lb)
  have vg_4_hm : (Int.toNat 42) ≤ c_1 := (Nat.le_trans (natLe g_4ha g_4hb) hc_b_1)
  have vg_4_mc : c_1 ≤ c_1 := (Nat.le_refl _)
  have vg_4_hl : (Int.toNat 42) ≤ b_1.length := (leLen g_4ha g_4hb rfl)
  refine ⟨g_4ha, (leCap g_4hb hc_b_1), g_4la, (leNat g_4ha g_4lb), ?_⟩
  obtain ⟨g_5ha, g_5hb, g_5la, g_5lb, hp⟩ := hp
  have vg_5_lh : (Int.toNat 42) ≤ (Int.toNat 44) := (natLe2 g_5la g_5ha g_5lb)
  have vg_5_hm : (Int.toNat 44) ≤ c_1 := (Nat.le_trans (natLe g_5ha g_5hb) hc_b_1)
  have vg_5_mc : c_1 ≤ c_1 := (Nat.le_refl _)
  have vg_5_hl : (Int.toNat 44) ≤ b_1.length := (leLen g_5ha g_5hb rfl)
  refine ⟨g_5ha, (leCap g_5hb hc_b_1), g_5la, (leNat g_5ha g_5lb), ?_⟩
  obtain ⟨g_6ha, g_6hb, g_6la, g_6lb, hp⟩ := hp
  have vg_6_lh : (Int.toNat 56) ≤ (Int.toNat 60) := (natLe2 g_6la g_6ha g_6lb)
  have vg_6_hm : (Int.toNat 60) ≤ c_1 := (Nat.le_trans (natLe g_6ha g_6hb) hc_b_1)
  have vg_6_mc : c_1 ≤ c_1 := (Nat.le_refl _)
  have vg_6_hl : (Int.toNat 60) ≤ b_1.length := (leLen g_6ha g_6hb rfl)
  refine ⟨g_6ha, (leCap g_6hb hc_b_1), g_6la, (leNat g_6ha g_6lb), ?_⟩
  refine ⟨?_, ?_⟩
  · replace hp := hp.1
    refine embrasureref09_Num_ok (FL := cel b_2 25 [(Value.int .i64 0), (Value.int .i64 0), (Value.int .i64 0), (Value.int .i64 0), (Value.int .u64 0), (Value.int .i64 0), (Value.int .i64 0), (Value.int .u32 0)] :: FL) (fun w h => (Rd.view (hF_b_1 _ (h.drop 1)) (l := (Int.toNat 4)) (h := (Int.toNat 8)) (m := c_1) vg_3_hm)) (viewLen vg_3_hl) (Nat.sub_le_sub_right vg_3_hm _) h hp ?_
    intro r_2 w h hp
    refine ⟨_, rfl, ?_⟩
    refine ⟨(h.sel [] 1), ?_⟩
    refine ⟨?_, ?_⟩
    · replace hp := hp.1
      refine embrasureref09_Num_ok (FL := cel b_2 25 [(Value.int .i64 0), (Value.int .i64 0), (Value.int .i64 0), (Value.int .i64 0), (Value.int .u64 0), (Value.int .i64 0), (Value.int .i64 0), (Value.int .u32 0)] :: FL) (fun w h => (Rd.view (hF_b_1 _ (h.drop 1)) (l := (Int.toNat 40)) (h := (Int.toNat 42)) (m := c_1) vg_4_hm)) (viewLen vg_4_hl) (Nat.sub_le_sub_right vg_4_hm _) h hp ?_
      intro r_3 w h hp
      refine ⟨_, rfl, ?_⟩
      refine ⟨(h.sel [] 1), ?_⟩
      refine ⟨?_, ?_⟩
      · replace hp := hp.1
        refine embrasureref09_Num_ok (FL := cel b_2 25 [(Value.int .i64 0), (Value.int .i64 0), (Value.int .i64 0), (Value.int .i64 0), (Value.int .u64 0), (Value.int .i64 0), (Value.int .i64 0), (Value.int .u32 0)] :: FL) (fun w h => (Rd.view (hF_b_1 _ (h.drop 1)) (l := (Int.toNat 42)) (h := (Int.toNat 44)) (m := c_1) vg_5_hm)) (viewLen vg_5_hl) (Nat.sub_le_sub_right vg_5_hm _) h hp ?_
        intro r_4 w h hp
        refine ⟨_, rfl, ?_⟩
        refine ⟨(h.sel [] 1), ?_⟩
        refine ⟨?_, ?_⟩
        · replace hp := hp.1
          refine embrasureref09_Num_ok (FL := cel b_2 25 [(Value.int .i64 0), (Value.int .i64 0), (Value.int .i64 0), (Value.int .i64 0), (Value.int .u64 0), (Value.int .i64 0), (Value.int .i64 0), (Value.int .u32 0)] :: FL) (fun w h => (Rd.view (hF_b_1 _ (h.drop 1)) (l := (Int.toNat 56)) (h := (Int.toNat 60)) (m := c_1) vg_6_hm)) (viewLen vg_6_hl) (Nat.sub_le_sub_right vg_6_hm _) h hp ?_
          intro r_5 w h hp
          refine ⟨_, rfl, ?_⟩
          refine newL (o := [(Value.int .i64 0), (Value.int .i64 0), (Value.int .i64 0), (Value.int .i64 0), (Value.int .u64 0), (Value.int .i64 0), (Value.int .i64 0), (Value.int .u32 0)]) h ?_
          intro b_4 w h
          refine ⟨(h.sel [] 2), ?_⟩
          refine storeL (ys := [(Value.int .i64 2), (Value.int .i64 r_3), (Value.int .i64 r_4), (Value.int .i64 r_2), (Value.int .u64 0), (Value.int .i64 0), (Value.int .i64 0), (Value.int .u32 (IntKind.wrap .u32 r_5))]) h 0 0 rfl rfl rfl sz25 rfl rfl ?_
          intro w h
          dsimp only [setH, setVs, setV] at h
          replace h := h.sel [1, 0] 0
          dsimp only [pickL, pickR, nthH, delH, dropH, List.cons_append, List.nil_append] at h
          exact ⟨b_4, 2, r_3, r_4, r_2, 0, 0, 0, (IntKind.wrap .u32 r_5), rfl, rfl, rfl, rfl, rfl, hp, h⟩
        replace hp := hp.2
        refine newL (o := [(Value.int .i64 0), (Value.int .i64 0), (Value.int .i64 0), (Value.int .i64 0), (Value.int .u64 0), (Value.int .i64 0), (Value.int .i64 0), (Value.int .u32 0)]) h ?_
        intro b_5 w h
        refine ⟨(h.sel [] 2), ?_⟩
        refine embrasureref09_Num_ok (FL := cel b_5 25 [(Value.int .i64 0), (Value.int .i64 0), (Value.int .i64 0), (Value.int .i64 0), (Value.int .u64 0), (Value.int .i64 0), (Value.int .i64 0), (Value.int .u32 0)] :: cel b_2 25 [(Value.int .i64 0), (Value.int .i64 0), (Value.int .i64 0), (Value.int .i64 0), (Value.int .u64 0), (Value.int .i64 0), (Value.int .i64 0), (Value.int .u32 0)] :: FL) (fun w h => (Rd.view (hF_b_1 _ (h.drop 2)) (l := (Int.toNat 56)) (h := (Int.toNat 60)) (m := c_1) vg_6_hm)) (viewLen vg_6_hl) (Nat.sub_le_sub_right vg_6_hm _) h hp ?_
        intro r_6 w h hp
        refine ⟨_, rfl, ?_⟩
        refine storeL (ys := [(Value.int .i64 2), (Value.int .i64 r_3), (Value.int .i64 r_4), (Value.int .i64 r_2), (Value.int .u64 0), (Value.int .i64 0), (Value.int .i64 0), (Value.int .u32 (IntKind.wrap .u32 r_6))]) h 0 0 rfl rfl rfl sz25 rfl rfl ?_
        intro w h
        dsimp only [setH, setVs, setV] at h
        replace h := h.sel [1, 0] 0
        dsimp only [pickL, pickR, nthH, delH, dropH, List.cons_append, List.nil_append] at h
        exact ⟨b_5, 2, r_3, r_4, r_2, 0, 0, 0, (IntKind.wrap .u32 r_6), rfl, rfl, rfl, rfl, rfl, hp, h⟩
      replace hp := hp.2
      refine newL (o := [(Value.int .i64 0), (Value.int .i64 0), (Value.int .i64 0), (Value.int .i64 0), (Value.int .u64 0), (Value.int .i64 0), (Value.int .i64 0), (Value.int .u32 0)]) h ?_
      intro b_6 w h
      refine ⟨(h.sel [] 2), ?_⟩
      refine embrasureref09_Num_ok (FL := cel b_6 25 [(Value.int .i64 0), (Value.int .i64 0), (Value.int .i64 0), (Value.int .i64 0), (Value.int .u64 0), (Value.int .i64 0), (Value.int .i64 0), (Value.int .u32 0)] :: cel b_2 25 [(Value.int .i64 0), (Value.int .i64 0), (Value.int .i64 0), (Value.int .i64 0), (Value.int .u64 0), (Value.int .i64 0), (Value.int .i64 0), (Value.int .u32 0)] :: FL) (fun w h => (Rd.view (hF_b_1 _ (h.drop 2)) (l := (Int.toNat 42)) (h := (Int.toNat 44)) (m := c_1) vg_5_hm)) (viewLen vg_5_hl) (Nat.sub_le_sub_right vg_5_hm _) h hp ?_
      intro r_7 w h hp
      refine ⟨_, rfl, ?_⟩
      refine ⟨(h.sel [] 2), ?_⟩
      refine embrasureref09_Num_ok (FL := cel b_6 25 [(Value.int .i64 0), (Value.int .i64 0), (Value.int .i64 0), (Value.int .i64 0), (Value.int .u64 0), (Value.int .i64 0), (Value.int .i64 0), (Value.int .u32 0)] :: cel b_2 25 [(Value.int .i64 0), (Value.int .i64 0), (Value.int .i64 0), (Value.int .i64 0), (Value.int .u64 0), (Value.int .i64 0), (Value.int .i64 0), (Value.int .u32 0)] :: FL) (fun w h => (Rd.view (hF_b_1 _ (h.drop 2)) (l := (Int.toNat 56)) (h := (Int.toNat 60)) (m := c_1) vg_6_hm)) (viewLen vg_6_hl) (Nat.sub_le_sub_right vg_6_hm _) h hp ?_
      intro r_8 w h hp
      refine ⟨_, rfl, ?_⟩
      refine storeL (ys := [(Value.int .i64 2), (Value.int .i64 r_3), (Value.int .i64 r_7), (Value.int .i64 r_2), (Value.int .u64 0), (Value.int .i64 0), (Value.int .i64 0), (Value.int .u32 (IntKind.wrap .u32 r_8))]) h 0 0 rfl rfl rfl sz25 rfl rfl ?_
      intro w h
      dsimp only [setH, setVs, setV] at h
      replace h := h.sel [1, 0] 0
      dsimp only [pickL, pickR, nthH, delH, dropH, List.cons_append, List.nil_append] at h
      exact ⟨b_6, 2, r_3, r_7, r_2, 0, 0, 0, (IntKind.wrap .u32 r_8), rfl, rfl, rfl, rfl, rfl, hp, h⟩
    replace hp := hp.2
    refine newL (o := [(Value.int .i64 0), (Value.int .i64 0), (Value.int .i64 0), (Value.int .i64 0), (Value.int .u64 0), (Value.int .i64 0), (Value.int .i64 0), (Value.int .u32 0)]) h ?_
    intro b_7 w h
    refine ⟨(h.sel [] 2), ?_⟩
    refine embrasureref09_Num_ok (FL := cel b_7 25 [(Value.int .i64 0), (Value.int .i64 0), (Value.int .i64 0), (Value.int .i64 0), (Value.int .u64 0), (Value.int .i64 0), (Value.int .i64 0), (Value.int .u32 0)] :: cel b_2 25 [(Value.int .i64 0), (Value.int .i64 0), (Value.int .i64 0), (Value.int .i64 0), (Value.int .u64 0), (Value.int .i64 0), (Value.int .i64 0), (Value.int .u32 0)] :: FL) (fun w h => (Rd.view (hF_b_1 _ (h.drop 2)) (l := (Int.toNat 40)) (h := (Int.toNat 42)) (m := c_1) vg_4_hm)) (viewLen vg_4_hl) (Nat.sub_le_sub_right vg_4_hm _) h hp ?_
    intro r_9 w h hp
    refine ⟨_, rfl, ?_⟩
    refine ⟨(h.sel [] 2), ?_⟩
    refine embrasureref09_Num_ok (FL := cel b_7 25 [(Value.int .i64 0), (Value.int .i64 0), (Value.int .i64 0), (Value.int .i64 0), (Value.int .u64 0), (Value.int .i64 0), (Value.int .i64 0), (Value.int .u32 0)] :: cel b_2 25 [(Value.int .i64 0), (Value.int .i64 0), (Value.int .i64 0), (Value.int .i64 0), (Value.int .u64 0), (Value.int .i64 0), (Value.int .i64 0), (Value.int .u32 0)] :: FL) (fun w h => (Rd.view (hF_b_1 _ (h.drop 2)) (l := (Int.toNat 42)) (h := (Int.toNat 44)) (m := c_1) vg_5_hm)) (viewLen vg_5_hl) (Nat.sub_le_sub_right vg_5_hm _) h hp ?_
    intro r_10 w h hp
    refine ⟨_, rfl, ?_⟩
    refine ⟨(h.sel [] 2), ?_⟩
    refine embrasureref09_Num_ok (FL := cel b_7 25 [(Value.int .i64 0), (Value.int .i64 0), (Value.int .i64 0), (Value.int .i64 0), (Value.int .u64 0), (Value.int .i64 0), (Value.int .i64 0), (Value.int .u32 0)] :: cel b_2 25 [(Value.int .i64 0), (Value.int .i64 0), (Value.int .i64 0), (Value.int .i64 0), (Value.int .u64 0), (Value.int .i64 0), (Value.int .i64 0), (Value.int .u32 0)] :: FL) (fun w h => (Rd.view (hF_b_1 _ (h.drop 2)) (l := (Int.toNat 56)) (h := (Int.toNat 60)) (m := c_1) vg_6_hm)) (viewLen vg_6_hl) (Nat.sub_le_sub_right vg_6_hm _) h hp ?_
    intro r_11 w h hp
    refine ⟨_, rfl, ?_⟩
    refine storeL (ys := [(Value.int .i64 2), (Value.int .i64 r_9), (Value.int .i64 r_10), (Value.int .i64 r_2), (Value.int .u64 0), (Value.int .i64 0), (Value.int .i64 0), (Value.int .u32 (IntKind.wrap .u32 r_11))]) h 0 0 rfl rfl rfl sz25 rfl rfl ?_
    intro w h
    dsimp only [setH, setVs, setV] at h
    replace h := h.sel [1, 0] 0
    dsimp only [pickL, pickR, nthH, delH, dropH, List.cons_append, List.nil_append] at h
    exact ⟨b_7, 2, r_9, r_10, r_2, 0, 0, 0, (IntKind.wrap .u32 r_11), rfl, rfl, rfl, rfl, rfl, hp, h⟩
  replace hp := hp.2
  refine newL (o := [(Value.int .i64 0), (Value.int .i64 0), (Value.int .i64 0), (Value.int .i64 0), (Value.int .u64 0), (Value.int .i64 0), (Value.int .i64 0), (Value.int .u32 0)]) h ?_
  intro b_8 w h
  refine ⟨(h.sel [] 2), ?_⟩
  refine embrasureref09_Num_ok (FL := cel b_8 25 [(Value.int .i64 0), (Value.int .i64 0), (Value.int .i64 0), (Value.int .i64 0), (Value.int .u64 0), (Value.int .i64 0), (Value.int .i64 0), (Value.int .u32 0)] :: cel b_2 25 [(Value.int .i64 0), (Value.int .i64 0), (Value.int .i64 0), (Value.int .i64 0), (Value.int .u64 0), (Value.int .i64 0), (Value.int .i64 0), (Value.int .u32 0)] :: FL) (fun w h => (Rd.view (hF_b_1 _ (h.drop 2)) (l := (Int.toNat 4)) (h := (Int.toNat 8)) (m := c_1) vg_3_hm)) (viewLen vg_3_hl) (Nat.sub_le_sub_right vg_3_hm _) h hp ?_
  intro r_12 w h hp
  refine ⟨_, rfl, ?_⟩
  refine ⟨(h.sel [] 2), ?_⟩
  refine embrasureref09_Num_ok (FL := cel b_8 25 [(Value.int .i64 0), (Value.int .i64 0), (Value.int .i64 0), (Value.int .i64 0), (Value.int .u64 0), (Value.int .i64 0), (Value.int .i64 0), (Value.int .u32 0)] :: cel b_2 25 [(Value.int .i64 0), (Value.int .i64 0), (Value.int .i64 0), (Value.int .i64 0), (Value.int .u64 0), (Value.int .i64 0), (Value.int .i64 0), (Value.int .u32 0)] :: FL) (fun w h => (Rd.view (hF_b_1 _ (h.drop 2)) (l := (Int.toNat 40)) (h := (Int.toNat 42)) (m := c_1) vg_4_hm)) (viewLen vg_4_hl) (Nat.sub_le_sub_right vg_4_hm _) h hp ?_
  intro r_13 w h hp
  refine ⟨_, rfl, ?_⟩
  refine ⟨(h.sel [] 2), ?_⟩
  refine embrasureref09_Num_ok (FL := cel b_8 25 [(Value.int .i64 0), (Value.int .i64 0), (Value.int .i64 0), (Value.int .i64 0), (Value.int .u64 0), (Value.int .i64 0), (Value.int .i64 0), (Value.int .u32 0)] :: cel b_2 25 [(Value.int .i64 0), (Value.int .i64 0), (Value.int .i64 0), (Value.int .i64 0), (Value.int .u64 0), (Value.int .i64 0), (Value.int .i64 0), (Value.int .u32 0)] :: FL) (fun w h => (Rd.view (hF_b_1 _ (h.drop 2)) (l := (Int.toNat 42)) (h := (Int.toNat 44)) (m := c_1) vg_5_hm)) (viewLen vg_5_hl) (Nat.sub_le_sub_right vg_5_hm _) h hp ?_
  intro r_14 w h hp
  refine ⟨_, rfl, ?_⟩
  refine ⟨(h.sel [] 2), ?_⟩
  refine embrasureref09_Num_ok (FL := cel b_8 25 [(Value.int .i64 0), (Value.int .i64 0), (Value.int .i64 0), (Value.int .i64 0), (Value.int .u64 0), (Value.int .i64 0), (Value.int .i64 0), (Value.int .u32 0)] :: cel b_2 25 [(Value.int .i64 0), (Value.int .i64 0), (Value.int .i64 0), (Value.int .i64 0), (Value.int .u64 0), (Value.int .i64 0), (Value.int .i64 0), (Value.int .u32 0)] :: FL) (fun w h => (Rd.view (hF_b_1 _ (h.drop 2)) (l := (Int.toNat 56)) (h := (Int.toNat 60)) (m := c_1) vg_6_hm)) (viewLen vg_6_hl) (Nat.sub_le_sub_right vg_6_hm _) h hp ?_
  intro r_15 w h hp
  refine ⟨_, rfl, ?_⟩
  refine storeL (ys := [(Value.int .i64 2), (Value.int .i64 r_13), (Value.int .i64 r_14), (Value.int .i64 r_12), (Value.int .u64 0), (Value.int .i64 0), (Value.int .i64 0), (Value.int .u32 (IntKind.wrap .u32 r_15))]) h 0 0 rfl rfl rfl sz25 rfl rfl ?_
  intro w h
  dsimp only [setH, setVs, setV] at h
  replace h := h.sel [1, 0] 0
  dsimp only [pickL, pickR, nthH, delH, dropH, List.cons_append, List.nil_append] at h
  exact ⟨b_8, 2, r_13, r_14, r_12, 0, 0, 0, (IntKind.wrap .u32 r_15), rfl, rfl, rfl, rfl, rfl, hp, h⟩

/-! embrasure/embrasureref10.ReadAsk (15) -/
def embrasureref10_ReadAsk_wp (b_1 : List (Int)) (K : Int → Int → Int → Int → Int → Int → Int → Int → Int → Int → Prop) : Prop :=
  cond ((((b_1.length : Nat) : Int) : Int) != 60) (K 0 0 0 0 0 0 0 0 0 3) (embrasureref10_of_wp b_1 (fun (r : Int) (r_1 : Int) (r_2 : Int) (r_3 : Int) (r_4 : Int) (r_5 : Int) (r_6 : Int) (r_7 : Int) => 0 ≤ (24 : Int) ∧ (24 : Int) ≤ ((b_1.length : Nat) : Int) ∧ 0 ≤ (20 : Int) ∧ (20 : Int) ≤ (24 : Int) ∧ (embrasureref09_Num_wp ((b_1.take (Int.toNat 24)).drop (Int.toNat 20)) (fun (r_8 : Int) => embrasureref10_Ask_wp r r_1 r_2 r_3 r_4 r_5 r_6 r_7 (IntKind.wrap .u32 r_8) (fun (rs : List (Int)) => embrasureref01_Same_wp rs b_1 (fun (r_9 : Bool) => cond (!r_9) (K 0 0 0 0 0 0 0 0 0 3) (K r r_1 r_2 r_3 r_4 r_5 r_6 r_7 (IntKind.wrap .u32 r_8) 0)))))))
theorem embrasureref10_ReadAsk_ok {p_1 : Option Addr} {n_1 : Nat} {c_1 : Nat} {b_1 : List (Int)} {FL : List HP} {w : World} {K : Int → Int → Int → Int → Int → Int → Int → Int → Int → Int → Prop} {R : Value → World → Prop}
  (hF_b_1 : ∀ w, Mem FL w → Rd w 1 p_1 enc5 b_1) (hl_b_1 : n_1 = b_1.length) (hc_b_1 : n_1 ≤ c_1)
  (h : Mem (FL) w) (hp : embrasureref10_ReadAsk_wp b_1 K)
  (hR : ∀ (r : Int) (r_1 : Int) (r_2 : Int) (r_3 : Int) (r_4 : Int) (r_5 : Int) (r_6 : Int) (r_7 : Int) (r_8 : Int) (r_9 : Int) (w : World), Mem (FL) w → K r r_1 r_2 r_3 r_4 r_5 r_6 r_7 r_8 r_9 → R (Value.tuple #[(Value.agg #[(Value.int .i64 r), (Value.int .i64 r_1), (Value.int .i64 r_2), (Value.int .i64 r_3), (Value.int .u64 r_4), (Value.int .i64 r_5), (Value.int .i64 r_6), (Value.int .u32 r_7)]), (Value.int .u32 r_8), (Value.int .i64 r_9)]) w) :
  CallV Try.prog 15 #[(Value.slice p_1 n_1 c_1)] w R := by
  refine embrasureref10_ReadAsk_call ?_
  unfold embrasureref10_ReadAsk
  unfold embrasureref10_ReadAsk_wp at hp
  subst hl_b_1
  refine newL (o := [(Value.int .i64 0), (Value.int .i64 0), (Value.int .i64 0), (Value.int .i64 0), (Value.int .u64 0), (Value.int .i64 0), (Value.int .i64 0), (Value.int .u32 0)]) h ?_
  intro b_2 w h
  refine cond_both hp (fun hp => ?_) (fun hp => ?_)
  · refine storeL (ys := [(Value.int .i64 0), (Value.int .i64 0), (Value.int .i64 0), (Value.int .i64 0), (Value.int .u64 0), (Value.int .i64 0), (Value.int .i64 0), (Value.int .u32 0)]) h 0 0 rfl rfl rfl sz25 rfl rfl ?_
    intro w h
    dsimp only [setH, setVs, setV] at h
    refine ⟨_, cellL h 0 0 rfl rfl rfl, _, cellL h 0 1 rfl rfl rfl, _, cellL h 0 2 rfl rfl rfl, _, cellL h 0 3 rfl rfl rfl, _, cellL h 0 4 rfl rfl rfl, _, cellL h 0 5 rfl rfl rfl, _, cellL h 0 6 rfl rfl rfl, _, cellL h 0 7 rfl rfl rfl, ?_⟩
    replace h := h.sel [] 1
    dsimp only [pickL, pickR, nthH, delH, dropH, List.cons_append, List.nil_append] at h
    exact hR 0 0 0 0 0 0 0 0 0 3 _ h hp
  refine embrasureref10_of_ok (FL := cel b_2 25 [(Value.int .i64 0), (Value.int .i64 0), (Value.int .i64 0), (Value.int .i64 0), (Value.int .u64 0), (Value.int .i64 0), (Value.int .i64 0), (Value.int .u32 0)] :: FL) (fun w h => (hF_b_1 _ (h.drop 1))) rfl hc_b_1 h hp ?_
  intro r r_1 r_2 r_3 r_4 r_5 r_6 r_7 w h hp
  refine ⟨_, _, _, _, _, _, _, _, rfl, ?_⟩
  refine newL (o := [(Value.int .i64 0), (Value.int .i64 0), (Value.int .i64 0), (Value.int .i64 0), (Value.int .u64 0), (Value.int .i64 0), (Value.int .i64 0), (Value.int .u32 0)]) h ?_
  intro b_3 w h
  refine storeL (ys := [(Value.int .i64 r), (Value.int .i64 r_1), (Value.int .i64 r_2), (Value.int .i64 r_3), (Value.int .u64 r_4), (Value.int .i64 r_5), (Value.int .i64 r_6), (Value.int .u32 r_7)]) h 0 0 rfl rfl rfl sz25 rfl rfl ?_
  intro w h
  dsimp only [setH, setVs, setV] at h
  obtain ⟨g_1ha, g_1hb, g_1la, g_1lb, hp⟩ := hp
  have vg_1_lh : (Int.toNat 20) ≤ (Int.toNat 24) := (natLe2 g_1la g_1ha g_1lb)
  have vg_1_hm : (Int.toNat 24) ≤ c_1 := (Nat.le_trans (natLe g_1ha g_1hb) hc_b_1)
  have vg_1_mc : c_1 ≤ c_1 := (Nat.le_refl _)
  have vg_1_hl : (Int.toNat 24) ≤ b_1.length := (leLen g_1ha g_1hb rfl)
  refine ⟨g_1ha, (leCap g_1hb hc_b_1), g_1la, (leNat g_1ha g_1lb), ?_⟩
  refine embrasureref09_Num_ok (FL := cel b_3 25 [(Value.int .i64 r), (Value.int .i64 r_1), (Value.int .i64 r_2), (Value.int .i64 r_3), (Value.int .u64 r_4), (Value.int .i64 r_5), (Value.int .i64 r_6), (Value.int .u32 r_7)] :: cel b_2 25 [(Value.int .i64 0), (Value.int .i64 0), (Value.int .i64 0), (Value.int .i64 0), (Value.int .u64 0), (Value.int .i64 0), (Value.int .i64 0), (Value.int .u32 0)] :: FL) (fun w h => (Rd.view (hF_b_1 _ (h.drop 2)) (l := (Int.toNat 20)) (h := (Int.toNat 24)) (m := c_1) vg_1_hm)) (viewLen vg_1_hl) (Nat.sub_le_sub_right vg_1_hm _) h hp ?_
  intro r_8 w h hp
  refine ⟨_, rfl, ?_⟩
  refine ⟨_, cellL h 0 0 rfl rfl rfl, _, cellL h 0 1 rfl rfl rfl, _, cellL h 0 2 rfl rfl rfl, _, cellL h 0 3 rfl rfl rfl, _, cellL h 0 4 rfl rfl rfl, _, cellL h 0 5 rfl rfl rfl, _, cellL h 0 6 rfl rfl rfl, _, cellL h 0 7 rfl rfl rfl, ?_⟩
  refine embrasureref10_Ask_ok h hp ?_
  rintro rs p_2 n_2 c_2 w rfl h hp
  have cpp_2 := rowCap h 0 rfl
  refine ⟨_, _, _, rfl, ?_⟩
  refine embrasureref01_Same_ok (FL := row enc5 5 1 p_2 c_2 rs :: cel b_3 25 [(Value.int .i64 r), (Value.int .i64 r_1), (Value.int .i64 r_2), (Value.int .i64 r_3), (Value.int .u64 r_4), (Value.int .i64 r_5), (Value.int .i64 r_6), (Value.int .u32 r_7)] :: cel b_2 25 [(Value.int .i64 0), (Value.int .i64 0), (Value.int .i64 0), (Value.int .i64 0), (Value.int .u64 0), (Value.int .i64 0), (Value.int .i64 0), (Value.int .u32 0)] :: FL) (fun w h => (rowRd h 0 encL5 rfl)) rfl cpp_2 (fun w h => (hF_b_1 _ (h.drop 3))) rfl hc_b_1 h hp ?_
  intro r_9 w h hp
  refine ⟨_, rfl, ?_⟩
  refine cond_both hp (fun hp => ?_) (fun hp => ?_)
  · refine storeL (ys := [(Value.int .i64 0), (Value.int .i64 0), (Value.int .i64 0), (Value.int .i64 0), (Value.int .u64 0), (Value.int .i64 0), (Value.int .i64 0), (Value.int .u32 0)]) h 2 0 rfl rfl rfl sz25 rfl rfl ?_
    intro w h
    dsimp only [setH, setVs, setV] at h
    refine ⟨_, cellL h 2 0 rfl rfl rfl, _, cellL h 2 1 rfl rfl rfl, _, cellL h 2 2 rfl rfl rfl, _, cellL h 2 3 rfl rfl rfl, _, cellL h 2 4 rfl rfl rfl, _, cellL h 2 5 rfl rfl rfl, _, cellL h 2 6 rfl rfl rfl, _, cellL h 2 7 rfl rfl rfl, ?_⟩
    replace h := h.sel [] 3
    dsimp only [pickL, pickR, nthH, delH, dropH, List.cons_append, List.nil_append] at h
    exact hR 0 0 0 0 0 0 0 0 0 3 _ h hp
  refine ⟨_, cellL h 1 0 rfl rfl rfl, _, cellL h 1 1 rfl rfl rfl, _, cellL h 1 2 rfl rfl rfl, _, cellL h 1 3 rfl rfl rfl, _, cellL h 1 4 rfl rfl rfl, _, cellL h 1 5 rfl rfl rfl, _, cellL h 1 6 rfl rfl rfl, _, cellL h 1 7 rfl rfl rfl, ?_⟩
  refine storeL (ys := [(Value.int .i64 r), (Value.int .i64 r_1), (Value.int .i64 r_2), (Value.int .i64 r_3), (Value.int .u64 r_4), (Value.int .i64 r_5), (Value.int .i64 r_6), (Value.int .u32 r_7)]) h 2 0 rfl rfl rfl sz25 rfl rfl ?_
  intro w h
  dsimp only [setH, setVs, setV] at h
  refine ⟨_, cellL h 2 0 rfl rfl rfl, _, cellL h 2 1 rfl rfl rfl, _, cellL h 2 2 rfl rfl rfl, _, cellL h 2 3 rfl rfl rfl, _, cellL h 2 4 rfl rfl rfl, _, cellL h 2 5 rfl rfl rfl, _, cellL h 2 6 rfl rfl rfl, _, cellL h 2 7 rfl rfl rfl, ?_⟩
  replace h := h.sel [] 3
  dsimp only [pickL, pickR, nthH, delH, dropH, List.cons_append, List.nil_append] at h
  exact hR r r_1 r_2 r_3 r_4 r_5 r_6 r_7 (IntKind.wrap .u32 r_8) 0 _ h hp

/-! embrasure/embrasureref10.ReadAnswer (16) -/
def embrasureref10_ReadAnswer_wp (b_1 : List (Int)) (K : Int → Int → Int → Int → Int → Int → Int → Int → Int → Prop) : Prop :=
  cond ((((b_1.length : Nat) : Int) : Int) != 60) (K 0 0 0 0 0 0 0 0 3) (embrasureref10_of_wp b_1 (fun (r : Int) (r_1 : Int) (r_2 : Int) (r_3 : Int) (r_4 : Int) (r_5 : Int) (r_6 : Int) (r_7 : Int) => 0 ≤ (3 : Int) ∧ (3 : Int) < ((b_1.length : Nat) : Int) ∧ (∀ (x_1 : Int), b_1[Int.toNat 3]? = some x_1 → (0 ≤ (12 : Int) ∧ (12 : Int) ≤ ((b_1.length : Nat) : Int) ∧ 0 ≤ (8 : Int) ∧ (8 : Int) ≤ (12 : Int) ∧ (embrasureref09_Num_wp ((b_1.take (Int.toNat 12)).drop (Int.toNat 8)) (fun (r_8 : Int) => embrasureref10_Answer_wp r r_1 r_2 r_3 r_4 (IntKind.wrap .i64 x_1) r_8 r_7 (fun (rs : List (Int)) => embrasureref01_Same_wp rs b_1 (fun (r_9 : Bool) => cond (!r_9) (K 0 0 0 0 0 0 0 0 3) (K r r_1 r_2 r_3 r_4 (IntKind.wrap .i64 x_1) r_8 r_7 0)))))))))
theorem embrasureref10_ReadAnswer_ok {p_1 : Option Addr} {n_1 : Nat} {c_1 : Nat} {b_1 : List (Int)} {FL : List HP} {w : World} {K : Int → Int → Int → Int → Int → Int → Int → Int → Int → Prop} {R : Value → World → Prop}
  (hF_b_1 : ∀ w, Mem FL w → Rd w 1 p_1 enc5 b_1) (hl_b_1 : n_1 = b_1.length) (hc_b_1 : n_1 ≤ c_1)
  (h : Mem (FL) w) (hp : embrasureref10_ReadAnswer_wp b_1 K)
  (hR : ∀ (r : Int) (r_1 : Int) (r_2 : Int) (r_3 : Int) (r_4 : Int) (r_5 : Int) (r_6 : Int) (r_7 : Int) (r_8 : Int) (w : World), Mem (FL) w → K r r_1 r_2 r_3 r_4 r_5 r_6 r_7 r_8 → R (Value.tuple #[(Value.agg #[(Value.int .i64 r), (Value.int .i64 r_1), (Value.int .i64 r_2), (Value.int .i64 r_3), (Value.int .u64 r_4), (Value.int .i64 r_5), (Value.int .i64 r_6), (Value.int .u32 r_7)]), (Value.int .i64 r_8)]) w) :
  CallV Try.prog 16 #[(Value.slice p_1 n_1 c_1)] w R := by
  refine embrasureref10_ReadAnswer_call ?_
  unfold embrasureref10_ReadAnswer
  unfold embrasureref10_ReadAnswer_wp at hp
  subst hl_b_1
  refine newL (o := [(Value.int .i64 0), (Value.int .i64 0), (Value.int .i64 0), (Value.int .i64 0), (Value.int .u64 0), (Value.int .i64 0), (Value.int .i64 0), (Value.int .u32 0)]) h ?_
  intro b_2 w h
  refine cond_both hp (fun hp => ?_) (fun hp => ?_)
  · refine storeL (ys := [(Value.int .i64 0), (Value.int .i64 0), (Value.int .i64 0), (Value.int .i64 0), (Value.int .u64 0), (Value.int .i64 0), (Value.int .i64 0), (Value.int .u32 0)]) h 0 0 rfl rfl rfl sz25 rfl rfl ?_
    intro w h
    dsimp only [setH, setVs, setV] at h
    refine ⟨_, cellL h 0 0 rfl rfl rfl, _, cellL h 0 1 rfl rfl rfl, _, cellL h 0 2 rfl rfl rfl, _, cellL h 0 3 rfl rfl rfl, _, cellL h 0 4 rfl rfl rfl, _, cellL h 0 5 rfl rfl rfl, _, cellL h 0 6 rfl rfl rfl, _, cellL h 0 7 rfl rfl rfl, ?_⟩
    replace h := h.sel [] 1
    dsimp only [pickL, pickR, nthH, delH, dropH, List.cons_append, List.nil_append] at h
    exact hR 0 0 0 0 0 0 0 0 3 _ h hp
  refine embrasureref10_of_ok (FL := cel b_2 25 [(Value.int .i64 0), (Value.int .i64 0), (Value.int .i64 0), (Value.int .i64 0), (Value.int .u64 0), (Value.int .i64 0), (Value.int .i64 0), (Value.int .u32 0)] :: FL) (fun w h => (hF_b_1 _ (h.drop 1))) rfl hc_b_1 h hp ?_
  intro r r_1 r_2 r_3 r_4 r_5 r_6 r_7 w h hp
  refine ⟨_, _, _, _, _, _, _, _, rfl, ?_⟩
  refine newL (o := [(Value.int .i64 0), (Value.int .i64 0), (Value.int .i64 0), (Value.int .i64 0), (Value.int .u64 0), (Value.int .i64 0), (Value.int .i64 0), (Value.int .u32 0)]) h ?_
  intro b_3 w h
  refine storeL (ys := [(Value.int .i64 r), (Value.int .i64 r_1), (Value.int .i64 r_2), (Value.int .i64 r_3), (Value.int .u64 r_4), (Value.int .i64 r_5), (Value.int .i64 r_6), (Value.int .u32 r_7)]) h 0 0 rfl rfl rfl sz25 rfl rfl ?_
  intro w h
  dsimp only [setH, setVs, setV] at h
  obtain ⟨ia_1, ja_1, hp⟩ := hp
  obtain ⟨a_1, ha_1⟩ := rdAddr (hF_b_1 _ (h.drop 2)) rfl ia_1 ja_1
  refine ⟨a_1, ha_1, ia_1, ja_1, ?_⟩
  obtain ⟨x_1, hx_1, hc⟩ := rdCell0 (hF_b_1 _ (h.drop 2)) ha_1 rfl ia_1 ja_1
  replace hp := hp x_1 hx_1
  refine ⟨_, hc _ rfl, ?_⟩
  refine storeL (ys := [(Value.int .i64 (IntKind.wrap .i64 x_1))]) h 0 5 rfl rfl rfl sz3 rfl rfl ?_
  intro w h
  dsimp only [setH, setVs, setV] at h
  obtain ⟨g_1ha, g_1hb, g_1la, g_1lb, hp⟩ := hp
  have vg_1_lh : (Int.toNat 8) ≤ (Int.toNat 12) := (natLe2 g_1la g_1ha g_1lb)
  have vg_1_hm : (Int.toNat 12) ≤ c_1 := (Nat.le_trans (natLe g_1ha g_1hb) hc_b_1)
  have vg_1_mc : c_1 ≤ c_1 := (Nat.le_refl _)
  have vg_1_hl : (Int.toNat 12) ≤ b_1.length := (leLen g_1ha g_1hb rfl)
  refine ⟨g_1ha, (leCap g_1hb hc_b_1), g_1la, (leNat g_1ha g_1lb), ?_⟩
  refine embrasureref09_Num_ok (FL := cel b_3 25 [(Value.int .i64 r), (Value.int .i64 r_1), (Value.int .i64 r_2), (Value.int .i64 r_3), (Value.int .u64 r_4), (Value.int .i64 (IntKind.wrap .i64 x_1)), (Value.int .i64 r_6), (Value.int .u32 r_7)] :: cel b_2 25 [(Value.int .i64 0), (Value.int .i64 0), (Value.int .i64 0), (Value.int .i64 0), (Value.int .u64 0), (Value.int .i64 0), (Value.int .i64 0), (Value.int .u32 0)] :: FL) (fun w h => (Rd.view (hF_b_1 _ (h.drop 2)) (l := (Int.toNat 8)) (h := (Int.toNat 12)) (m := c_1) vg_1_hm)) (viewLen vg_1_hl) (Nat.sub_le_sub_right vg_1_hm _) h hp ?_
  intro r_8 w h hp
  refine ⟨_, rfl, ?_⟩
  refine storeL (ys := [(Value.int .i64 r_8)]) h 0 6 rfl rfl rfl sz3 rfl rfl ?_
  intro w h
  dsimp only [setH, setVs, setV] at h
  refine ⟨_, cellL h 0 0 rfl rfl rfl, _, cellL h 0 1 rfl rfl rfl, _, cellL h 0 2 rfl rfl rfl, _, cellL h 0 3 rfl rfl rfl, _, cellL h 0 4 rfl rfl rfl, _, cellL h 0 5 rfl rfl rfl, _, cellL h 0 6 rfl rfl rfl, _, cellL h 0 7 rfl rfl rfl, ?_⟩
  refine embrasureref10_Answer_ok h hp ?_
  rintro rs p_2 n_2 c_2 w rfl h hp
  have cpp_2 := rowCap h 0 rfl
  refine ⟨_, _, _, rfl, ?_⟩
  refine embrasureref01_Same_ok (FL := row enc5 5 1 p_2 c_2 rs :: cel b_3 25 [(Value.int .i64 r), (Value.int .i64 r_1), (Value.int .i64 r_2), (Value.int .i64 r_3), (Value.int .u64 r_4), (Value.int .i64 (IntKind.wrap .i64 x_1)), (Value.int .i64 r_8), (Value.int .u32 r_7)] :: cel b_2 25 [(Value.int .i64 0), (Value.int .i64 0), (Value.int .i64 0), (Value.int .i64 0), (Value.int .u64 0), (Value.int .i64 0), (Value.int .i64 0), (Value.int .u32 0)] :: FL) (fun w h => (rowRd h 0 encL5 rfl)) rfl cpp_2 (fun w h => (hF_b_1 _ (h.drop 3))) rfl hc_b_1 h hp ?_
  intro r_9 w h hp
  refine ⟨_, rfl, ?_⟩
  refine cond_both hp (fun hp => ?_) (fun hp => ?_)
  · refine storeL (ys := [(Value.int .i64 0), (Value.int .i64 0), (Value.int .i64 0), (Value.int .i64 0), (Value.int .u64 0), (Value.int .i64 0), (Value.int .i64 0), (Value.int .u32 0)]) h 2 0 rfl rfl rfl sz25 rfl rfl ?_
    intro w h
    dsimp only [setH, setVs, setV] at h
    refine ⟨_, cellL h 2 0 rfl rfl rfl, _, cellL h 2 1 rfl rfl rfl, _, cellL h 2 2 rfl rfl rfl, _, cellL h 2 3 rfl rfl rfl, _, cellL h 2 4 rfl rfl rfl, _, cellL h 2 5 rfl rfl rfl, _, cellL h 2 6 rfl rfl rfl, _, cellL h 2 7 rfl rfl rfl, ?_⟩
    replace h := h.sel [] 3
    dsimp only [pickL, pickR, nthH, delH, dropH, List.cons_append, List.nil_append] at h
    exact hR 0 0 0 0 0 0 0 0 3 _ h hp
  refine ⟨_, cellL h 1 0 rfl rfl rfl, _, cellL h 1 1 rfl rfl rfl, _, cellL h 1 2 rfl rfl rfl, _, cellL h 1 3 rfl rfl rfl, _, cellL h 1 4 rfl rfl rfl, _, cellL h 1 5 rfl rfl rfl, _, cellL h 1 6 rfl rfl rfl, _, cellL h 1 7 rfl rfl rfl, ?_⟩
  refine storeL (ys := [(Value.int .i64 r), (Value.int .i64 r_1), (Value.int .i64 r_2), (Value.int .i64 r_3), (Value.int .u64 r_4), (Value.int .i64 (IntKind.wrap .i64 x_1)), (Value.int .i64 r_8), (Value.int .u32 r_7)]) h 2 0 rfl rfl rfl sz25 rfl rfl ?_
  intro w h
  dsimp only [setH, setVs, setV] at h
  refine ⟨_, cellL h 2 0 rfl rfl rfl, _, cellL h 2 1 rfl rfl rfl, _, cellL h 2 2 rfl rfl rfl, _, cellL h 2 3 rfl rfl rfl, _, cellL h 2 4 rfl rfl rfl, _, cellL h 2 5 rfl rfl rfl, _, cellL h 2 6 rfl rfl rfl, _, cellL h 2 7 rfl rfl rfl, ?_⟩
  replace h := h.sel [] 3
  dsimp only [pickL, pickR, nthH, delH, dropH, List.cons_append, List.nil_append] at h
  exact hR r r_1 r_2 r_3 r_4 (IntKind.wrap .i64 x_1) r_8 r_7 0 _ h hp

/-! embrasure/embrasurelaw10.PcpReads (4) -/
def embrasurelaw10_PcpReads_wp (b_1 : List (Int)) (K : Bool → Prop) : Prop :=
  embrasurelaw10_awake_wp (fun (r : Bool) => cond (!r) (K false) (cond (decide ((((b_1.length : Nat) : Int) : Int) > 200)) (K true) ((([] : List (Int)).length + b_1.length) * 1 ≤ 140737488355328 ∧ (pcp_ReadAsk_wp (([] : List (Int)) ++ b_1) (fun (r_1 : Int) (r_2 : Int) (r_3 : Int) (r_4 : Int) (r_5 : Int) (r_6 : Int) (r_7 : Int) (r_8 : Int) (r_9 : Int) (r_10 : Int) => embrasureref10_ReadAsk_wp b_1 (fun (r_11 : Int) (r_12 : Int) (r_13 : Int) (r_14 : Int) (r_15 : Int) (r_16 : Int) (r_17 : Int) (r_18 : Int) (r_19 : Int) (r_20 : Int) => pcp_ReadAnswer_wp (([] : List (Int)) ++ b_1) (fun (r_21 : Int) (r_22 : Int) (r_23 : Int) (r_24 : Int) (r_25 : Int) (r_26 : Int) (r_27 : Int) (r_28 : Int) (r_29 : Int) => embrasureref10_ReadAnswer_wp b_1 (fun (r_30 : Int) (r_31 : Int) (r_32 : Int) (r_33 : Int) (r_34 : Int) (r_35 : Int) (r_36 : Int) (r_37 : Int) (r_38 : Int) => joinP0 (cond (((r_1 : Int) == r_11) && (((r_2 : Int) == r_12) && (((r_3 : Int) == r_13) && (((r_4 : Int) == r_14) && (((r_5 : Int) == r_15) && (((r_6 : Int) == r_16) && (((r_7 : Int) == r_17) && (((r_8 : Int) == r_18) && true)))))))) (cond ((r_9 : Int) == r_19) (cond ((r_10 : Int) == r_20) (cond (((r_21 : Int) == r_30) && (((r_22 : Int) == r_31) && (((r_23 : Int) == r_32) && (((r_24 : Int) == r_33) && (((r_25 : Int) == r_34) && (((r_26 : Int) == r_35) && (((r_27 : Int) == r_36) && (((r_28 : Int) == r_37) && true)))))))) (cond ((r_29 : Int) == r_38) (embrasureref01_Same_wp (([] : List (Int)) ++ b_1) b_1 (fun (r_39 : Bool) => cond r_39 (cond ((r_10 : Int) != 0) (K true) (K ((r_29 : Int) != 0))) (K false))) (K false)) (K false)) (K false)) (K false)) (K false)) (fun (Q : Prop) => joinP1 (fun (t55 : Bool) => cond t55 (K false) (Q )) (fun (Q_1 : Bool → Prop) => cond (decide ((((b_1.length : Nat) : Int) : Int) > 0)) (0 ≤ (0 : Int) ∧ (0 : Int) < ((b_1.length : Nat) : Int) ∧ (∀ (x_2 : Int), b_1[Int.toNat 0]? = some x_2 → (pcp_Version_wp b_1 (fun (r_40 : Int) => Q_1 ((r_40 : Int) != (IntKind.wrap .i64 x_2)))))) (Q_1 false)))))))))))
theorem embrasurelaw10_PcpReads_ok {p_1 : Option Addr} {n_1 : Nat} {c_1 : Nat} {b_1 : List (Int)} {FL : List HP} {w : World} {K : Bool → Prop} {R : Value → World → Prop}
  (hF_b_1 : ∀ w, Mem FL w → Rd w 1 p_1 enc5 b_1) (hl_b_1 : n_1 = b_1.length) (hc_b_1 : n_1 ≤ c_1)
  (h : Mem (FL) w) (hp : embrasurelaw10_PcpReads_wp b_1 K)
  (hR : ∀ (r : Bool) (w : World), Mem (FL) w → K r → R (Value.bool r) w) :
  CallV Try.prog 4 #[(Value.slice p_1 n_1 c_1)] w R := by
  refine embrasurelaw10_PcpReads_call ?_
  unfold embrasurelaw10_PcpReads
  unfold embrasurelaw10_PcpReads_wp at hp
  subst hl_b_1
  refine embrasurelaw10_awake_ok h hp ?_
  intro r w h hp
  refine ⟨_, rfl, ?_⟩
  refine cond_both hp (fun hp => ?_) (fun hp => ?_)
  · exact hR false _ h hp
  refine cond_both hp (fun hp => ?_) (fun hp => ?_)
  · exact hR true _ h hp
  refine newL (o := []) h ?_
  intro b_2 w h
  have sr := (hF_b_1 _ (h.drop 1))
  replace h := rowOfCel h 0 encL5 rfl ([] : List (Int)) rfl
  dsimp only [setH, setVs, setV] at h
  obtain ⟨hb, hp⟩ := hp
  refine appendL slt27 und27 encL5 encO5 h 0 rfl rfl sr rfl hb ?_
  intro p_2 c_2 w h
  dsimp only [setH, setVs, setV] at h
  have cpp_2 := rowCap h 0 rfl
  refine ⟨_, _, _, rfl, ?_⟩
  refine pcp_ReadAsk_ok (FL := row enc5 5 1 p_2 c_2 (([] : List (Int)) ++ b_1) :: FL) (fun w h => (rowRd h 0 encL5 rfl)) rfl cpp_2 h hp ?_
  intro r_1 r_2 r_3 r_4 r_5 r_6 r_7 r_8 r_9 r_10 w h hp
  refine ⟨_, _, _, _, _, _, _, _, _, _, rfl, ?_⟩
  refine newL (o := [(Value.int .i64 0), (Value.int .i64 0), (Value.int .i64 0), (Value.int .i64 0), (Value.int .u64 0), (Value.int .i64 0), (Value.int .i64 0), (Value.int .u32 0)]) h ?_
  intro b_3 w h
  refine storeL (ys := [(Value.int .i64 r_1), (Value.int .i64 r_2), (Value.int .i64 r_3), (Value.int .i64 r_4), (Value.int .u64 r_5), (Value.int .i64 r_6), (Value.int .i64 r_7), (Value.int .u32 r_8)]) h 0 0 rfl rfl rfl sz25 rfl rfl ?_
  intro w h
  dsimp only [setH, setVs, setV] at h
  refine embrasureref10_ReadAsk_ok (FL := cel b_3 25 [(Value.int .i64 r_1), (Value.int .i64 r_2), (Value.int .i64 r_3), (Value.int .i64 r_4), (Value.int .u64 r_5), (Value.int .i64 r_6), (Value.int .i64 r_7), (Value.int .u32 r_8)] :: row enc5 5 1 p_2 c_2 (([] : List (Int)) ++ b_1) :: FL) (fun w h => (hF_b_1 _ (h.drop 2))) rfl hc_b_1 h hp ?_
  intro r_11 r_12 r_13 r_14 r_15 r_16 r_17 r_18 r_19 r_20 w h hp
  refine ⟨_, _, _, _, _, _, _, _, _, _, rfl, ?_⟩
  refine newL (o := [(Value.int .i64 0), (Value.int .i64 0), (Value.int .i64 0), (Value.int .i64 0), (Value.int .u64 0), (Value.int .i64 0), (Value.int .i64 0), (Value.int .u32 0)]) h ?_
  intro b_4 w h
  refine storeL (ys := [(Value.int .i64 r_11), (Value.int .i64 r_12), (Value.int .i64 r_13), (Value.int .i64 r_14), (Value.int .u64 r_15), (Value.int .i64 r_16), (Value.int .i64 r_17), (Value.int .u32 r_18)]) h 0 0 rfl rfl rfl sz25 rfl rfl ?_
  intro w h
  dsimp only [setH, setVs, setV] at h
  refine pcp_ReadAnswer_ok (FL := cel b_4 25 [(Value.int .i64 r_11), (Value.int .i64 r_12), (Value.int .i64 r_13), (Value.int .i64 r_14), (Value.int .u64 r_15), (Value.int .i64 r_16), (Value.int .i64 r_17), (Value.int .u32 r_18)] :: cel b_3 25 [(Value.int .i64 r_1), (Value.int .i64 r_2), (Value.int .i64 r_3), (Value.int .i64 r_4), (Value.int .u64 r_5), (Value.int .i64 r_6), (Value.int .i64 r_7), (Value.int .u32 r_8)] :: row enc5 5 1 p_2 c_2 (([] : List (Int)) ++ b_1) :: FL) (fun w h => (rowRd h 2 encL5 rfl)) rfl cpp_2 h hp ?_
  intro r_21 r_22 r_23 r_24 r_25 r_26 r_27 r_28 r_29 w h hp
  refine ⟨_, _, _, _, _, _, _, _, _, rfl, ?_⟩
  refine newL (o := [(Value.int .i64 0), (Value.int .i64 0), (Value.int .i64 0), (Value.int .i64 0), (Value.int .u64 0), (Value.int .i64 0), (Value.int .i64 0), (Value.int .u32 0)]) h ?_
  intro b_5 w h
  refine storeL (ys := [(Value.int .i64 r_21), (Value.int .i64 r_22), (Value.int .i64 r_23), (Value.int .i64 r_24), (Value.int .u64 r_25), (Value.int .i64 r_26), (Value.int .i64 r_27), (Value.int .u32 r_28)]) h 0 0 rfl rfl rfl sz25 rfl rfl ?_
  intro w h
  dsimp only [setH, setVs, setV] at h
  refine embrasureref10_ReadAnswer_ok (FL := cel b_5 25 [(Value.int .i64 r_21), (Value.int .i64 r_22), (Value.int .i64 r_23), (Value.int .i64 r_24), (Value.int .u64 r_25), (Value.int .i64 r_26), (Value.int .i64 r_27), (Value.int .u32 r_28)] :: cel b_4 25 [(Value.int .i64 r_11), (Value.int .i64 r_12), (Value.int .i64 r_13), (Value.int .i64 r_14), (Value.int .u64 r_15), (Value.int .i64 r_16), (Value.int .i64 r_17), (Value.int .u32 r_18)] :: cel b_3 25 [(Value.int .i64 r_1), (Value.int .i64 r_2), (Value.int .i64 r_3), (Value.int .i64 r_4), (Value.int .u64 r_5), (Value.int .i64 r_6), (Value.int .i64 r_7), (Value.int .u32 r_8)] :: row enc5 5 1 p_2 c_2 (([] : List (Int)) ++ b_1) :: FL) (fun w h => (hF_b_1 _ (h.drop 4))) rfl hc_b_1 h hp ?_
  intro r_30 r_31 r_32 r_33 r_34 r_35 r_36 r_37 r_38 w h hp
  refine ⟨_, _, _, _, _, _, _, _, _, rfl, ?_⟩
  refine newL (o := [(Value.int .i64 0), (Value.int .i64 0), (Value.int .i64 0), (Value.int .i64 0), (Value.int .u64 0), (Value.int .i64 0), (Value.int .i64 0), (Value.int .u32 0)]) h ?_
  intro b_6 w h
  refine storeL (ys := [(Value.int .i64 r_30), (Value.int .i64 r_31), (Value.int .i64 r_32), (Value.int .i64 r_33), (Value.int .u64 r_34), (Value.int .i64 r_35), (Value.int .i64 r_36), (Value.int .u32 r_37)]) h 0 0 rfl rfl rfl sz25 rfl rfl ?_
  intro w h
  dsimp only [setH, setVs, setV] at h
  obtain ⟨Q, hq, hp⟩ := hp
  refine ⟨fun b0p b0l b0c own3p own3l own3c x4 c5 e6 y7 d8 f9 z10 g11 w12 h13 w => p_1 = b0p ∧ b_1.length = b0l ∧ c_1 = b0c ∧ p_2 = own3p ∧ (([] : List (Int)) ++ b_1).length = own3l ∧ c_2 = own3c ∧ (Addr.mk b_3 0 none) = x4 ∧ r_9 = c5 ∧ r_10 = e6 ∧ (Addr.mk b_4 0 none) = y7 ∧ r_19 = d8 ∧ r_20 = f9 ∧ (Addr.mk b_5 0 none) = z10 ∧ r_29 = g11 ∧ (Addr.mk b_6 0 none) = w12 ∧ r_38 = h13 ∧ Q ∧ Mem (cel b_6 25 [(Value.int .i64 r_30), (Value.int .i64 r_31), (Value.int .i64 r_32), (Value.int .i64 r_33), (Value.int .u64 r_34), (Value.int .i64 r_35), (Value.int .i64 r_36), (Value.int .u32 r_37)] :: cel b_5 25 [(Value.int .i64 r_21), (Value.int .i64 r_22), (Value.int .i64 r_23), (Value.int .i64 r_24), (Value.int .u64 r_25), (Value.int .i64 r_26), (Value.int .i64 r_27), (Value.int .u32 r_28)] :: cel b_4 25 [(Value.int .i64 r_11), (Value.int .i64 r_12), (Value.int .i64 r_13), (Value.int .i64 r_14), (Value.int .u64 r_15), (Value.int .i64 r_16), (Value.int .i64 r_17), (Value.int .u32 r_18)] :: cel b_3 25 [(Value.int .i64 r_1), (Value.int .i64 r_2), (Value.int .i64 r_3), (Value.int .i64 r_4), (Value.int .u64 r_5), (Value.int .i64 r_6), (Value.int .i64 r_7), (Value.int .u32 r_8)] :: row enc5 5 1 p_2 c_2 (([] : List (Int)) ++ b_1) :: FL) w, ?_, ?_⟩
  · rintro b0p b0l b0c own3p own3l own3c x4 c5 e6 y7 d8 f9 z10 g11 w12 h13 w ⟨rfl, rfl, rfl, rfl, rfl, rfl, rfl, rfl, rfl, rfl, rfl, rfl, rfl, rfl, rfl, rfl, hp, h⟩
    replace hp := hq  hp
    unfold embrasurelaw10_PcpReads_j1
    refine ⟨_, cellL h 3 0 rfl rfl rfl, _, cellL h 3 1 rfl rfl rfl, _, cellL h 3 2 rfl rfl rfl, _, cellL h 3 3 rfl rfl rfl, _, cellL h 3 4 rfl rfl rfl, _, cellL h 3 5 rfl rfl rfl, _, cellL h 3 6 rfl rfl rfl, _, cellL h 3 7 rfl rfl rfl, ?_⟩
    refine ⟨_, cellL h 2 0 rfl rfl rfl, _, cellL h 2 1 rfl rfl rfl, _, cellL h 2 2 rfl rfl rfl, _, cellL h 2 3 rfl rfl rfl, _, cellL h 2 4 rfl rfl rfl, _, cellL h 2 5 rfl rfl rfl, _, cellL h 2 6 rfl rfl rfl, _, cellL h 2 7 rfl rfl rfl, ?_⟩
    refine eqlAgg (xs := [(Value.int .i64 r_1), (Value.int .i64 r_2), (Value.int .i64 r_3), (Value.int .i64 r_4), (Value.int .u64 r_5), (Value.int .i64 r_6), (Value.int .i64 r_7), (Value.int .u32 r_8)]) (ys := [(Value.int .i64 r_11), (Value.int .i64 r_12), (Value.int .i64 r_13), (Value.int .i64 r_14), (Value.int .u64 r_15), (Value.int .i64 r_16), (Value.int .i64 r_17), (Value.int .u32 r_18)]) eqG25 eqA25 (eqT25 r_1 r_2 r_3 r_4 r_5 r_6 r_7 r_8 r_11 r_12 r_13 r_14 r_15 r_16 r_17 r_18) ?_
    refine ⟨_, rfl, ?_⟩
    refine cond_both' hp (fun hp => ?_) (fun hp => ?_)
    · replace h := h.sel [] 5
      dsimp only [pickL, pickR, nthH, delH, dropH, List.cons_append, List.nil_append] at h
      exact hR false _ h hp
    refine cond_both' hp (fun hp => ?_) (fun hp => ?_)
    · replace h := h.sel [] 5
      dsimp only [pickL, pickR, nthH, delH, dropH, List.cons_append, List.nil_append] at h
      exact hR false _ h hp
    refine cond_both' hp (fun hp => ?_) (fun hp => ?_)
    · replace h := h.sel [] 5
      dsimp only [pickL, pickR, nthH, delH, dropH, List.cons_append, List.nil_append] at h
      exact hR false _ h hp
    refine ⟨_, cellL h 1 0 rfl rfl rfl, _, cellL h 1 1 rfl rfl rfl, _, cellL h 1 2 rfl rfl rfl, _, cellL h 1 3 rfl rfl rfl, _, cellL h 1 4 rfl rfl rfl, _, cellL h 1 5 rfl rfl rfl, _, cellL h 1 6 rfl rfl rfl, _, cellL h 1 7 rfl rfl rfl, ?_⟩
    refine ⟨_, cellL h 0 0 rfl rfl rfl, _, cellL h 0 1 rfl rfl rfl, _, cellL h 0 2 rfl rfl rfl, _, cellL h 0 3 rfl rfl rfl, _, cellL h 0 4 rfl rfl rfl, _, cellL h 0 5 rfl rfl rfl, _, cellL h 0 6 rfl rfl rfl, _, cellL h 0 7 rfl rfl rfl, ?_⟩
    refine eqlAgg (xs := [(Value.int .i64 r_21), (Value.int .i64 r_22), (Value.int .i64 r_23), (Value.int .i64 r_24), (Value.int .u64 r_25), (Value.int .i64 r_26), (Value.int .i64 r_27), (Value.int .u32 r_28)]) (ys := [(Value.int .i64 r_30), (Value.int .i64 r_31), (Value.int .i64 r_32), (Value.int .i64 r_33), (Value.int .u64 r_34), (Value.int .i64 r_35), (Value.int .i64 r_36), (Value.int .u32 r_37)]) eqG25 eqA25 (eqT25 r_21 r_22 r_23 r_24 r_25 r_26 r_27 r_28 r_30 r_31 r_32 r_33 r_34 r_35 r_36 r_37) ?_
    refine ⟨_, rfl, ?_⟩
    refine cond_both' hp (fun hp => ?_) (fun hp => ?_)
    · replace h := h.sel [] 5
      dsimp only [pickL, pickR, nthH, delH, dropH, List.cons_append, List.nil_append] at h
      exact hR false _ h hp
    refine cond_both' hp (fun hp => ?_) (fun hp => ?_)
    · replace h := h.sel [] 5
      dsimp only [pickL, pickR, nthH, delH, dropH, List.cons_append, List.nil_append] at h
      exact hR false _ h hp
    refine embrasureref01_Same_ok (FL := cel b_6 25 [(Value.int .i64 r_30), (Value.int .i64 r_31), (Value.int .i64 r_32), (Value.int .i64 r_33), (Value.int .u64 r_34), (Value.int .i64 r_35), (Value.int .i64 r_36), (Value.int .u32 r_37)] :: cel b_5 25 [(Value.int .i64 r_21), (Value.int .i64 r_22), (Value.int .i64 r_23), (Value.int .i64 r_24), (Value.int .u64 r_25), (Value.int .i64 r_26), (Value.int .i64 r_27), (Value.int .u32 r_28)] :: cel b_4 25 [(Value.int .i64 r_11), (Value.int .i64 r_12), (Value.int .i64 r_13), (Value.int .i64 r_14), (Value.int .u64 r_15), (Value.int .i64 r_16), (Value.int .i64 r_17), (Value.int .u32 r_18)] :: cel b_3 25 [(Value.int .i64 r_1), (Value.int .i64 r_2), (Value.int .i64 r_3), (Value.int .i64 r_4), (Value.int .u64 r_5), (Value.int .i64 r_6), (Value.int .i64 r_7), (Value.int .u32 r_8)] :: row enc5 5 1 p_2 c_2 (([] : List (Int)) ++ b_1) :: FL) (fun w h => (rowRd h 4 encL5 rfl)) rfl cpp_2 (fun w h => (hF_b_1 _ (h.drop 5))) rfl hc_b_1 h hp ?_
    intro r_39 w h hp
    refine ⟨_, rfl, ?_⟩
    refine cond_both' hp (fun hp => ?_) (fun hp => ?_)
    · replace h := h.sel [] 5
      dsimp only [pickL, pickR, nthH, delH, dropH, List.cons_append, List.nil_append] at h
      exact hR false _ h hp
    refine cond_both hp (fun hp => ?_) (fun hp => ?_)
    · replace h := h.sel [] 5
      dsimp only [pickL, pickR, nthH, delH, dropH, List.cons_append, List.nil_append] at h
      exact hR true _ h hp
    replace h := h.sel [] 5
    dsimp only [pickL, pickR, nthH, delH, dropH, List.cons_append, List.nil_append] at h
    exact hR ((r_29 : Int) != 0) _ h hp
  clear hq
  obtain ⟨Q_1, hq, hp⟩ := hp
  refine ⟨fun b0_1p b0_1l b0_1c own3_1p own3_1l own3_1c x4_1 c5_1 e6_1 y7_1 d8_1 f9_1 z10_1 g11_1 w12_1 h13_1 t55 w => p_1 = b0_1p ∧ b_1.length = b0_1l ∧ c_1 = b0_1c ∧ p_2 = own3_1p ∧ (([] : List (Int)) ++ b_1).length = own3_1l ∧ c_2 = own3_1c ∧ (Addr.mk b_3 0 none) = x4_1 ∧ r_9 = c5_1 ∧ r_10 = e6_1 ∧ (Addr.mk b_4 0 none) = y7_1 ∧ r_19 = d8_1 ∧ r_20 = f9_1 ∧ (Addr.mk b_5 0 none) = z10_1 ∧ r_29 = g11_1 ∧ (Addr.mk b_6 0 none) = w12_1 ∧ r_38 = h13_1 ∧ Q_1 t55 ∧ Mem (cel b_6 25 [(Value.int .i64 r_30), (Value.int .i64 r_31), (Value.int .i64 r_32), (Value.int .i64 r_33), (Value.int .u64 r_34), (Value.int .i64 r_35), (Value.int .i64 r_36), (Value.int .u32 r_37)] :: cel b_5 25 [(Value.int .i64 r_21), (Value.int .i64 r_22), (Value.int .i64 r_23), (Value.int .i64 r_24), (Value.int .u64 r_25), (Value.int .i64 r_26), (Value.int .i64 r_27), (Value.int .u32 r_28)] :: cel b_4 25 [(Value.int .i64 r_11), (Value.int .i64 r_12), (Value.int .i64 r_13), (Value.int .i64 r_14), (Value.int .u64 r_15), (Value.int .i64 r_16), (Value.int .i64 r_17), (Value.int .u32 r_18)] :: cel b_3 25 [(Value.int .i64 r_1), (Value.int .i64 r_2), (Value.int .i64 r_3), (Value.int .i64 r_4), (Value.int .u64 r_5), (Value.int .i64 r_6), (Value.int .i64 r_7), (Value.int .u32 r_8)] :: row enc5 5 1 p_2 c_2 (([] : List (Int)) ++ b_1) :: FL) w, ?_, ?_⟩
  · rintro b0_1p b0_1l b0_1c own3_1p own3_1l own3_1c x4_1 c5_1 e6_1 y7_1 d8_1 f9_1 z10_1 g11_1 w12_1 h13_1 t55 w ⟨rfl, rfl, rfl, rfl, rfl, rfl, rfl, rfl, rfl, rfl, rfl, rfl, rfl, rfl, rfl, rfl, hp, h⟩
    replace hp := hq t55 hp
    unfold embrasurelaw10_PcpReads_j2
    refine cond_both' hp (fun hp => ?_) (fun hp => ?_)
    · exact ⟨rfl, rfl, rfl, rfl, rfl, rfl, rfl, rfl, rfl, rfl, rfl, rfl, rfl, rfl, rfl, rfl, hp, h⟩
    replace h := h.sel [] 5
    dsimp only [pickL, pickR, nthH, delH, dropH, List.cons_append, List.nil_append] at h
    exact hR false _ h hp
  clear hq
  replace h := h.drew
  refine ⟨fun w => Mem (FL) w, (h.sel [] 5), ?_⟩
  refine ⟨rfl, ?_⟩
  refine cond_both' hp (fun hp => ?_) (fun hp => ?_)
  · exact ⟨rfl, rfl, rfl, rfl, rfl, rfl, rfl, rfl, rfl, rfl, rfl, rfl, rfl, rfl, rfl, rfl, hp, h⟩
  obtain ⟨ia_1, ja_1, hp⟩ := hp
  obtain ⟨a_1, ha_1⟩ := rdAddr (hF_b_1 _ (h.drop 5)) rfl ia_1 ja_1
  refine ⟨a_1, ha_1, ia_1, ja_1, ?_⟩
  obtain ⟨x_2, hx_2, hc⟩ := rdCell0 (hF_b_1 _ (h.drop 5)) ha_1 rfl ia_1 ja_1
  replace hp := hp x_2 hx_2
  refine ⟨_, hc _ rfl, ?_⟩
  refine ⟨?_, ?_⟩
  · intro w h
    change Mem _ _ at h
    obtain ⟨x_1, hx_1, hcq⟩ := rdCell0 (hF_b_1 _ (h.drop 0)) ha_1 rfl ia_1 ja_1
    obtain rfl : x_1 = x_2 := Option.some.inj (hx_1.symm.trans hx_2)
    refine ⟨_, hcq _ rfl, ?_⟩
    exact ⟨rfl, rfl⟩
  refine pcp_Version_ok (FL := cel b_6 25 [(Value.int .i64 r_30), (Value.int .i64 r_31), (Value.int .i64 r_32), (Value.int .i64 r_33), (Value.int .u64 r_34), (Value.int .i64 r_35), (Value.int .i64 r_36), (Value.int .u32 r_37)] :: cel b_5 25 [(Value.int .i64 r_21), (Value.int .i64 r_22), (Value.int .i64 r_23), (Value.int .i64 r_24), (Value.int .u64 r_25), (Value.int .i64 r_26), (Value.int .i64 r_27), (Value.int .u32 r_28)] :: cel b_4 25 [(Value.int .i64 r_11), (Value.int .i64 r_12), (Value.int .i64 r_13), (Value.int .i64 r_14), (Value.int .u64 r_15), (Value.int .i64 r_16), (Value.int .i64 r_17), (Value.int .u32 r_18)] :: cel b_3 25 [(Value.int .i64 r_1), (Value.int .i64 r_2), (Value.int .i64 r_3), (Value.int .i64 r_4), (Value.int .u64 r_5), (Value.int .i64 r_6), (Value.int .i64 r_7), (Value.int .u32 r_8)] :: row enc5 5 1 p_2 c_2 (([] : List (Int)) ++ b_1) :: FL) (fun w h => (hF_b_1 _ (h.drop 5))) rfl hc_b_1 h hp ?_
  intro r_40 w h hp
  refine ⟨_, rfl, ?_⟩
  refine ⟨(h.sel [] 5), ?_⟩
  exact ⟨rfl, rfl, rfl, rfl, rfl, rfl, rfl, rfl, rfl, rfl, rfl, rfl, rfl, rfl, rfl, rfl, hp, h⟩

/-! embrasure/pmp.fits (47) -/
def pmp_fits_wp (l_Ver : Int) (l_Inside : Int) (l_Port : Int) (l_Secs : Int) (l_Nonce : Int) (l_Result : Int) (l_Epoch : Int) (l_Host : Int) (K : Bool → Prop) : Prop :=
  cond (decide ((l_Inside : Int) ≥ 0)) (cond (decide ((l_Inside : Int) ≤ 65535)) (cond (decide ((l_Port : Int) ≥ 0)) (cond (decide ((l_Port : Int) ≤ 65535)) (cond (decide ((l_Secs : Int) ≥ 0)) (cond (decide ((l_Secs : Int) ≤ 4294967295)) (cond (decide ((l_Result : Int) ≥ 0)) (cond (decide ((l_Result : Int) ≤ 65535)) (cond (decide ((l_Epoch : Int) ≥ 0)) (K (decide ((l_Epoch : Int) ≤ 4294967295))) (K false)) (K false)) (K false)) (K false)) (K false)) (K false)) (K false)) (K false)) (K false)
theorem pmp_fits_ok {l_Ver : Int} {l_Inside : Int} {l_Port : Int} {l_Secs : Int} {l_Nonce : Int} {l_Result : Int} {l_Epoch : Int} {l_Host : Int} {FL : List HP} {w : World} {K : Bool → Prop} {R : Value → World → Prop}
  (h : Mem (FL) w) (hp : pmp_fits_wp l_Ver l_Inside l_Port l_Secs l_Nonce l_Result l_Epoch l_Host K)
  (hR : ∀ (r : Bool) (w : World), Mem (FL) w → K r → R (Value.bool r) w) :
  CallV Try.prog 47 #[(Value.agg #[(Value.int .i64 l_Ver), (Value.int .i64 l_Inside), (Value.int .i64 l_Port), (Value.int .i64 l_Secs), (Value.int .u64 l_Nonce), (Value.int .i64 l_Result), (Value.int .i64 l_Epoch), (Value.int .u32 l_Host)])] w R := by
  refine pmp_fits_call ?_
  unfold pmp_fits
  unfold pmp_fits_wp at hp
  refine newL (o := [(Value.int .i64 l_Ver), (Value.int .i64 l_Inside), (Value.int .i64 l_Port), (Value.int .i64 l_Secs), (Value.int .u64 l_Nonce), (Value.int .i64 l_Result), (Value.int .i64 l_Epoch), (Value.int .u32 l_Host)]) h ?_
  intro b_1 w h
  refine ⟨_, cellL h 0 1 rfl rfl rfl, ?_⟩
  refine cond_both' hp (fun hp => ?_) (fun hp => ?_)
  · replace h := h.sel [] 1
    dsimp only [pickL, pickR, nthH, delH, dropH, List.cons_append, List.nil_append] at h
    exact hR false _ h hp
  refine ⟨_, cellL h 0 1 rfl rfl rfl, ?_⟩
  refine cond_both' hp (fun hp => ?_) (fun hp => ?_)
  · replace h := h.sel [] 1
    dsimp only [pickL, pickR, nthH, delH, dropH, List.cons_append, List.nil_append] at h
    exact hR false _ h hp
  refine ⟨_, cellL h 0 2 rfl rfl rfl, ?_⟩
  refine cond_both' hp (fun hp => ?_) (fun hp => ?_)
  · replace h := h.sel [] 1
    dsimp only [pickL, pickR, nthH, delH, dropH, List.cons_append, List.nil_append] at h
    exact hR false _ h hp
  refine ⟨_, cellL h 0 2 rfl rfl rfl, ?_⟩
  refine cond_both' hp (fun hp => ?_) (fun hp => ?_)
  · replace h := h.sel [] 1
    dsimp only [pickL, pickR, nthH, delH, dropH, List.cons_append, List.nil_append] at h
    exact hR false _ h hp
  refine ⟨_, cellL h 0 3 rfl rfl rfl, ?_⟩
  refine cond_both' hp (fun hp => ?_) (fun hp => ?_)
  · replace h := h.sel [] 1
    dsimp only [pickL, pickR, nthH, delH, dropH, List.cons_append, List.nil_append] at h
    exact hR false _ h hp
  refine ⟨_, cellL h 0 3 rfl rfl rfl, ?_⟩
  refine cond_both' hp (fun hp => ?_) (fun hp => ?_)
  · replace h := h.sel [] 1
    dsimp only [pickL, pickR, nthH, delH, dropH, List.cons_append, List.nil_append] at h
    exact hR false _ h hp
  refine ⟨_, cellL h 0 5 rfl rfl rfl, ?_⟩
  refine cond_both' hp (fun hp => ?_) (fun hp => ?_)
  · replace h := h.sel [] 1
    dsimp only [pickL, pickR, nthH, delH, dropH, List.cons_append, List.nil_append] at h
    exact hR false _ h hp
  refine ⟨_, cellL h 0 5 rfl rfl rfl, ?_⟩
  refine cond_both' hp (fun hp => ?_) (fun hp => ?_)
  · replace h := h.sel [] 1
    dsimp only [pickL, pickR, nthH, delH, dropH, List.cons_append, List.nil_append] at h
    exact hR false _ h hp
  refine ⟨_, cellL h 0 6 rfl rfl rfl, ?_⟩
  refine cond_both' hp (fun hp => ?_) (fun hp => ?_)
  · replace h := h.sel [] 1
    dsimp only [pickL, pickR, nthH, delH, dropH, List.cons_append, List.nil_append] at h
    exact hR false _ h hp
  refine ⟨_, cellL h 0 6 rfl rfl rfl, ?_⟩
  replace h := h.sel [] 1
  dsimp only [pickL, pickR, nthH, delH, dropH, List.cons_append, List.nil_append] at h
  exact hR (decide ((l_Epoch : Int) ≤ 4294967295)) _ h hp

/-! embrasure/pmp.mayAsk (35) -/
def pmp_mayAsk_wp (l_Ver : Int) (l_Inside : Int) (l_Port : Int) (l_Secs : Int) (l_Nonce : Int) (l_Result : Int) (l_Epoch : Int) (l_Host : Int) (host : Bool) (K : Bool → Prop) : Prop :=
  pmp_fits_wp l_Ver l_Inside l_Port l_Secs l_Nonce l_Result l_Epoch l_Host (fun (r : Bool) => cond r (cond (((l_Ver : Int) == 0) && (((l_Inside : Int) == l_Inside) && (((l_Port : Int) == l_Port) && (((l_Secs : Int) == l_Secs) && (((l_Nonce : Int) == 0) && (((l_Result : Int) == 0) && (((l_Epoch : Int) == 0) && (((l_Host : Int) == 0) && true)))))))) (cond (!host) (K true) (K (((l_Ver : Int) == 0) && (((l_Inside : Int) == 0) && (((l_Port : Int) == 0) && (((l_Secs : Int) == 0) && (((l_Nonce : Int) == 0) && (((l_Result : Int) == 0) && (((l_Epoch : Int) == 0) && (((l_Host : Int) == 0) && true)))))))))) (K false)) (K false))
theorem pmp_mayAsk_ok {l_Ver : Int} {l_Inside : Int} {l_Port : Int} {l_Secs : Int} {l_Nonce : Int} {l_Result : Int} {l_Epoch : Int} {l_Host : Int} {host : Bool} {FL : List HP} {w : World} {K : Bool → Prop} {R : Value → World → Prop}
  (h : Mem (FL) w) (hp : pmp_mayAsk_wp l_Ver l_Inside l_Port l_Secs l_Nonce l_Result l_Epoch l_Host host K)
  (hR : ∀ (r : Bool) (w : World), Mem (FL) w → K r → R (Value.bool r) w) :
  CallV Try.prog 35 #[(Value.agg #[(Value.int .i64 l_Ver), (Value.int .i64 l_Inside), (Value.int .i64 l_Port), (Value.int .i64 l_Secs), (Value.int .u64 l_Nonce), (Value.int .i64 l_Result), (Value.int .i64 l_Epoch), (Value.int .u32 l_Host)]), (Value.bool host)] w R := by
  refine pmp_mayAsk_call ?_
  unfold pmp_mayAsk
  unfold pmp_mayAsk_wp at hp
  refine newL (o := [(Value.int .i64 l_Ver), (Value.int .i64 l_Inside), (Value.int .i64 l_Port), (Value.int .i64 l_Secs), (Value.int .u64 l_Nonce), (Value.int .i64 l_Result), (Value.int .i64 l_Epoch), (Value.int .u32 l_Host)]) h ?_
  intro b_1 w h
  refine ⟨_, cellL h 0 1 rfl rfl rfl, ?_⟩
  refine ⟨_, cellL h 0 2 rfl rfl rfl, ?_⟩
  refine ⟨_, cellL h 0 3 rfl rfl rfl, ?_⟩
  refine newL (o := [(Value.int .i64 0), (Value.int .i64 0), (Value.int .i64 0), (Value.int .i64 0), (Value.int .u64 0), (Value.int .i64 0), (Value.int .i64 0), (Value.int .u32 0)]) h ?_
  intro b_2 w h
  refine storeL (ys := [(Value.int .i64 0), (Value.int .i64 l_Inside), (Value.int .i64 l_Port), (Value.int .i64 l_Secs), (Value.int .u64 0), (Value.int .i64 0), (Value.int .i64 0), (Value.int .u32 0)]) h 0 0 rfl rfl rfl sz25 rfl rfl ?_
  intro w h
  dsimp only [setH, setVs, setV] at h
  refine ⟨_, cellL h 1 0 rfl rfl rfl, _, cellL h 1 1 rfl rfl rfl, _, cellL h 1 2 rfl rfl rfl, _, cellL h 1 3 rfl rfl rfl, _, cellL h 1 4 rfl rfl rfl, _, cellL h 1 5 rfl rfl rfl, _, cellL h 1 6 rfl rfl rfl, _, cellL h 1 7 rfl rfl rfl, ?_⟩
  refine pmp_fits_ok h hp ?_
  intro r w h hp
  refine ⟨_, rfl, ?_⟩
  refine cond_both' hp (fun hp => ?_) (fun hp => ?_)
  · replace h := h.sel [] 2
    dsimp only [pickL, pickR, nthH, delH, dropH, List.cons_append, List.nil_append] at h
    exact hR false _ h hp
  refine ⟨_, cellL h 1 0 rfl rfl rfl, _, cellL h 1 1 rfl rfl rfl, _, cellL h 1 2 rfl rfl rfl, _, cellL h 1 3 rfl rfl rfl, _, cellL h 1 4 rfl rfl rfl, _, cellL h 1 5 rfl rfl rfl, _, cellL h 1 6 rfl rfl rfl, _, cellL h 1 7 rfl rfl rfl, ?_⟩
  refine ⟨_, cellL h 0 0 rfl rfl rfl, _, cellL h 0 1 rfl rfl rfl, _, cellL h 0 2 rfl rfl rfl, _, cellL h 0 3 rfl rfl rfl, _, cellL h 0 4 rfl rfl rfl, _, cellL h 0 5 rfl rfl rfl, _, cellL h 0 6 rfl rfl rfl, _, cellL h 0 7 rfl rfl rfl, ?_⟩
  refine eqlAgg (xs := [(Value.int .i64 l_Ver), (Value.int .i64 l_Inside), (Value.int .i64 l_Port), (Value.int .i64 l_Secs), (Value.int .u64 l_Nonce), (Value.int .i64 l_Result), (Value.int .i64 l_Epoch), (Value.int .u32 l_Host)]) (ys := [(Value.int .i64 0), (Value.int .i64 l_Inside), (Value.int .i64 l_Port), (Value.int .i64 l_Secs), (Value.int .u64 0), (Value.int .i64 0), (Value.int .i64 0), (Value.int .u32 0)]) eqG25 eqA25 (eqT25 l_Ver l_Inside l_Port l_Secs l_Nonce l_Result l_Epoch l_Host 0 l_Inside l_Port l_Secs 0 0 0 0) ?_
  refine ⟨_, rfl, ?_⟩
  refine cond_both' hp (fun hp => ?_) (fun hp => ?_)
  · replace h := h.sel [] 2
    dsimp only [pickL, pickR, nthH, delH, dropH, List.cons_append, List.nil_append] at h
    exact hR false _ h hp
  refine cond_both hp (fun hp => ?_) (fun hp => ?_)
  · replace h := h.sel [] 2
    dsimp only [pickL, pickR, nthH, delH, dropH, List.cons_append, List.nil_append] at h
    exact hR true _ h hp
  refine ⟨_, cellL h 1 0 rfl rfl rfl, _, cellL h 1 1 rfl rfl rfl, _, cellL h 1 2 rfl rfl rfl, _, cellL h 1 3 rfl rfl rfl, _, cellL h 1 4 rfl rfl rfl, _, cellL h 1 5 rfl rfl rfl, _, cellL h 1 6 rfl rfl rfl, _, cellL h 1 7 rfl rfl rfl, ?_⟩
  refine eqlAgg (xs := [(Value.int .i64 l_Ver), (Value.int .i64 l_Inside), (Value.int .i64 l_Port), (Value.int .i64 l_Secs), (Value.int .u64 l_Nonce), (Value.int .i64 l_Result), (Value.int .i64 l_Epoch), (Value.int .u32 l_Host)]) (ys := [(Value.int .i64 0), (Value.int .i64 0), (Value.int .i64 0), (Value.int .i64 0), (Value.int .u64 0), (Value.int .i64 0), (Value.int .i64 0), (Value.int .u32 0)]) eqG25 eqA25 (eqT25 l_Ver l_Inside l_Port l_Secs l_Nonce l_Result l_Epoch l_Host 0 0 0 0 0 0 0 0) ?_
  refine ⟨_, rfl, ?_⟩
  replace h := h.sel [] 2
  dsimp only [pickL, pickR, nthH, delH, dropH, List.cons_append, List.nil_append] at h
  exact hR (((l_Ver : Int) == 0) && (((l_Inside : Int) == 0) && (((l_Port : Int) == 0) && (((l_Secs : Int) == 0) && (((l_Nonce : Int) == 0) && (((l_Result : Int) == 0) && (((l_Epoch : Int) == 0) && (((l_Host : Int) == 0) && true)))))))) _ h hp

/-! embrasure/pmp.row (36) -/
def pmp_row_wp (op : Int) (parts : List ((List (Int)))) (K : List (Int) → Prop) : Prop :=
  slices_Concat_sl_byte_byte_wp parts (fun (rs : List (Int)) => ([0, (IntKind.wrap .u8 op)].length + rs.length) * 1 ≤ 140737488355328 ∧ (K ([0, (IntKind.wrap .u8 op)] ++ rs)))
theorem pmp_row_ok {p_1 : Option Addr} {n_1 : Nat} {c_1 : Nat} {op : Int} {parts : List ((List (Int)))} {FL : List HP} {w : World} {K : List (Int) → Prop} {R : Value → World → Prop}
  (hF_parts : ∀ w, Mem FL w → RdD w 1 p_1 (encR27 FL) parts) (hl_parts : n_1 = parts.length) (hc_parts : n_1 ≤ c_1)
  (h : Mem (FL) w) (hp : pmp_row_wp op parts K)
  (hR : ∀ (rs : List (Int)) (p_2 : Option Addr) (n_2 : Nat) (c_2 : Nat) (w : World), n_2 = rs.length → Mem (row enc5 5 1 p_2 c_2 rs :: FL) w → K rs → R (Value.slice p_2 n_2 c_2) w) :
  CallV Try.prog 36 #[(Value.int .i64 op), (Value.slice p_1 n_1 c_1)] w R := by
  refine pmp_row_call ?_
  unfold pmp_row
  unfold pmp_row_wp at hp
  subst hl_parts
  refine newL (o := [(Value.int .u8 0), (Value.int .u8 (IntKind.wrap .u8 op))]) h ?_
  intro b_1 w h
  refine slices_Concat_sl_byte_byte_ok (FL := cel b_1 5 [(Value.int .u8 0), (Value.int .u8 (IntKind.wrap .u8 op))] :: FL) (fun w h => RdD.mono (encRm27 (fun w h => h.drop 1)) (hF_parts _ (h.drop 1))) rfl hc_parts h hp ?_
  rintro rs p_2 n_2 c_2 w rfl h hp
  have cpp_2 := rowCap h 0 rfl
  refine ⟨_, _, _, rfl, ?_⟩
  have sr := (rowRd h 0 encL5 rfl)
  replace h := rowOfCel h 1 encL5 rfl [0, (IntKind.wrap .u8 op)] rfl
  dsimp only [setH, setVs, setV] at h
  obtain ⟨hb, hp⟩ := hp
  refine appendL slt27 und27 encL5 encO5 h 1 rfl rfl sr rfl hb ?_
  intro p_3 c_3 w h
  dsimp only [setH, setVs, setV] at h
  have cpp_3 := rowCap h 1 rfl
  refine ⟨_, _, _, rfl, ?_⟩
  replace h := h.sel [1] 1
  dsimp only [pickL, pickR, nthH, delH, dropH, List.cons_append, List.nil_append] at h
  exact hR ([0, (IntKind.wrap .u8 op)] ++ rs) p_3 (([0, (IntKind.wrap .u8 op)] ++ rs).length) c_3 _ rfl h hp

/-! embrasure/pmp.short (37) -/
def pmp_short_wp (n_1 : Int) (K : List (Int) → Prop) : Prop :=
  K [(IntKind.wrap .u8 (Int.fdiv n_1 (2 ^ (min (Int.toNat 8) (IntKind.bits .i64))))), (IntKind.wrap .u8 n_1)]
theorem pmp_short_ok {n_1 : Int} {FL : List HP} {w : World} {K : List (Int) → Prop} {R : Value → World → Prop}
  (h : Mem (FL) w) (hp : pmp_short_wp n_1 K)
  (hR : ∀ (rs : List (Int)) (p_1 : Option Addr) (n_2 : Nat) (c_1 : Nat) (w : World), n_2 = rs.length → Mem (row enc5 5 1 p_1 c_1 rs :: FL) w → K rs → R (Value.slice p_1 n_2 c_1) w) :
  CallV Try.prog 37 #[(Value.int .i64 n_1)] w R := by
  refine pmp_short_call ?_
  unfold pmp_short
  unfold pmp_short_wp at hp
  refine ⟨by decide, ?_⟩
  refine newL (o := [(Value.int .u8 (IntKind.wrap .u8 (Int.fdiv n_1 (2 ^ (min (Int.toNat 8) (IntKind.bits .i64)))))), (Value.int .u8 (IntKind.wrap .u8 n_1))]) h ?_
  intro b_1 w h
  replace h := rowOfCel h 0 encL5 rfl [(IntKind.wrap .u8 (Int.fdiv n_1 (2 ^ (min (Int.toNat 8) (IntKind.bits .i64))))), (IntKind.wrap .u8 n_1)] rfl
  dsimp only [setH, setVs, setV] at h
  exact hR [(IntKind.wrap .u8 (Int.fdiv n_1 (2 ^ (min (Int.toNat 8) (IntKind.bits .i64))))), (IntKind.wrap .u8 n_1)] (some ⟨b_1, 0, none⟩) 2 2 _ rfl h hp

/-! embrasure/pmp.long (38) -/
def pmp_long_wp (n_1 : Int) (K : List (Int) → Prop) : Prop :=
  pmp_short_wp (Int.fdiv n_1 (2 ^ (min (Int.toNat 16) (IntKind.bits .i64)))) (fun (rs : List (Int)) => pmp_short_wp n_1 (fun (rs_1 : List (Int)) => (rs.length + rs_1.length) * 1 ≤ 140737488355328 ∧ (K (rs ++ rs_1))))
theorem pmp_long_ok {n_1 : Int} {FL : List HP} {w : World} {K : List (Int) → Prop} {R : Value → World → Prop}
  (h : Mem (FL) w) (hp : pmp_long_wp n_1 K)
  (hR : ∀ (rs : List (Int)) (p_1 : Option Addr) (n_2 : Nat) (c_1 : Nat) (w : World), n_2 = rs.length → Mem (row enc5 5 1 p_1 c_1 rs :: FL) w → K rs → R (Value.slice p_1 n_2 c_1) w) :
  CallV Try.prog 38 #[(Value.int .i64 n_1)] w R := by
  refine pmp_long_call ?_
  unfold pmp_long
  unfold pmp_long_wp at hp
  refine ⟨by decide, ?_⟩
  refine pmp_short_ok h hp ?_
  rintro rs p_1 n_2 c_1 w rfl h hp
  have cpp_1 := rowCap h 0 rfl
  refine ⟨_, _, _, rfl, ?_⟩
  refine pmp_short_ok h hp ?_
  rintro rs_1 p_2 n_3 c_2 w rfl h hp
  have cpp_2 := rowCap h 0 rfl
  refine ⟨_, _, _, rfl, ?_⟩
  have sr := (rowRd h 0 encL5 rfl)
  obtain ⟨hb, hp⟩ := hp
  refine appendL slt27 und27 encL5 encO5 h 1 rfl rfl sr rfl hb ?_
  intro p_3 c_3 w h
  dsimp only [setH, setVs, setV] at h
  have cpp_3 := rowCap h 1 rfl
  refine ⟨_, _, _, rfl, ?_⟩
  replace h := h.sel [1] 1
  dsimp only [pickL, pickR, nthH, delH, dropH, List.cons_append, List.nil_append] at h
  exact hR (rs ++ rs_1) p_3 ((rs ++ rs_1).length) c_3 _ rfl h hp

/-! embrasure/pmp.Ask (18) -/
def pmp_Ask_wp (l_Ver : Int) (l_Inside : Int) (l_Port : Int) (l_Secs : Int) (l_Nonce : Int) (l_Result : Int) (l_Epoch : Int) (l_Host : Int) (host : Bool) (K : List (Int) → Prop) : Prop :=
  pmp_mayAsk_wp l_Ver l_Inside l_Port l_Secs l_Nonce l_Result l_Epoch l_Host host (fun (r : Bool) => cond (!r) (K ([] : List (Int))) (cond host (pmp_row_wp 0 ([] : List ((List (Int)))) (fun (rs : List (Int)) => K rs)) (pmp_short_wp 0 (fun (rs_1 : List (Int)) => pmp_short_wp l_Inside (fun (rs_2 : List (Int)) => pmp_short_wp l_Port (fun (rs_3 : List (Int)) => pmp_long_wp l_Secs (fun (rs_4 : List (Int)) => pmp_row_wp 1 [rs_1, rs_2, rs_3, rs_4] (fun (rs_5 : List (Int)) => K rs_5))))))))
theorem pmp_Ask_ok {l_Ver : Int} {l_Inside : Int} {l_Port : Int} {l_Secs : Int} {l_Nonce : Int} {l_Result : Int} {l_Epoch : Int} {l_Host : Int} {host : Bool} {FL : List HP} {w : World} {K : List (Int) → Prop} {R : Value → World → Prop}
  (h : Mem (FL) w) (hp : pmp_Ask_wp l_Ver l_Inside l_Port l_Secs l_Nonce l_Result l_Epoch l_Host host K)
  (hR : ∀ (rs : List (Int)) (p_1 : Option Addr) (n_1 : Nat) (c_1 : Nat) (w : World), n_1 = rs.length → Mem (row enc5 5 1 p_1 c_1 rs :: FL) w → K rs → R (Value.slice p_1 n_1 c_1) w) :
  CallV Try.prog 18 #[(Value.agg #[(Value.int .i64 l_Ver), (Value.int .i64 l_Inside), (Value.int .i64 l_Port), (Value.int .i64 l_Secs), (Value.int .u64 l_Nonce), (Value.int .i64 l_Result), (Value.int .i64 l_Epoch), (Value.int .u32 l_Host)]), (Value.bool host)] w R := by
  refine pmp_Ask_call ?_
  unfold pmp_Ask
  unfold pmp_Ask_wp at hp
  refine newL (o := [(Value.int .i64 l_Ver), (Value.int .i64 l_Inside), (Value.int .i64 l_Port), (Value.int .i64 l_Secs), (Value.int .u64 l_Nonce), (Value.int .i64 l_Result), (Value.int .i64 l_Epoch), (Value.int .u32 l_Host)]) h ?_
  intro b_1 w h
  refine ⟨_, cellL h 0 0 rfl rfl rfl, _, cellL h 0 1 rfl rfl rfl, _, cellL h 0 2 rfl rfl rfl, _, cellL h 0 3 rfl rfl rfl, _, cellL h 0 4 rfl rfl rfl, _, cellL h 0 5 rfl rfl rfl, _, cellL h 0 6 rfl rfl rfl, _, cellL h 0 7 rfl rfl rfl, ?_⟩
  refine pmp_mayAsk_ok h hp ?_
  intro r w h hp
  refine ⟨_, rfl, ?_⟩
  refine cond_both hp (fun hp => ?_) (fun hp => ?_)
  · replace h := rowNil enc5 5 1 h
    replace h := h.sel [0] 1
    dsimp only [pickL, pickR, nthH, delH, dropH, List.cons_append, List.nil_append] at h
    exact hR ([] : List (Int)) (none ) 0 0 _ rfl h hp
  refine cond_both hp (fun hp => ?_) (fun hp => ?_)
  · refine pmp_row_ok (FL := cel b_1 25 [(Value.int .i64 l_Ver), (Value.int .i64 l_Inside), (Value.int .i64 l_Port), (Value.int .i64 l_Secs), (Value.int .u64 l_Nonce), (Value.int .i64 l_Result), (Value.int .i64 l_Epoch), (Value.int .u32 l_Host)] :: FL) (fun w h => RdD.nil) rfl (Nat.le_refl _) h hp ?_
    rintro rs p_2 n_1 c_1 w rfl h hp
    have cpp_2 := rowCap h 0 rfl
    refine ⟨_, _, _, rfl, ?_⟩
    replace h := h.sel [0] 1
    dsimp only [pickL, pickR, nthH, delH, dropH, List.cons_append, List.nil_append] at h
    exact hR rs p_2 rs.length c_1 _ rfl h hp
  replace h := h.drew
  refine ⟨fun w => Mem (cel b_1 25 [(Value.int .i64 l_Ver), (Value.int .i64 l_Inside), (Value.int .i64 l_Port), (Value.int .i64 l_Secs), (Value.int .u64 l_Nonce), (Value.int .i64 l_Result), (Value.int .i64 l_Epoch), (Value.int .u32 l_Host)] :: FL) w, (h.sel [0] 0), ?_⟩
  refine ⟨_, cellL h 0 1 rfl rfl rfl, ?_⟩
  refine ⟨?_, ?_⟩
  · intro w h
    change Mem _ _ at h
    refine ⟨_, cellL h 0 1 rfl rfl rfl, ?_⟩
    exact ⟨rfl, rfl⟩
  refine ⟨_, cellL h 0 2 rfl rfl rfl, ?_⟩
  refine ⟨?_, ?_⟩
  · intro w h
    change Mem _ _ at h
    refine ⟨_, cellL h 0 2 rfl rfl rfl, ?_⟩
    exact ⟨rfl, rfl⟩
  refine ⟨_, cellL h 0 3 rfl rfl rfl, ?_⟩
  refine ⟨?_, ?_⟩
  · intro w h
    change Mem _ _ at h
    refine ⟨_, cellL h 0 3 rfl rfl rfl, ?_⟩
    exact ⟨rfl, rfl⟩
  refine pmp_short_ok h hp ?_
  rintro rs_1 p_3 n_2 c_2 w rfl h hp
  have cpp_3 := rowCap h 0 rfl
  refine ⟨_, _, _, rfl, ?_⟩
  refine ⟨(h.sel [1] 1), ?_⟩
  refine pmp_short_ok h hp ?_
  rintro rs_2 p_4 n_3 c_3 w rfl h hp
  have cpp_4 := rowCap h 0 rfl
  refine ⟨_, _, _, rfl, ?_⟩
  refine ⟨(h.sel [2] 2), ?_⟩
  refine pmp_short_ok h hp ?_
  rintro rs_3 p_5 n_4 c_4 w rfl h hp
  have cpp_5 := rowCap h 0 rfl
  refine ⟨_, _, _, rfl, ?_⟩
  refine ⟨(h.sel [3] 3), ?_⟩
  refine pmp_long_ok h hp ?_
  rintro rs_4 p_6 n_5 c_5 w rfl h hp
  have cpp_6 := rowCap h 0 rfl
  refine ⟨_, _, _, rfl, ?_⟩
  refine newL (o := [(Value.slice p_3 rs_1.length c_2), (Value.slice p_4 rs_2.length c_3), (Value.slice p_5 rs_3.length c_4), (Value.slice p_6 rs_4.length c_5)]) h ?_
  intro b_2 w h
  refine pmp_row_ok (FL := cel b_2 27 [(Value.slice p_3 rs_1.length c_2), (Value.slice p_4 rs_2.length c_3), (Value.slice p_5 rs_3.length c_4), (Value.slice p_6 rs_4.length c_5)] :: row enc5 5 1 p_6 c_5 rs_4 :: row enc5 5 1 p_5 c_4 rs_3 :: row enc5 5 1 p_4 c_3 rs_2 :: row enc5 5 1 p_3 c_2 rs_1 :: cel b_1 25 [(Value.int .i64 l_Ver), (Value.int .i64 l_Inside), (Value.int .i64 l_Port), (Value.int .i64 l_Secs), (Value.int .u64 l_Nonce), (Value.int .i64 l_Result), (Value.int .i64 l_Epoch), (Value.int .u32 l_Host)] :: FL) (fun w h => celRdD (z := 1) h 0 rfl [rs_1, rs_2, rs_3, rs_4] [[(Value.slice p_3 rs_1.length c_2)], [(Value.slice p_4 rs_2.length c_3)], [(Value.slice p_5 rs_3.length c_4)], [(Value.slice p_6 rs_4.length c_5)]] rfl rfl (Fa2.cons ⟨_, _, _, rfl, rfl, cpp_3, (fun w h => (rowRd h 4 encL5 rfl))⟩ (Fa2.cons ⟨_, _, _, rfl, rfl, cpp_4, (fun w h => (rowRd h 3 encL5 rfl))⟩ (Fa2.cons ⟨_, _, _, rfl, rfl, cpp_5, (fun w h => (rowRd h 2 encL5 rfl))⟩ (Fa2.cons ⟨_, _, _, rfl, rfl, cpp_6, (fun w h => (rowRd h 1 encL5 rfl))⟩ Fa2.nil))))) rfl (Nat.le_refl _) h hp ?_
  rintro rs_5 p_7 n_6 c_6 w rfl h hp
  have cpp_7 := rowCap h 0 rfl
  refine ⟨_, _, _, rfl, ?_⟩
  replace h := h.sel [0] 6
  dsimp only [pickL, pickR, nthH, delH, dropH, List.cons_append, List.nil_append] at h
  exact hR rs_5 p_7 rs_5.length c_6 _ rfl h hp

/-! embrasure/pmp.mayAnswer (39) -/
def pmp_mayAnswer_wp (l_Ver : Int) (l_Inside : Int) (l_Port : Int) (l_Secs : Int) (l_Nonce : Int) (l_Result : Int) (l_Epoch : Int) (l_Host : Int) (host : Bool) (K : Bool → Prop) : Prop :=
  joinP4 (fun (Inside : Int) (Port : Int) (Secs : Int) (Host : Int) => pmp_fits_wp l_Ver l_Inside l_Port l_Secs l_Nonce l_Result l_Epoch l_Host (fun (r : Bool) => cond r (K (((l_Ver : Int) == 0) && (((l_Inside : Int) == Inside) && (((l_Port : Int) == Port) && (((l_Secs : Int) == Secs) && (((l_Nonce : Int) == 0) && (((l_Result : Int) == l_Result) && (((l_Epoch : Int) == l_Epoch) && (((l_Host : Int) == Host) && true))))))))) (K false))) (fun (Q : Int → Int → Int → Int → Prop) => cond host (Q 0 0 0 l_Host) (Q l_Inside l_Port l_Secs 0))
theorem pmp_mayAnswer_ok {l_Ver : Int} {l_Inside : Int} {l_Port : Int} {l_Secs : Int} {l_Nonce : Int} {l_Result : Int} {l_Epoch : Int} {l_Host : Int} {host : Bool} {FL : List HP} {w : World} {K : Bool → Prop} {R : Value → World → Prop}
  (h : Mem (FL) w) (hp : pmp_mayAnswer_wp l_Ver l_Inside l_Port l_Secs l_Nonce l_Result l_Epoch l_Host host K)
  (hR : ∀ (r : Bool) (w : World), Mem (FL) w → K r → R (Value.bool r) w) :
  CallV Try.prog 39 #[(Value.agg #[(Value.int .i64 l_Ver), (Value.int .i64 l_Inside), (Value.int .i64 l_Port), (Value.int .i64 l_Secs), (Value.int .u64 l_Nonce), (Value.int .i64 l_Result), (Value.int .i64 l_Epoch), (Value.int .u32 l_Host)]), (Value.bool host)] w R := by
  refine pmp_mayAnswer_call ?_
  unfold pmp_mayAnswer
  unfold pmp_mayAnswer_wp at hp
  refine newL (o := [(Value.int .i64 l_Ver), (Value.int .i64 l_Inside), (Value.int .i64 l_Port), (Value.int .i64 l_Secs), (Value.int .u64 l_Nonce), (Value.int .i64 l_Result), (Value.int .i64 l_Epoch), (Value.int .u32 l_Host)]) h ?_
  intro b_1 w h
  refine ⟨_, cellL h 0 1 rfl rfl rfl, ?_⟩
  refine ⟨_, cellL h 0 2 rfl rfl rfl, ?_⟩
  refine ⟨_, cellL h 0 3 rfl rfl rfl, ?_⟩
  refine ⟨_, cellL h 0 5 rfl rfl rfl, ?_⟩
  refine ⟨_, cellL h 0 6 rfl rfl rfl, ?_⟩
  refine newL (o := [(Value.int .i64 0), (Value.int .i64 0), (Value.int .i64 0), (Value.int .i64 0), (Value.int .u64 0), (Value.int .i64 0), (Value.int .i64 0), (Value.int .u32 0)]) h ?_
  intro b_2 w h
  refine storeL (ys := [(Value.int .i64 0), (Value.int .i64 l_Inside), (Value.int .i64 l_Port), (Value.int .i64 l_Secs), (Value.int .u64 0), (Value.int .i64 l_Result), (Value.int .i64 l_Epoch), (Value.int .u32 0)]) h 0 0 rfl rfl rfl sz25 rfl rfl ?_
  intro w h
  dsimp only [setH, setVs, setV] at h
  obtain ⟨Q, hq, hp⟩ := hp
  refine ⟨fun l2 bare5 w => ∃ (Inside : Int), ∃ (Port : Int), ∃ (Secs : Int), ∃ (Host : Int), (Addr.mk b_1 0 none) = l2 ∧ (Addr.mk b_2 0 none) = bare5 ∧ Q Inside Port Secs Host ∧ Mem (cel b_2 25 [(Value.int .i64 0), (Value.int .i64 Inside), (Value.int .i64 Port), (Value.int .i64 Secs), (Value.int .u64 0), (Value.int .i64 l_Result), (Value.int .i64 l_Epoch), (Value.int .u32 Host)] :: cel b_1 25 [(Value.int .i64 l_Ver), (Value.int .i64 l_Inside), (Value.int .i64 l_Port), (Value.int .i64 l_Secs), (Value.int .u64 l_Nonce), (Value.int .i64 l_Result), (Value.int .i64 l_Epoch), (Value.int .u32 l_Host)] :: FL) w, ?_, ?_⟩
  · rintro l2 bare5 w ⟨Inside, Port, Secs, Host, rfl, rfl, hp, h⟩
    replace hp := hq Inside Port Secs Host hp
    unfold pmp_mayAnswer_j1
    refine ⟨_, cellL h 1 0 rfl rfl rfl, _, cellL h 1 1 rfl rfl rfl, _, cellL h 1 2 rfl rfl rfl, _, cellL h 1 3 rfl rfl rfl, _, cellL h 1 4 rfl rfl rfl, _, cellL h 1 5 rfl rfl rfl, _, cellL h 1 6 rfl rfl rfl, _, cellL h 1 7 rfl rfl rfl, ?_⟩
    refine pmp_fits_ok h hp ?_
    intro r w h hp
    refine ⟨_, rfl, ?_⟩
    refine cond_both' hp (fun hp => ?_) (fun hp => ?_)
    · replace h := h.sel [] 2
      dsimp only [pickL, pickR, nthH, delH, dropH, List.cons_append, List.nil_append] at h
      exact hR false _ h hp
    refine ⟨_, cellL h 1 0 rfl rfl rfl, _, cellL h 1 1 rfl rfl rfl, _, cellL h 1 2 rfl rfl rfl, _, cellL h 1 3 rfl rfl rfl, _, cellL h 1 4 rfl rfl rfl, _, cellL h 1 5 rfl rfl rfl, _, cellL h 1 6 rfl rfl rfl, _, cellL h 1 7 rfl rfl rfl, ?_⟩
    refine ⟨_, cellL h 0 0 rfl rfl rfl, _, cellL h 0 1 rfl rfl rfl, _, cellL h 0 2 rfl rfl rfl, _, cellL h 0 3 rfl rfl rfl, _, cellL h 0 4 rfl rfl rfl, _, cellL h 0 5 rfl rfl rfl, _, cellL h 0 6 rfl rfl rfl, _, cellL h 0 7 rfl rfl rfl, ?_⟩
    refine eqlAgg (xs := [(Value.int .i64 l_Ver), (Value.int .i64 l_Inside), (Value.int .i64 l_Port), (Value.int .i64 l_Secs), (Value.int .u64 l_Nonce), (Value.int .i64 l_Result), (Value.int .i64 l_Epoch), (Value.int .u32 l_Host)]) (ys := [(Value.int .i64 0), (Value.int .i64 Inside), (Value.int .i64 Port), (Value.int .i64 Secs), (Value.int .u64 0), (Value.int .i64 l_Result), (Value.int .i64 l_Epoch), (Value.int .u32 Host)]) eqG25 eqA25 (eqT25 l_Ver l_Inside l_Port l_Secs l_Nonce l_Result l_Epoch l_Host 0 Inside Port Secs 0 l_Result l_Epoch Host) ?_
    refine ⟨_, rfl, ?_⟩
    replace h := h.sel [] 2
    dsimp only [pickL, pickR, nthH, delH, dropH, List.cons_append, List.nil_append] at h
    exact hR (((l_Ver : Int) == 0) && (((l_Inside : Int) == Inside) && (((l_Port : Int) == Port) && (((l_Secs : Int) == Secs) && (((l_Nonce : Int) == 0) && (((l_Result : Int) == l_Result) && (((l_Epoch : Int) == l_Epoch) && (((l_Host : Int) == Host) && true)))))))) _ h hp
  clear hq
  refine cond_both' hp (fun hp => ?_) (fun hp => ?_)
  · exact ⟨l_Inside, l_Port, l_Secs, 0, rfl, rfl, hp, h⟩
  refine ⟨_, cellL h 1 5 rfl rfl rfl, ?_⟩
  refine ⟨_, cellL h 1 6 rfl rfl rfl, ?_⟩
  refine ⟨_, cellL h 1 7 rfl rfl rfl, ?_⟩
  refine storeL (ys := [(Value.int .i64 0), (Value.int .i64 0), (Value.int .i64 0), (Value.int .i64 0), (Value.int .u64 0), (Value.int .i64 l_Result), (Value.int .i64 l_Epoch), (Value.int .u32 l_Host)]) h 0 0 rfl rfl rfl sz25 rfl rfl ?_
  intro w h
  dsimp only [setH, setVs, setV] at h
  exact ⟨0, 0, 0, l_Host, rfl, rfl, hp, h⟩

/-! embrasure/pmp.Answer (19) -/
def pmp_Answer_wp (l_Ver : Int) (l_Inside : Int) (l_Port : Int) (l_Secs : Int) (l_Nonce : Int) (l_Result : Int) (l_Epoch : Int) (l_Host : Int) (host : Bool) (K : List (Int) → Prop) : Prop :=
  pmp_mayAnswer_wp l_Ver l_Inside l_Port l_Secs l_Nonce l_Result l_Epoch l_Host host (fun (r : Bool) => cond (!r) (K ([] : List (Int))) (cond host (pmp_short_wp l_Result (fun (rs : List (Int)) => pmp_long_wp l_Epoch (fun (rs_1 : List (Int)) => pmp_long_wp (IntKind.wrap .i64 l_Host) (fun (rs_2 : List (Int)) => pmp_row_wp 128 [rs, rs_1, rs_2] (fun (rs_3 : List (Int)) => K rs_3))))) (pmp_short_wp l_Result (fun (rs_4 : List (Int)) => pmp_long_wp l_Epoch (fun (rs_5 : List (Int)) => pmp_short_wp l_Inside (fun (rs_6 : List (Int)) => pmp_short_wp l_Port (fun (rs_7 : List (Int)) => pmp_long_wp l_Secs (fun (rs_8 : List (Int)) => pmp_row_wp 129 [rs_4, rs_5, rs_6, rs_7, rs_8] (fun (rs_9 : List (Int)) => K rs_9)))))))))
theorem pmp_Answer_ok {l_Ver : Int} {l_Inside : Int} {l_Port : Int} {l_Secs : Int} {l_Nonce : Int} {l_Result : Int} {l_Epoch : Int} {l_Host : Int} {host : Bool} {FL : List HP} {w : World} {K : List (Int) → Prop} {R : Value → World → Prop}
  (h : Mem (FL) w) (hp : pmp_Answer_wp l_Ver l_Inside l_Port l_Secs l_Nonce l_Result l_Epoch l_Host host K)
  (hR : ∀ (rs : List (Int)) (p_1 : Option Addr) (n_1 : Nat) (c_1 : Nat) (w : World), n_1 = rs.length → Mem (row enc5 5 1 p_1 c_1 rs :: FL) w → K rs → R (Value.slice p_1 n_1 c_1) w) :
  CallV Try.prog 19 #[(Value.agg #[(Value.int .i64 l_Ver), (Value.int .i64 l_Inside), (Value.int .i64 l_Port), (Value.int .i64 l_Secs), (Value.int .u64 l_Nonce), (Value.int .i64 l_Result), (Value.int .i64 l_Epoch), (Value.int .u32 l_Host)]), (Value.bool host)] w R := by
  refine pmp_Answer_call ?_
  unfold pmp_Answer
  unfold pmp_Answer_wp at hp
  refine newL (o := [(Value.int .i64 l_Ver), (Value.int .i64 l_Inside), (Value.int .i64 l_Port), (Value.int .i64 l_Secs), (Value.int .u64 l_Nonce), (Value.int .i64 l_Result), (Value.int .i64 l_Epoch), (Value.int .u32 l_Host)]) h ?_
  intro b_1 w h
  refine ⟨_, cellL h 0 0 rfl rfl rfl, _, cellL h 0 1 rfl rfl rfl, _, cellL h 0 2 rfl rfl rfl, _, cellL h 0 3 rfl rfl rfl, _, cellL h 0 4 rfl rfl rfl, _, cellL h 0 5 rfl rfl rfl, _, cellL h 0 6 rfl rfl rfl, _, cellL h 0 7 rfl rfl rfl, ?_⟩
  refine pmp_mayAnswer_ok h hp ?_
  intro r w h hp
  refine ⟨_, rfl, ?_⟩
  refine cond_both hp (fun hp => ?_) (fun hp => ?_)
  · replace h := rowNil enc5 5 1 h
    replace h := h.sel [0] 1
    dsimp only [pickL, pickR, nthH, delH, dropH, List.cons_append, List.nil_append] at h
    exact hR ([] : List (Int)) (none ) 0 0 _ rfl h hp
  refine cond_both hp (fun hp => ?_) (fun hp => ?_)
  · replace h := h.drew
    refine ⟨fun w => Mem (cel b_1 25 [(Value.int .i64 l_Ver), (Value.int .i64 l_Inside), (Value.int .i64 l_Port), (Value.int .i64 l_Secs), (Value.int .u64 l_Nonce), (Value.int .i64 l_Result), (Value.int .i64 l_Epoch), (Value.int .u32 l_Host)] :: FL) w, (h.sel [0] 0), ?_⟩
    refine ⟨_, cellL h 0 5 rfl rfl rfl, ?_⟩
    refine ⟨_, cellL h 0 6 rfl rfl rfl, ?_⟩
    refine ⟨?_, ?_⟩
    · intro w h
      change Mem _ _ at h
      refine ⟨_, cellL h 0 6 rfl rfl rfl, ?_⟩
      exact ⟨rfl, rfl⟩
    refine ⟨_, cellL h 0 7 rfl rfl rfl, ?_⟩
    refine ⟨?_, ?_⟩
    · intro w h
      change Mem _ _ at h
      refine ⟨_, cellL h 0 7 rfl rfl rfl, ?_⟩
      exact ⟨rfl, rfl⟩
    refine pmp_short_ok h hp ?_
    rintro rs p_2 n_1 c_1 w rfl h hp
    have cpp_2 := rowCap h 0 rfl
    refine ⟨_, _, _, rfl, ?_⟩
    refine ⟨(h.sel [1] 1), ?_⟩
    refine pmp_long_ok h hp ?_
    rintro rs_1 p_3 n_2 c_2 w rfl h hp
    have cpp_3 := rowCap h 0 rfl
    refine ⟨_, _, _, rfl, ?_⟩
    refine ⟨(h.sel [2] 2), ?_⟩
    refine pmp_long_ok h hp ?_
    rintro rs_2 p_4 n_3 c_3 w rfl h hp
    have cpp_4 := rowCap h 0 rfl
    refine ⟨_, _, _, rfl, ?_⟩
    refine newL (o := [(Value.slice p_2 rs.length c_1), (Value.slice p_3 rs_1.length c_2), (Value.slice p_4 rs_2.length c_3)]) h ?_
    intro b_2 w h
    refine pmp_row_ok (FL := cel b_2 27 [(Value.slice p_2 rs.length c_1), (Value.slice p_3 rs_1.length c_2), (Value.slice p_4 rs_2.length c_3)] :: row enc5 5 1 p_4 c_3 rs_2 :: row enc5 5 1 p_3 c_2 rs_1 :: row enc5 5 1 p_2 c_1 rs :: cel b_1 25 [(Value.int .i64 l_Ver), (Value.int .i64 l_Inside), (Value.int .i64 l_Port), (Value.int .i64 l_Secs), (Value.int .u64 l_Nonce), (Value.int .i64 l_Result), (Value.int .i64 l_Epoch), (Value.int .u32 l_Host)] :: FL) (fun w h => celRdD (z := 1) h 0 rfl [rs, rs_1, rs_2] [[(Value.slice p_2 rs.length c_1)], [(Value.slice p_3 rs_1.length c_2)], [(Value.slice p_4 rs_2.length c_3)]] rfl rfl (Fa2.cons ⟨_, _, _, rfl, rfl, cpp_2, (fun w h => (rowRd h 3 encL5 rfl))⟩ (Fa2.cons ⟨_, _, _, rfl, rfl, cpp_3, (fun w h => (rowRd h 2 encL5 rfl))⟩ (Fa2.cons ⟨_, _, _, rfl, rfl, cpp_4, (fun w h => (rowRd h 1 encL5 rfl))⟩ Fa2.nil)))) rfl (Nat.le_refl _) h hp ?_
    rintro rs_3 p_5 n_4 c_4 w rfl h hp
    have cpp_5 := rowCap h 0 rfl
    refine ⟨_, _, _, rfl, ?_⟩
    replace h := h.sel [0] 5
    dsimp only [pickL, pickR, nthH, delH, dropH, List.cons_append, List.nil_append] at h
    exact hR rs_3 p_5 rs_3.length c_4 _ rfl h hp
  replace h := h.drew
  refine ⟨fun w => Mem (cel b_1 25 [(Value.int .i64 l_Ver), (Value.int .i64 l_Inside), (Value.int .i64 l_Port), (Value.int .i64 l_Secs), (Value.int .u64 l_Nonce), (Value.int .i64 l_Result), (Value.int .i64 l_Epoch), (Value.int .u32 l_Host)] :: FL) w, (h.sel [0] 0), ?_⟩
  refine ⟨_, cellL h 0 5 rfl rfl rfl, ?_⟩
  refine ⟨?_, ?_⟩
  · intro w h
    change Mem _ _ at h
    refine ⟨_, cellL h 0 5 rfl rfl rfl, ?_⟩
    exact ⟨rfl, rfl⟩
  refine ⟨_, cellL h 0 6 rfl rfl rfl, ?_⟩
  refine ⟨?_, ?_⟩
  · intro w h
    change Mem _ _ at h
    refine ⟨_, cellL h 0 6 rfl rfl rfl, ?_⟩
    exact ⟨rfl, rfl⟩
  refine ⟨_, cellL h 0 1 rfl rfl rfl, ?_⟩
  refine ⟨?_, ?_⟩
  · intro w h
    change Mem _ _ at h
    refine ⟨_, cellL h 0 1 rfl rfl rfl, ?_⟩
    exact ⟨rfl, rfl⟩
  refine ⟨_, cellL h 0 2 rfl rfl rfl, ?_⟩
  refine ⟨?_, ?_⟩
  · intro w h
    change Mem _ _ at h
    refine ⟨_, cellL h 0 2 rfl rfl rfl, ?_⟩
    exact ⟨rfl, rfl⟩
  refine ⟨_, cellL h 0 3 rfl rfl rfl, ?_⟩
  refine ⟨?_, ?_⟩
  · intro w h
    change Mem _ _ at h
    refine ⟨_, cellL h 0 3 rfl rfl rfl, ?_⟩
    exact ⟨rfl, rfl⟩
  refine pmp_short_ok h hp ?_
  rintro rs_4 p_6 n_5 c_5 w rfl h hp
  have cpp_6 := rowCap h 0 rfl
  refine ⟨_, _, _, rfl, ?_⟩
  refine ⟨(h.sel [1] 1), ?_⟩
  refine pmp_long_ok h hp ?_
  rintro rs_5 p_7 n_6 c_6 w rfl h hp
  have cpp_7 := rowCap h 0 rfl
  refine ⟨_, _, _, rfl, ?_⟩
  refine ⟨(h.sel [2] 2), ?_⟩
  refine pmp_short_ok h hp ?_
  rintro rs_6 p_8 n_7 c_7 w rfl h hp
  have cpp_8 := rowCap h 0 rfl
  refine ⟨_, _, _, rfl, ?_⟩
  refine ⟨(h.sel [3] 3), ?_⟩
  refine pmp_short_ok h hp ?_
  rintro rs_7 p_9 n_8 c_8 w rfl h hp
  have cpp_9 := rowCap h 0 rfl
  refine ⟨_, _, _, rfl, ?_⟩
  refine ⟨(h.sel [4] 4), ?_⟩
  refine pmp_long_ok h hp ?_
  rintro rs_8 p_10 n_9 c_9 w rfl h hp
  have cpp_10 := rowCap h 0 rfl
  refine ⟨_, _, _, rfl, ?_⟩
  refine ⟨(h.sel [5] 5), ?_⟩
  refine newL (o := [(Value.slice p_6 rs_4.length c_5), (Value.slice p_7 rs_5.length c_6), (Value.slice p_8 rs_6.length c_7), (Value.slice p_9 rs_7.length c_8), (Value.slice p_10 rs_8.length c_9)]) h ?_
  intro b_3 w h
  refine pmp_row_ok (FL := cel b_3 27 [(Value.slice p_6 rs_4.length c_5), (Value.slice p_7 rs_5.length c_6), (Value.slice p_8 rs_6.length c_7), (Value.slice p_9 rs_7.length c_8), (Value.slice p_10 rs_8.length c_9)] :: row enc5 5 1 p_10 c_9 rs_8 :: row enc5 5 1 p_9 c_8 rs_7 :: row enc5 5 1 p_8 c_7 rs_6 :: row enc5 5 1 p_7 c_6 rs_5 :: row enc5 5 1 p_6 c_5 rs_4 :: cel b_1 25 [(Value.int .i64 l_Ver), (Value.int .i64 l_Inside), (Value.int .i64 l_Port), (Value.int .i64 l_Secs), (Value.int .u64 l_Nonce), (Value.int .i64 l_Result), (Value.int .i64 l_Epoch), (Value.int .u32 l_Host)] :: FL) (fun w h => celRdD (z := 1) h 0 rfl [rs_4, rs_5, rs_6, rs_7, rs_8] [[(Value.slice p_6 rs_4.length c_5)], [(Value.slice p_7 rs_5.length c_6)], [(Value.slice p_8 rs_6.length c_7)], [(Value.slice p_9 rs_7.length c_8)], [(Value.slice p_10 rs_8.length c_9)]] rfl rfl (Fa2.cons ⟨_, _, _, rfl, rfl, cpp_6, (fun w h => (rowRd h 5 encL5 rfl))⟩ (Fa2.cons ⟨_, _, _, rfl, rfl, cpp_7, (fun w h => (rowRd h 4 encL5 rfl))⟩ (Fa2.cons ⟨_, _, _, rfl, rfl, cpp_8, (fun w h => (rowRd h 3 encL5 rfl))⟩ (Fa2.cons ⟨_, _, _, rfl, rfl, cpp_9, (fun w h => (rowRd h 2 encL5 rfl))⟩ (Fa2.cons ⟨_, _, _, rfl, rfl, cpp_10, (fun w h => (rowRd h 1 encL5 rfl))⟩ Fa2.nil)))))) rfl (Nat.le_refl _) h hp ?_
  rintro rs_9 p_11 n_10 c_10 w rfl h hp
  have cpp_11 := rowCap h 0 rfl
  refine ⟨_, _, _, rfl, ?_⟩
  replace h := h.sel [0] 7
  dsimp only [pickL, pickR, nthH, delH, dropH, List.cons_append, List.nil_append] at h
  exact hR rs_9 p_11 rs_9.length c_10 _ rfl h hp

/-! embrasure/pmp.get (42) -/
def pmp_get_wp (b_1 : List (Int)) (K : Int → Prop) : Prop :=
  ∃ (I : Nat → Int → Int → Prop), (∃ (n_4 : Nat), I n_4 0 0) ∧ ∀ (n_2 : Nat) (n3 : Int) (t8 : Int), I n_2 n3 t8 → (cond (decide ((t8 : Int) < ((b_1.length : Nat) : Int))) (0 ≤ (t8 : Int) ∧ (t8 : Int) < ((b_1.length : Nat) : Int) ∧ (∀ (x_1 : Int), b_1[Int.toNat t8]? = some x_1 → (∃ (n_3 : Nat), n_3 < n_2 ∧ I n_3 (bitsV .or .i64 (IntKind.wrap .i64 (n3 * 2 ^ (min (Int.toNat 8) (IntKind.bits .i64)))) (IntKind.wrap .i64 x_1)) (IntKind.wrap .i64 (t8 + 1))))) (K n3))
theorem pmp_get_ok {p_1 : Option Addr} {n_1 : Nat} {c_1 : Nat} {b_1 : List (Int)} {FL : List HP} {w : World} {K : Int → Prop} {R : Value → World → Prop}
  (hF_b_1 : ∀ w, Mem FL w → Rd w 1 p_1 enc5 b_1) (hl_b_1 : n_1 = b_1.length) (hc_b_1 : n_1 ≤ c_1)
  (h : Mem (FL) w) (hp : pmp_get_wp b_1 K)
  (hR : ∀ (r : Int) (w : World), Mem (FL) w → K r → R (Value.int .i64 r) w) :
  CallV Try.prog 42 #[(Value.slice p_1 n_1 c_1)] w R := by
  refine pmp_get_call ?_
  unfold pmp_get
  unfold pmp_get_wp at hp
  subst hl_b_1
  obtain ⟨I, ⟨n_4, h0⟩, hq⟩ := hp
  refine ⟨fun n_2 n3 t6p t6l t6c t7 t8 w => p_1 = t6p ∧ b_1.length = t6l ∧ c_1 = t6c ∧ ((b_1.length : Nat) : Int) = t7 ∧ I n_2 n3 t8 ∧ Mem (FL) w, ⟨n_4, rfl, rfl, rfl, rfl, h0, h⟩, ?_⟩
  clear h0 h
  rintro n_2 n3 t6p t6l t6c t7 t8 w ⟨rfl, rfl, rfl, rfl, hp, h⟩
  replace hp := hq n_2 n3 t8 hp
  clear hq
  unfold pmp_get_l1
  refine cond_both' hp (fun hp => ?_) (fun hp => ?_)
  · exact hR n3 _ h hp
  obtain ⟨ia_1, ja_1, hp⟩ := hp
  obtain ⟨a_1, ha_1⟩ := rdAddr (hF_b_1 _ (h.drop 0)) rfl ia_1 ja_1
  refine ⟨a_1, ha_1, ia_1, ja_1, ?_⟩
  obtain ⟨x_1, hx_1, hc⟩ := rdCell0 (hF_b_1 _ (h.drop 0)) ha_1 rfl ia_1 ja_1
  replace hp := hp x_1 hx_1
  refine ⟨_, hc _ rfl, ?_⟩
  refine ⟨by decide, ?_⟩
  obtain ⟨n_3, hn, hp⟩ := hp
  exact ⟨n_3, hn, rfl, rfl, rfl, rfl, hp, h⟩

/-! embrasure/pmp.ReadAsk$1 (41) -/
def pmp_ReadAsk_c1_wp (host : Bool) (t : List (Int)) (K : Int → Int → Int → Int → Int → Int → Int → Int → Prop) : Prop :=
  cond host (K 0 0 0 0 0 0 0 0) (0 ≤ (6 : Int) ∧ (6 : Int) ≤ ((t.length : Nat) : Int) ∧ 0 ≤ (4 : Int) ∧ (4 : Int) ≤ (6 : Int) ∧ (0 ≤ (8 : Int) ∧ (8 : Int) ≤ ((t.length : Nat) : Int) ∧ 0 ≤ (6 : Int) ∧ (6 : Int) ≤ (8 : Int) ∧ (0 ≤ (12 : Int) ∧ (12 : Int) ≤ ((t.length : Nat) : Int) ∧ 0 ≤ (8 : Int) ∧ (8 : Int) ≤ (12 : Int) ∧ (pmp_get_wp ((t.take (Int.toNat 6)).drop (Int.toNat 4)) (fun (r : Int) => pmp_get_wp ((t.take (Int.toNat 8)).drop (Int.toNat 6)) (fun (r_1 : Int) => pmp_get_wp ((t.take (Int.toNat 12)).drop (Int.toNat 8)) (fun (r_2 : Int) => K 0 r r_1 r_2 0 0 0 0)))))))
theorem pmp_ReadAsk_c1_ok {b_1 : Nat} {p_1 : Option Addr} {n_1 : Nat} {c_1 : Nat} {host : Bool} {t : List (Int)} {FL : List HP} {w : World} {K : Int → Int → Int → Int → Int → Int → Int → Int → Prop} {R : Value → World → Prop}
  (hF_t : ∀ w, Mem FL w → Rd w 1 p_1 enc5 t) (hl_t : n_1 = t.length) (hc_t : n_1 ≤ c_1)
  (h : Mem (cel b_1 27 [(Value.slice p_1 n_1 c_1)] :: FL) w) (hp : pmp_ReadAsk_c1_wp host t K)
  (hR : ∀ (r : Int) (r_1 : Int) (r_2 : Int) (r_3 : Int) (r_4 : Int) (r_5 : Int) (r_6 : Int) (r_7 : Int) (w : World), Mem (cel b_1 27 [(Value.slice p_1 t.length c_1)] :: FL) w → K r r_1 r_2 r_3 r_4 r_5 r_6 r_7 → R (Value.agg #[(Value.int .i64 r), (Value.int .i64 r_1), (Value.int .i64 r_2), (Value.int .i64 r_3), (Value.int .u64 r_4), (Value.int .i64 r_5), (Value.int .i64 r_6), (Value.int .u32 r_7)]) w) :
  CallV Try.prog 41 #[(Value.bool host), (Value.pointer (some (Addr.mk b_1 0 none)))] w R := by
  refine pmp_ReadAsk_c1_call ?_
  unfold pmp_ReadAsk_c1
  unfold pmp_ReadAsk_c1_wp at hp
  subst hl_t
  refine newL (o := [(Value.int .i64 0), (Value.int .i64 0), (Value.int .i64 0), (Value.int .i64 0), (Value.int .u64 0), (Value.int .i64 0), (Value.int .i64 0), (Value.int .u32 0)]) h ?_
  intro b_2 w h
  refine cond_both hp (fun hp => ?_) (fun hp => ?_)
  · refine storeL (ys := [(Value.int .i64 0), (Value.int .i64 0), (Value.int .i64 0), (Value.int .i64 0), (Value.int .u64 0), (Value.int .i64 0), (Value.int .i64 0), (Value.int .u32 0)]) h 0 0 rfl rfl rfl sz25 rfl rfl ?_
    intro w h
    dsimp only [setH, setVs, setV] at h
    refine ⟨_, cellL h 0 0 rfl rfl rfl, _, cellL h 0 1 rfl rfl rfl, _, cellL h 0 2 rfl rfl rfl, _, cellL h 0 3 rfl rfl rfl, _, cellL h 0 4 rfl rfl rfl, _, cellL h 0 5 rfl rfl rfl, _, cellL h 0 6 rfl rfl rfl, _, cellL h 0 7 rfl rfl rfl, ?_⟩
    replace h := h.sel [1] 1
    dsimp only [pickL, pickR, nthH, delH, dropH, List.cons_append, List.nil_append] at h
    exact hR 0 0 0 0 0 0 0 0 _ h hp
  replace h := h.drew
  refine ⟨fun w => Mem (cel b_1 27 [(Value.slice p_1 t.length c_1)] :: FL) w, (h.sel [1] 1), ?_⟩
  refine ⟨_, _, _, cellL h 1 0 rfl rfl rfl, ?_⟩
  obtain ⟨g_1ha, g_1hb, g_1la, g_1lb, hp⟩ := hp
  have vg_1_lh : (Int.toNat 4) ≤ (Int.toNat 6) := (natLe2 g_1la g_1ha g_1lb)
  have vg_1_hm : (Int.toNat 6) ≤ c_1 := (Nat.le_trans (natLe g_1ha g_1hb) hc_t)
  have vg_1_mc : c_1 ≤ c_1 := (Nat.le_refl _)
  have vg_1_hl : (Int.toNat 6) ≤ t.length := (leLen g_1ha g_1hb rfl)
  refine ⟨g_1ha, (leCap g_1hb hc_t), g_1la, (leNat g_1ha g_1lb), ?_⟩
  refine ⟨_, _, _, cellL h 1 0 rfl rfl rfl, ?_⟩
  refine ⟨?_, ?_⟩
  · intro w h
    change Mem _ _ at h
    refine ⟨_, _, _, cellL h 0 0 rfl rfl rfl, ?_⟩
    exact ⟨rfl, rfl⟩
  obtain ⟨g_2ha, g_2hb, g_2la, g_2lb, hp⟩ := hp
  have vg_2_lh : (Int.toNat 6) ≤ (Int.toNat 8) := (natLe2 g_2la g_2ha g_2lb)
  have vg_2_hm : (Int.toNat 8) ≤ c_1 := (Nat.le_trans (natLe g_2ha g_2hb) hc_t)
  have vg_2_mc : c_1 ≤ c_1 := (Nat.le_refl _)
  have vg_2_hl : (Int.toNat 8) ≤ t.length := (leLen g_2ha g_2hb rfl)
  refine ⟨g_2ha, (leCap g_2hb hc_t), g_2la, (leNat g_2ha g_2lb), ?_⟩
  refine ⟨_, _, _, cellL h 1 0 rfl rfl rfl, ?_⟩
  refine ⟨?_, ?_⟩
  · intro w h
    change Mem _ _ at h
    refine ⟨_, _, _, cellL h 0 0 rfl rfl rfl, ?_⟩
    exact ⟨rfl, rfl⟩
  obtain ⟨g_3ha, g_3hb, g_3la, g_3lb, hp⟩ := hp
  have vg_3_lh : (Int.toNat 8) ≤ (Int.toNat 12) := (natLe2 g_3la g_3ha g_3lb)
  have vg_3_hm : (Int.toNat 12) ≤ c_1 := (Nat.le_trans (natLe g_3ha g_3hb) hc_t)
  have vg_3_mc : c_1 ≤ c_1 := (Nat.le_refl _)
  have vg_3_hl : (Int.toNat 12) ≤ t.length := (leLen g_3ha g_3hb rfl)
  refine ⟨g_3ha, (leCap g_3hb hc_t), g_3la, (leNat g_3ha g_3lb), ?_⟩
  refine pmp_get_ok (FL := cel b_2 25 [(Value.int .i64 0), (Value.int .i64 0), (Value.int .i64 0), (Value.int .i64 0), (Value.int .u64 0), (Value.int .i64 0), (Value.int .i64 0), (Value.int .u32 0)] :: cel b_1 27 [(Value.slice p_1 t.length c_1)] :: FL) (fun w h => (Rd.view (hF_t _ (h.drop 2)) (l := (Int.toNat 4)) (h := (Int.toNat 6)) (m := c_1) vg_1_hm)) (viewLen vg_1_hl) (Nat.sub_le_sub_right vg_1_hm _) h hp ?_
  intro r w h hp
  refine ⟨_, rfl, ?_⟩
  refine ⟨(h.sel [1] 1), ?_⟩
  refine pmp_get_ok (FL := cel b_2 25 [(Value.int .i64 0), (Value.int .i64 0), (Value.int .i64 0), (Value.int .i64 0), (Value.int .u64 0), (Value.int .i64 0), (Value.int .i64 0), (Value.int .u32 0)] :: cel b_1 27 [(Value.slice p_1 t.length c_1)] :: FL) (fun w h => (Rd.view (hF_t _ (h.drop 2)) (l := (Int.toNat 6)) (h := (Int.toNat 8)) (m := c_1) vg_2_hm)) (viewLen vg_2_hl) (Nat.sub_le_sub_right vg_2_hm _) h hp ?_
  intro r_1 w h hp
  refine ⟨_, rfl, ?_⟩
  refine ⟨(h.sel [1] 1), ?_⟩
  refine pmp_get_ok (FL := cel b_2 25 [(Value.int .i64 0), (Value.int .i64 0), (Value.int .i64 0), (Value.int .i64 0), (Value.int .u64 0), (Value.int .i64 0), (Value.int .i64 0), (Value.int .u32 0)] :: cel b_1 27 [(Value.slice p_1 t.length c_1)] :: FL) (fun w h => (Rd.view (hF_t _ (h.drop 2)) (l := (Int.toNat 8)) (h := (Int.toNat 12)) (m := c_1) vg_3_hm)) (viewLen vg_3_hl) (Nat.sub_le_sub_right vg_3_hm _) h hp ?_
  intro r_2 w h hp
  refine ⟨_, rfl, ?_⟩
  refine storeL (ys := [(Value.int .i64 0), (Value.int .i64 r), (Value.int .i64 r_1), (Value.int .i64 r_2), (Value.int .u64 0), (Value.int .i64 0), (Value.int .i64 0), (Value.int .u32 0)]) h 0 0 rfl rfl rfl sz25 rfl rfl ?_
  intro w h
  dsimp only [setH, setVs, setV] at h
  refine ⟨_, cellL h 0 0 rfl rfl rfl, _, cellL h 0 1 rfl rfl rfl, _, cellL h 0 2 rfl rfl rfl, _, cellL h 0 3 rfl rfl rfl, _, cellL h 0 4 rfl rfl rfl, _, cellL h 0 5 rfl rfl rfl, _, cellL h 0 6 rfl rfl rfl, _, cellL h 0 7 rfl rfl rfl, ?_⟩
  replace h := h.sel [1] 1
  dsimp only [pickL, pickR, nthH, delH, dropH, List.cons_append, List.nil_append] at h
  exact hR 0 r r_1 r_2 0 0 0 0 _ h hp

/-! slices.Equal[[]byte,byte] (48) -/
def slices_Equal_sl_byte_byte_wp (s : List (Int)) (s_1 : List (Int)) (K : Bool → Prop) : Prop :=
  cond ((((s.length : Nat) : Int) : Int) != ((s_1.length : Nat) : Int)) (K false) (∃ (I : Nat → Int → Prop), (∃ (n_5 : Nat), I n_5 0) ∧ ∀ (n_3 : Nat) (t13 : Int), I n_3 t13 → (cond (decide ((t13 : Int) < ((s.length : Nat) : Int))) (0 ≤ (t13 : Int) ∧ (t13 : Int) < ((s.length : Nat) : Int) ∧ (∀ (x_1 : Int), s[Int.toNat t13]? = some x_1 → (0 ≤ (t13 : Int) ∧ (t13 : Int) < ((s_1.length : Nat) : Int) ∧ (∀ (x_2 : Int), s_1[Int.toNat t13]? = some x_2 → (cond ((x_1 : Int) != x_2) (K false) (∃ (n_4 : Nat), n_4 < n_3 ∧ I n_4 (IntKind.wrap .i64 (t13 + 1)))))))) (K true)))
theorem slices_Equal_sl_byte_byte_ok {p_1 : Option Addr} {n_1 : Nat} {c_1 : Nat} {p_2 : Option Addr} {n_2 : Nat} {c_2 : Nat} {s : List (Int)} {s_1 : List (Int)} {FL : List HP} {w : World} {K : Bool → Prop} {R : Value → World → Prop}
  (hF_s : ∀ w, Mem FL w → Rd w 1 p_1 enc5 s) (hl_s : n_1 = s.length) (hc_s : n_1 ≤ c_1)
  (hF_s_1 : ∀ w, Mem FL w → Rd w 1 p_2 enc5 s_1) (hl_s_1 : n_2 = s_1.length) (hc_s_1 : n_2 ≤ c_2)
  (h : Mem (FL) w) (hp : slices_Equal_sl_byte_byte_wp s s_1 K)
  (hR : ∀ (r : Bool) (w : World), Mem (FL) w → K r → R (Value.bool r) w) :
  CallV Try.prog 48 #[(Value.slice p_1 n_1 c_1), (Value.slice p_2 n_2 c_2)] w R := by
  refine slices_Equal_sl_byte_byte_call ?_
  unfold slices_Equal_sl_byte_byte
  unfold slices_Equal_sl_byte_byte_wp at hp
  subst hl_s
  subst hl_s_1
  refine cond_both hp (fun hp => ?_) (fun hp => ?_)
  · exact hR false _ h hp
  obtain ⟨I, ⟨n_5, h0⟩, hq⟩ := hp
  refine ⟨fun n_3 s10p s10l s10c s21p s21l s21c t12 t13 w => p_1 = s10p ∧ s.length = s10l ∧ c_1 = s10c ∧ p_2 = s21p ∧ s_1.length = s21l ∧ c_2 = s21c ∧ ((s.length : Nat) : Int) = t12 ∧ I n_3 t13 ∧ Mem (FL) w, ⟨n_5, rfl, rfl, rfl, rfl, rfl, rfl, rfl, h0, h⟩, ?_⟩
  clear h0 h
  rintro n_3 s10p s10l s10c s21p s21l s21c t12 t13 w ⟨rfl, rfl, rfl, rfl, rfl, rfl, rfl, hp, h⟩
  replace hp := hq n_3 t13 hp
  clear hq
  unfold slices_Equal_sl_byte_byte_l1
  refine cond_both' hp (fun hp => ?_) (fun hp => ?_)
  · exact hR true _ h hp
  replace h := h.drew
  obtain ⟨ia_1, ja_1, hp⟩ := hp
  obtain ⟨a_1, ha_1⟩ := rdAddr (hF_s _ (h.drop 0)) rfl ia_1 ja_1
  refine ⟨a_1, ha_1, ia_1, ja_1, ?_⟩
  obtain ⟨x_1, hx_1, hc⟩ := rdCell0 (hF_s _ (h.drop 0)) ha_1 rfl ia_1 ja_1
  replace hp := hp x_1 hx_1
  refine ⟨_, hc _ rfl, ?_⟩
  obtain ⟨ia_2, ja_2, hp⟩ := hp
  obtain ⟨a_2, ha_2⟩ := rdAddr (hF_s_1 _ (h.drop 0)) rfl ia_2 ja_2
  refine ⟨a_2, ha_2, ia_2, ja_2, ?_⟩
  obtain ⟨x_2, hx_2, hc⟩ := rdCell0 (hF_s_1 _ (h.drop 0)) ha_2 rfl ia_2 ja_2
  replace hp := hp x_2 hx_2
  refine ⟨_, hc _ rfl, ?_⟩
  refine cond_both hp (fun hp => ?_) (fun hp => ?_)
  · exact hR false _ h hp
  obtain ⟨n_4, hn, hp⟩ := hp
  exact ⟨n_4, hn, rfl, rfl, rfl, rfl, rfl, rfl, rfl, hp, h⟩

/-! embrasure/pmp.read (40) -/
def pmp_read_wp {σ3 : Type} {σ4 : Type} (b_1 : List (Int)) (hostLen : Int) (portLen : Int) (s : σ3) (Y3 : (Bool) → σ3 → (Int → Int → Int → Int → Int → Int → Int → Int → σ3 → Prop) → Prop) (s_1 : σ4) (Y4 : (Int × Int × Int × Int × Int × Int × Int × Int) → (Bool) → σ4 → (List (Int) → σ4 → Prop) → Prop) (K : Int → Int → Int → Int → Int → Int → Int → Int → Bool → Int → σ3 → σ4 → Prop) : Prop :=
  joinP0 (Y3 ((((b_1.length : Nat) : Int) : Int) == hostLen) s (fun (t32_0 : Int) (t32_1 : Int) (t32_2 : Int) (t32_3 : Int) (t32_4 : Int) (t32_5 : Int) (t32_6 : Int) (t32_7 : Int) (s_4 : σ3) => Y4 (t32_0, t32_1, t32_2, t32_3, t32_4, t32_5, t32_6, t32_7) ((((b_1.length : Nat) : Int) : Int) == hostLen) s_1 (fun (rs : List (Int)) (s_5 : σ4) => slices_Equal_sl_byte_byte_wp rs b_1 (fun (r : Bool) => cond (!r) (K 0 0 0 0 0 0 0 0 false 3 s_4 s_5) (K t32_0 t32_1 t32_2 t32_3 t32_4 t32_5 t32_6 t32_7 ((((b_1.length : Nat) : Int) : Int) == hostLen) 0 s_4 s_5))))) (fun (Q : Prop) => joinP1 (fun (t24 : Bool) => cond t24 (K 0 0 0 0 0 0 0 0 false 3 s s_1) (Q )) (fun (Q_1 : Bool → Prop) => cond ((((b_1.length : Nat) : Int) : Int) != hostLen) (Q_1 ((((b_1.length : Nat) : Int) : Int) != portLen)) (Q_1 false)))
theorem pmp_read_ok {σ3 : Type} {A3 : σ3 → HP} {σ4 : Type} {A4 : σ4 → HP} {p_1 : Option Addr} {n_1 : Nat} {c_1 : Nat} {fv3 : Value} {fv4 : Value} {b_1 : List (Int)} {hostLen : Int} {portLen : Int} {s : σ3} {Y3 : (Bool) → σ3 → (Int → Int → Int → Int → Int → Int → Int → Int → σ3 → Prop) → Prop} {s_1 : σ4} {Y4 : (Int × Int × Int × Int × Int × Int × Int × Int) → (Bool) → σ4 → (List (Int) → σ4 → Prop) → Prop} {FL : List HP} {w : World} {K : Int → Int → Int → Int → Int → Int → Int → Int → Bool → Int → σ3 → σ4 → Prop} {R : Value → World → Prop}
  (hY3 : ∀ (x0 : Bool) (s : σ3) (K : Int → Int → Int → Int → Int → Int → Int → Int → σ3 → Prop) (FL2 : List HP) (w : World) (R : Value → World → Prop), (∀ w, Mem FL2 w → Mem FL w) → Mem (A3 s :: FL2) w → Y3 x0 s K → (∀ (r0 : Int) (r1 : Int) (r2 : Int) (r3 : Int) (r4 : Int) (r5 : Int) (r6 : Int) (r7 : Int) (s : σ3) (w : World), Mem (A3 s :: FL2) w → K r0 r1 r2 r3 r4 r5 r6 r7 s → R (Value.agg #[(Value.int .i64 r0), (Value.int .i64 r1), (Value.int .i64 r2), (Value.int .i64 r3), (Value.int .u64 r4), (Value.int .i64 r5), (Value.int .i64 r6), (Value.int .u32 r7)]) w) → CalleeV Try.prog fv3 #[(Value.bool x0)] w R)
  (hY4 : ∀ (x0 : Int × Int × Int × Int × Int × Int × Int × Int) (x1 : Bool) (s : σ4) (K : List (Int) → σ4 → Prop) (FL2 : List HP) (w : World) (R : Value → World → Prop), (∀ w, Mem FL2 w → Mem FL w) → Mem (A4 s :: FL2) w → Y4 x0 x1 s K → (∀ (r : List (Int)) (s : σ4) (p : Option Addr) (c : Nat) (w : World), Mem (row enc5 5 1 p c r :: A4 s :: FL2) w → K r s → R (Value.slice p r.length c) w) → CalleeV Try.prog fv4 #[(Value.agg #[(Value.int .i64 x0.1), (Value.int .i64 x0.2.1), (Value.int .i64 x0.2.2.1), (Value.int .i64 x0.2.2.2.1), (Value.int .u64 x0.2.2.2.2.1), (Value.int .i64 x0.2.2.2.2.2.1), (Value.int .i64 x0.2.2.2.2.2.2.1), (Value.int .u32 x0.2.2.2.2.2.2.2)]), (Value.bool x1)] w R)
  (hF_b_1 : ∀ w, Mem FL w → Rd w 1 p_1 enc5 b_1) (hl_b_1 : n_1 = b_1.length) (hc_b_1 : n_1 ≤ c_1)
  (h : Mem (A3 s :: A4 s_1 :: FL) w) (hp : pmp_read_wp b_1 hostLen portLen s Y3 s_1 Y4 K)
  (hR : ∀ (r : Int) (r_1 : Int) (r_2 : Int) (r_3 : Int) (r_4 : Int) (r_5 : Int) (r_6 : Int) (r_7 : Int) (r_8 : Bool) (r_9 : Int) (s_2 : σ3) (s_3 : σ4) (w : World), Mem (A3 s_2 :: A4 s_3 :: FL) w → K r r_1 r_2 r_3 r_4 r_5 r_6 r_7 r_8 r_9 s_2 s_3 → R (Value.tuple #[(Value.agg #[(Value.int .i64 r), (Value.int .i64 r_1), (Value.int .i64 r_2), (Value.int .i64 r_3), (Value.int .u64 r_4), (Value.int .i64 r_5), (Value.int .i64 r_6), (Value.int .u32 r_7)]), (Value.bool r_8), (Value.int .i64 r_9)]) w) :
  CallV Try.prog 40 #[(Value.slice p_1 n_1 c_1), (Value.int .i64 hostLen), (Value.int .i64 portLen), fv3, fv4] w R := by
  refine pmp_read_call ?_
  unfold pmp_read
  unfold pmp_read_wp at hp
  subst hl_b_1
  refine newL (o := [(Value.int .i64 0), (Value.int .i64 0), (Value.int .i64 0), (Value.int .i64 0), (Value.int .u64 0), (Value.int .i64 0), (Value.int .i64 0), (Value.int .u32 0)]) h ?_
  intro b_2 w h
  obtain ⟨Q, hq, hp⟩ := hp
  refine ⟨fun b0p b0l b0c hostLen1 of3 tell4 t10 w => p_1 = b0p ∧ b_1.length = b0l ∧ c_1 = b0c ∧ hostLen = hostLen1 ∧ fv3 = of3 ∧ fv4 = tell4 ∧ (Addr.mk b_2 0 none) = t10 ∧ Q ∧ Mem (cel b_2 25 [(Value.int .i64 0), (Value.int .i64 0), (Value.int .i64 0), (Value.int .i64 0), (Value.int .u64 0), (Value.int .i64 0), (Value.int .i64 0), (Value.int .u32 0)] :: A3 s :: A4 s_1 :: FL) w, ?_, ?_⟩
  · rintro b0p b0l b0c hostLen1 of3 tell4 t10 w ⟨rfl, rfl, rfl, rfl, rfl, rfl, rfl, hp, h⟩
    replace hp := hq  hp
    unfold pmp_read_j1
    replace h := h.pick [1]
    dsimp only [pickL, pickR, nthH, delH, dropH, List.cons_append, List.nil_append] at h
    refine hY3 ((((b_1.length : Nat) : Int) : Int) == hostLen) _ _ (cel b_2 25 [(Value.int .i64 0), (Value.int .i64 0), (Value.int .i64 0), (Value.int .i64 0), (Value.int .u64 0), (Value.int .i64 0), (Value.int .i64 0), (Value.int .u32 0)] :: A4 s_1 :: FL) _ _ (fun _ h => Mem.drop 2 h) h hp ?_
    intro t32_0 t32_1 t32_2 t32_3 t32_4 t32_5 t32_6 t32_7 s_4 w h hp
    refine ⟨_, _, _, _, _, _, _, _, rfl, ?_⟩
    refine newL (o := [(Value.int .i64 0), (Value.int .i64 0), (Value.int .i64 0), (Value.int .i64 0), (Value.int .u64 0), (Value.int .i64 0), (Value.int .i64 0), (Value.int .u32 0)]) h ?_
    intro b_3 w h
    refine storeL (ys := [(Value.int .i64 t32_0), (Value.int .i64 t32_1), (Value.int .i64 t32_2), (Value.int .i64 t32_3), (Value.int .u64 t32_4), (Value.int .i64 t32_5), (Value.int .i64 t32_6), (Value.int .u32 t32_7)]) h 0 0 rfl rfl rfl sz25 rfl rfl ?_
    intro w h
    dsimp only [setH, setVs, setV] at h
    refine ⟨_, cellL h 0 0 rfl rfl rfl, _, cellL h 0 1 rfl rfl rfl, _, cellL h 0 2 rfl rfl rfl, _, cellL h 0 3 rfl rfl rfl, _, cellL h 0 4 rfl rfl rfl, _, cellL h 0 5 rfl rfl rfl, _, cellL h 0 6 rfl rfl rfl, _, cellL h 0 7 rfl rfl rfl, ?_⟩
    replace h := h.pick [3]
    dsimp only [pickL, pickR, nthH, delH, dropH, List.cons_append, List.nil_append] at h
    refine hY4 (t32_0, t32_1, t32_2, t32_3, t32_4, t32_5, t32_6, t32_7) ((((b_1.length : Nat) : Int) : Int) == hostLen) _ _ (cel b_3 25 [(Value.int .i64 t32_0), (Value.int .i64 t32_1), (Value.int .i64 t32_2), (Value.int .i64 t32_3), (Value.int .u64 t32_4), (Value.int .i64 t32_5), (Value.int .i64 t32_6), (Value.int .u32 t32_7)] :: A3 s_4 :: cel b_2 25 [(Value.int .i64 0), (Value.int .i64 0), (Value.int .i64 0), (Value.int .i64 0), (Value.int .u64 0), (Value.int .i64 0), (Value.int .i64 0), (Value.int .u32 0)] :: FL) _ _ (fun _ h => Mem.drop 3 h) h hp ?_
    intro rs s_5 p_2 c_2 w h hp
    have cpp_2 := rowCap h 0 rfl
    refine ⟨_, _, _, rfl, ?_⟩
    refine slices_Equal_sl_byte_byte_ok (FL := row enc5 5 1 p_2 c_2 rs :: A4 s_5 :: cel b_3 25 [(Value.int .i64 t32_0), (Value.int .i64 t32_1), (Value.int .i64 t32_2), (Value.int .i64 t32_3), (Value.int .u64 t32_4), (Value.int .i64 t32_5), (Value.int .i64 t32_6), (Value.int .u32 t32_7)] :: A3 s_4 :: cel b_2 25 [(Value.int .i64 0), (Value.int .i64 0), (Value.int .i64 0), (Value.int .i64 0), (Value.int .u64 0), (Value.int .i64 0), (Value.int .i64 0), (Value.int .u32 0)] :: FL) (fun w h => (rowRd h 0 encL5 rfl)) rfl cpp_2 (fun w h => (hF_b_1 _ (h.drop 5))) rfl hc_b_1 h hp ?_
    intro r w h hp
    refine ⟨_, rfl, ?_⟩
    refine cond_both hp (fun hp => ?_) (fun hp => ?_)
    · refine storeL (ys := [(Value.int .i64 0), (Value.int .i64 0), (Value.int .i64 0), (Value.int .i64 0), (Value.int .u64 0), (Value.int .i64 0), (Value.int .i64 0), (Value.int .u32 0)]) h 4 0 rfl rfl rfl sz25 rfl rfl ?_
      intro w h
      dsimp only [setH, setVs, setV] at h
      refine ⟨_, cellL h 4 0 rfl rfl rfl, _, cellL h 4 1 rfl rfl rfl, _, cellL h 4 2 rfl rfl rfl, _, cellL h 4 3 rfl rfl rfl, _, cellL h 4 4 rfl rfl rfl, _, cellL h 4 5 rfl rfl rfl, _, cellL h 4 6 rfl rfl rfl, _, cellL h 4 7 rfl rfl rfl, ?_⟩
      replace h := h.sel [3, 1] 3
      dsimp only [pickL, pickR, nthH, delH, dropH, List.cons_append, List.nil_append] at h
      exact hR 0 0 0 0 0 0 0 0 false 3 s_4 s_5 _ h hp
    refine ⟨_, cellL h 2 0 rfl rfl rfl, _, cellL h 2 1 rfl rfl rfl, _, cellL h 2 2 rfl rfl rfl, _, cellL h 2 3 rfl rfl rfl, _, cellL h 2 4 rfl rfl rfl, _, cellL h 2 5 rfl rfl rfl, _, cellL h 2 6 rfl rfl rfl, _, cellL h 2 7 rfl rfl rfl, ?_⟩
    refine storeL (ys := [(Value.int .i64 t32_0), (Value.int .i64 t32_1), (Value.int .i64 t32_2), (Value.int .i64 t32_3), (Value.int .u64 t32_4), (Value.int .i64 t32_5), (Value.int .i64 t32_6), (Value.int .u32 t32_7)]) h 4 0 rfl rfl rfl sz25 rfl rfl ?_
    intro w h
    dsimp only [setH, setVs, setV] at h
    refine ⟨_, cellL h 4 0 rfl rfl rfl, _, cellL h 4 1 rfl rfl rfl, _, cellL h 4 2 rfl rfl rfl, _, cellL h 4 3 rfl rfl rfl, _, cellL h 4 4 rfl rfl rfl, _, cellL h 4 5 rfl rfl rfl, _, cellL h 4 6 rfl rfl rfl, _, cellL h 4 7 rfl rfl rfl, ?_⟩
    replace h := h.sel [3, 1] 3
    dsimp only [pickL, pickR, nthH, delH, dropH, List.cons_append, List.nil_append] at h
    exact hR t32_0 t32_1 t32_2 t32_3 t32_4 t32_5 t32_6 t32_7 ((((b_1.length : Nat) : Int) : Int) == hostLen) 0 s_4 s_5 _ h hp
  clear hq
  obtain ⟨Q_1, hq, hp⟩ := hp
  refine ⟨fun b0_1p b0_1l b0_1c hostLen1_1 of3_1 tell4_1 t10_1 t24 w => p_1 = b0_1p ∧ b_1.length = b0_1l ∧ c_1 = b0_1c ∧ hostLen = hostLen1_1 ∧ fv3 = of3_1 ∧ fv4 = tell4_1 ∧ (Addr.mk b_2 0 none) = t10_1 ∧ Q_1 t24 ∧ Mem (cel b_2 25 [(Value.int .i64 0), (Value.int .i64 0), (Value.int .i64 0), (Value.int .i64 0), (Value.int .u64 0), (Value.int .i64 0), (Value.int .i64 0), (Value.int .u32 0)] :: A3 s :: A4 s_1 :: FL) w, ?_, ?_⟩
  · rintro b0_1p b0_1l b0_1c hostLen1_1 of3_1 tell4_1 t10_1 t24 w ⟨rfl, rfl, rfl, rfl, rfl, rfl, rfl, hp, h⟩
    replace hp := hq t24 hp
    unfold pmp_read_j2
    refine cond_both' hp (fun hp => ?_) (fun hp => ?_)
    · exact ⟨rfl, rfl, rfl, rfl, rfl, rfl, rfl, hp, h⟩
    refine storeL (ys := [(Value.int .i64 0), (Value.int .i64 0), (Value.int .i64 0), (Value.int .i64 0), (Value.int .u64 0), (Value.int .i64 0), (Value.int .i64 0), (Value.int .u32 0)]) h 0 0 rfl rfl rfl sz25 rfl rfl ?_
    intro w h
    dsimp only [setH, setVs, setV] at h
    refine ⟨_, cellL h 0 0 rfl rfl rfl, _, cellL h 0 1 rfl rfl rfl, _, cellL h 0 2 rfl rfl rfl, _, cellL h 0 3 rfl rfl rfl, _, cellL h 0 4 rfl rfl rfl, _, cellL h 0 5 rfl rfl rfl, _, cellL h 0 6 rfl rfl rfl, _, cellL h 0 7 rfl rfl rfl, ?_⟩
    replace h := h.sel [1, 1] 1
    dsimp only [pickL, pickR, nthH, delH, dropH, List.cons_append, List.nil_append] at h
    exact hR 0 0 0 0 0 0 0 0 false 3 s s_1 _ h hp
  clear hq
  refine cond_both hp (fun hp => ?_) (fun hp => ?_)
  · exact ⟨rfl, rfl, rfl, rfl, rfl, rfl, rfl, hp, h⟩
  exact ⟨rfl, rfl, rfl, rfl, rfl, rfl, rfl, hp, h⟩

/-! embrasure/pmp.ReadAsk (20) -/
def pmp_ReadAsk_wp (b_1 : List (Int)) (K : Int → Int → Int → Int → Int → Int → Int → Int → Bool → Int → Prop) : Prop :=
  pmp_read_wp b_1 2 12 () (fun x_1 s K_1 => pmp_ReadAsk_c1_wp x_1 b_1 (fun (r : Int) (r_1 : Int) (r_2 : Int) (r_3 : Int) (r_4 : Int) (r_5 : Int) (r_6 : Int) (r_7 : Int) => K_1 r r_1 r_2 r_3 r_4 r_5 r_6 r_7 s)) () (fun x_2 x_3 s_1 K_2 => pmp_Ask_wp x_2.1 x_2.2.1 x_2.2.2.1 x_2.2.2.2.1 x_2.2.2.2.2.1 x_2.2.2.2.2.2.1 x_2.2.2.2.2.2.2.1 x_2.2.2.2.2.2.2.2 x_3 (fun (rs : List (Int)) => K_2 rs s_1)) (fun (r : Int) (r_1 : Int) (r_2 : Int) (r_3 : Int) (r_4 : Int) (r_5 : Int) (r_6 : Int) (r_7 : Int) (r_8 : Bool) (r_9 : Int) (s_2 : (Unit)) (s_3 : (Unit)) => K r r_1 r_2 r_3 r_4 r_5 r_6 r_7 r_8 r_9)
theorem pmp_ReadAsk_ok {p_1 : Option Addr} {n_1 : Nat} {c_1 : Nat} {b_1 : List (Int)} {FL : List HP} {w : World} {K : Int → Int → Int → Int → Int → Int → Int → Int → Bool → Int → Prop} {R : Value → World → Prop}
  (hF_b_1 : ∀ w, Mem FL w → Rd w 1 p_1 enc5 b_1) (hl_b_1 : n_1 = b_1.length) (hc_b_1 : n_1 ≤ c_1)
  (h : Mem (FL) w) (hp : pmp_ReadAsk_wp b_1 K)
  (hR : ∀ (r : Int) (r_1 : Int) (r_2 : Int) (r_3 : Int) (r_4 : Int) (r_5 : Int) (r_6 : Int) (r_7 : Int) (r_8 : Bool) (r_9 : Int) (w : World), Mem (FL) w → K r r_1 r_2 r_3 r_4 r_5 r_6 r_7 r_8 r_9 → R (Value.tuple #[(Value.agg #[(Value.int .i64 r), (Value.int .i64 r_1), (Value.int .i64 r_2), (Value.int .i64 r_3), (Value.int .u64 r_4), (Value.int .i64 r_5), (Value.int .i64 r_6), (Value.int .u32 r_7)]), (Value.bool r_8), (Value.int .i64 r_9)]) w) :
  CallV Try.prog 20 #[(Value.slice p_1 n_1 c_1)] w R := by
  refine pmp_ReadAsk_call ?_
  unfold pmp_ReadAsk
  unfold pmp_ReadAsk_wp at hp
  subst hl_b_1
  refine newL (o := [(Value.slice p_1 b_1.length c_1)]) h ?_
  intro b_2 w h
  refine newL (o := [(Value.int .i64 0), (Value.int .i64 0), (Value.int .i64 0), (Value.int .i64 0), (Value.int .u64 0), (Value.int .i64 0), (Value.int .i64 0), (Value.int .u32 0)]) h ?_
  intro b_3 w h
  refine ⟨_, _, _, cellL h 1 0 rfl rfl rfl, ?_⟩
  replace h := h.pick [1]
  dsimp only [pickL, pickR, nthH, delH, dropH, List.cons_append, List.nil_append] at h
  replace h : Mem ((fun (_ : Unit) => HL [cel b_2 27 [(Value.slice p_1 b_1.length c_1)]]) () :: cel b_3 25 [(Value.int .i64 0), (Value.int .i64 0), (Value.int .i64 0), (Value.int .i64 0), (Value.int .u64 0), (Value.int .i64 0), (Value.int .i64 0), (Value.int .u32 0)] :: FL) _ := h.pack 1 [cel b_2 27 [(Value.slice p_1 b_1.length c_1)]] rfl
  replace h : Mem ((fun (_ : Unit) => HL []) () :: (fun (_ : Unit) => HL [cel b_2 27 [(Value.slice p_1 b_1.length c_1)]]) () :: cel b_3 25 [(Value.int .i64 0), (Value.int .i64 0), (Value.int .i64 0), (Value.int .i64 0), (Value.int .u64 0), (Value.int .i64 0), (Value.int .i64 0), (Value.int .u32 0)] :: FL) _ := h.pack 0 [] rfl
  replace h := h.pick [1, 0]
  dsimp only [pickL, pickR, nthH, delH, dropH, List.cons_append, List.nil_append] at h
  refine pmp_read_ok (FL := cel b_3 25 [(Value.int .i64 0), (Value.int .i64 0), (Value.int .i64 0), (Value.int .i64 0), (Value.int .u64 0), (Value.int .i64 0), (Value.int .i64 0), (Value.int .u32 0)] :: FL) (A3 := (fun (_ : Unit) => HL [cel b_2 27 [(Value.slice p_1 b_1.length c_1)]])) (Y3 := (fun x_1 s K_1 => pmp_ReadAsk_c1_wp x_1 b_1 (fun (r : Int) (r_1 : Int) (r_2 : Int) (r_3 : Int) (r_4 : Int) (r_5 : Int) (r_6 : Int) (r_7 : Int) => K_1 r r_1 r_2 r_3 r_4 r_5 r_6 r_7 s))) (σ3 := Unit) (s := ()) ?_ (A4 := (fun (_ : Unit) => HL [])) (Y4 := (fun x_2 x_3 s_1 K_2 => pmp_Ask_wp x_2.1 x_2.2.1 x_2.2.2.1 x_2.2.2.2.1 x_2.2.2.2.2.1 x_2.2.2.2.2.2.1 x_2.2.2.2.2.2.2.1 x_2.2.2.2.2.2.2.2 x_3 (fun (rs : List (Int)) => K_2 rs s_1))) (σ4 := Unit) (s_1 := ()) ?_ (fun w h => (hF_b_1 _ (h.drop 1))) rfl hc_b_1 h hp ?_
  · intro x_1 s K FL2 w R hx h hp hR
    replace h := h.unpack
    dsimp only [pickL, pickR, nthH, delH, dropH, List.cons_append, List.nil_append] at h
    refine calleeFn (by kernel_rfl) ?_
    refine pmp_ReadAsk_c1_ok (fun w h => by have h := hx w h; exact (hF_b_1 _ (h.drop 1))) rfl hc_b_1 h hp ?_
    intro r r_1 r_2 r_3 r_4 r_5 r_6 r_7 w h hp
    exact hR r r_1 r_2 r_3 r_4 r_5 r_6 r_7 s _ (h.pack 1 [cel b_2 27 [(Value.slice p_1 b_1.length c_1)]] rfl) hp
  · intro x_2 x_3 s_1 K FL2 w R hx h hp hR
    replace h := h.unpack
    dsimp only [pickL, pickR, nthH, delH, dropH, List.cons_append, List.nil_append] at h
    refine calleeFn (by kernel_rfl) ?_
    refine pmp_Ask_ok h hp ?_
    rintro rs p_1' n_ c_1' w rfl h hp
    replace h : Mem ((fun (_ : Unit) => HL []) s_1 :: row enc5 5 1 p_1' c_1' rs :: FL2) _ := h.pack 0 [] rfl
    replace h := h.pick [1]
    dsimp only [pickL, pickR, nthH, delH, dropH, List.cons_append, List.nil_append] at h
    exact hR rs s_1 p_1' c_1' _ h hp
  intro r r_1 r_2 r_3 r_4 r_5 r_6 r_7 r_8 r_9 s_2 s_3 w h hp
  replace h := h.unpack
  dsimp only [pickL, pickR, nthH, delH, dropH, List.cons_append, List.nil_append] at h
  replace h := h.pick [1]
  dsimp only [pickL, pickR, nthH, delH, dropH, List.cons_append, List.nil_append] at h
  replace h := h.unpack
  dsimp only [pickL, pickR, nthH, delH, dropH, List.cons_append, List.nil_append] at h
  refine ⟨_, _, _, _, _, _, _, _, _, _, rfl, ?_⟩
  refine storeL (ys := [(Value.int .i64 r), (Value.int .i64 r_1), (Value.int .i64 r_2), (Value.int .i64 r_3), (Value.int .u64 r_4), (Value.int .i64 r_5), (Value.int .i64 r_6), (Value.int .u32 r_7)]) h 1 0 rfl rfl rfl sz25 rfl rfl ?_
  intro w h
  dsimp only [setH, setVs, setV] at h
  refine ⟨_, cellL h 1 0 rfl rfl rfl, _, cellL h 1 1 rfl rfl rfl, _, cellL h 1 2 rfl rfl rfl, _, cellL h 1 3 rfl rfl rfl, _, cellL h 1 4 rfl rfl rfl, _, cellL h 1 5 rfl rfl rfl, _, cellL h 1 6 rfl rfl rfl, _, cellL h 1 7 rfl rfl rfl, ?_⟩
  replace h := h.sel [] 2
  dsimp only [pickL, pickR, nthH, delH, dropH, List.cons_append, List.nil_append] at h
  exact hR r r_1 r_2 r_3 r_4 r_5 r_6 r_7 r_8 r_9 _ h hp

/-! embrasure/pmp.ReadAnswer$1 (43) -/
def pmp_ReadAnswer_c1_wp (host : Bool) (t : List (Int)) (K : Int → Int → Int → Int → Int → Int → Int → Int → Prop) : Prop :=
  joinP8 (fun (Ver : Int) (Inside : Int) (Port : Int) (Secs : Int) (Nonce : Int) (Result : Int) (Epoch : Int) (Host : Int) => joinP4 (fun (Inside_1 : Int) (Port_1 : Int) (Secs_1 : Int) (Host_1 : Int) => K Ver Inside_1 Port_1 Secs_1 Nonce Result Epoch Host_1) (fun (Q_1 : Int → Int → Int → Int → Prop) => cond host (0 ≤ (12 : Int) ∧ (12 : Int) ≤ ((t.length : Nat) : Int) ∧ 0 ≤ (8 : Int) ∧ (8 : Int) ≤ (12 : Int) ∧ (pmp_get_wp ((t.take (Int.toNat 12)).drop (Int.toNat 8)) (fun (r : Int) => Q_1 Inside Port Secs (IntKind.wrap .u32 r)))) (0 ≤ (10 : Int) ∧ (10 : Int) ≤ ((t.length : Nat) : Int) ∧ 0 ≤ (8 : Int) ∧ (8 : Int) ≤ (10 : Int) ∧ (0 ≤ (12 : Int) ∧ (12 : Int) ≤ ((t.length : Nat) : Int) ∧ 0 ≤ (10 : Int) ∧ (10 : Int) ≤ (12 : Int) ∧ (0 ≤ (16 : Int) ∧ (16 : Int) ≤ ((t.length : Nat) : Int) ∧ 0 ≤ (12 : Int) ∧ (12 : Int) ≤ (16 : Int) ∧ (pmp_get_wp ((t.take (Int.toNat 10)).drop (Int.toNat 8)) (fun (r_1 : Int) => pmp_get_wp ((t.take (Int.toNat 12)).drop (Int.toNat 10)) (fun (r_2 : Int) => pmp_get_wp ((t.take (Int.toNat 16)).drop (Int.toNat 12)) (fun (r_3 : Int) => Q_1 r_1 r_2 r_3 Host))))))))) (fun (Q : Int → Int → Int → Int → Int → Int → Int → Int → Prop) => 0 ≤ (4 : Int) ∧ (4 : Int) ≤ ((t.length : Nat) : Int) ∧ 0 ≤ (2 : Int) ∧ (2 : Int) ≤ (4 : Int) ∧ (0 ≤ (8 : Int) ∧ (8 : Int) ≤ ((t.length : Nat) : Int) ∧ 0 ≤ (4 : Int) ∧ (4 : Int) ≤ (8 : Int) ∧ ((pmp_get_wp ((t.take (Int.toNat 4)).drop (Int.toNat 2)) (fun (r_4 : Int) => (pmp_get_wp ((t.take (Int.toNat 8)).drop (Int.toNat 4)) (fun (r_5 : Int) => Q 0 0 0 0 0 r_4 r_5 0)) ∧ (pmp_get_wp ((t.take (Int.toNat 8)).drop (Int.toNat 4)) (fun (r_6 : Int) => Q 0 0 0 0 0 r_4 r_6 0)))) ∧ (pmp_get_wp ((t.take (Int.toNat 4)).drop (Int.toNat 2)) (fun (r_7 : Int) => pmp_get_wp ((t.take (Int.toNat 8)).drop (Int.toNat 4)) (fun (r_8 : Int) => Q 0 0 0 0 0 r_7 r_8 0))))))
theorem pmp_ReadAnswer_c1_ok {b_1 : Nat} {p_1 : Option Addr} {n_1 : Nat} {c_1 : Nat} {host : Bool} {t : List (Int)} {FL : List HP} {w : World} {K : Int → Int → Int → Int → Int → Int → Int → Int → Prop} {R : Value → World → Prop}
  (hF_t : ∀ w, Mem FL w → Rd w 1 p_1 enc5 t) (hl_t : n_1 = t.length) (hc_t : n_1 ≤ c_1)
  (h : Mem (cel b_1 27 [(Value.slice p_1 n_1 c_1)] :: FL) w) (hp : pmp_ReadAnswer_c1_wp host t K)
  (hR : ∀ (r : Int) (r_1 : Int) (r_2 : Int) (r_3 : Int) (r_4 : Int) (r_5 : Int) (r_6 : Int) (r_7 : Int) (w : World), Mem (cel b_1 27 [(Value.slice p_1 t.length c_1)] :: FL) w → K r r_1 r_2 r_3 r_4 r_5 r_6 r_7 → R (Value.agg #[(Value.int .i64 r), (Value.int .i64 r_1), (Value.int .i64 r_2), (Value.int .i64 r_3), (Value.int .u64 r_4), (Value.int .i64 r_5), (Value.int .i64 r_6), (Value.int .u32 r_7)]) w) :
  CallV Try.prog 43 #[(Value.bool host), (Value.pointer (some (Addr.mk b_1 0 none)))] w R := by
  refine pmp_ReadAnswer_c1_call ?_
  unfold pmp_ReadAnswer_c1
  unfold pmp_ReadAnswer_c1_wp at hp
  subst hl_t
  refine newL (o := [(Value.int .i64 0), (Value.int .i64 0), (Value.int .i64 0), (Value.int .i64 0), (Value.int .u64 0), (Value.int .i64 0), (Value.int .i64 0), (Value.int .u32 0)]) h ?_
  intro b_2 w h
  obtain ⟨Q, hq, hp⟩ := hp
  refine ⟨fun host0 t1 t3 l4 w => ∃ (b_3 : Nat), ∃ (Ver : Int), ∃ (Inside : Int), ∃ (Port : Int), ∃ (Secs : Int), ∃ (Nonce : Int), ∃ (Result : Int), ∃ (Epoch : Int), ∃ (Host : Int), host = host0 ∧ (Addr.mk b_1 0 none) = t1 ∧ (Addr.mk b_2 0 none) = t3 ∧ (Addr.mk b_3 0 none) = l4 ∧ Q Ver Inside Port Secs Nonce Result Epoch Host ∧ Mem (cel b_2 25 [(Value.int .i64 0), (Value.int .i64 0), (Value.int .i64 0), (Value.int .i64 0), (Value.int .u64 0), (Value.int .i64 0), (Value.int .i64 0), (Value.int .u32 0)] :: cel b_1 27 [(Value.slice p_1 t.length c_1)] :: cel b_3 25 [(Value.int .i64 Ver), (Value.int .i64 Inside), (Value.int .i64 Port), (Value.int .i64 Secs), (Value.int .u64 Nonce), (Value.int .i64 Result), (Value.int .i64 Epoch), (Value.int .u32 Host)] :: FL) w, ?_, ?_⟩
  · rintro host0 t1 t3 l4 w ⟨b_3, Ver, Inside, Port, Secs, Nonce, Result, Epoch, Host, rfl, rfl, rfl, rfl, hp, h⟩
    replace hp := hq Ver Inside Port Secs Nonce Result Epoch Host hp
    unfold pmp_ReadAnswer_c1_j1
    obtain ⟨Q_1, hq, hp⟩ := hp
    refine ⟨fun t3_1 l4_1 w => ∃ (Inside_1 : Int), ∃ (Port_1 : Int), ∃ (Secs_1 : Int), ∃ (Host_1 : Int), (Addr.mk b_2 0 none) = t3_1 ∧ (Addr.mk b_3 0 none) = l4_1 ∧ Q_1 Inside_1 Port_1 Secs_1 Host_1 ∧ Mem (cel b_2 25 [(Value.int .i64 0), (Value.int .i64 0), (Value.int .i64 0), (Value.int .i64 0), (Value.int .u64 0), (Value.int .i64 0), (Value.int .i64 0), (Value.int .u32 0)] :: cel b_1 27 [(Value.slice p_1 t.length c_1)] :: cel b_3 25 [(Value.int .i64 Ver), (Value.int .i64 Inside_1), (Value.int .i64 Port_1), (Value.int .i64 Secs_1), (Value.int .u64 Nonce), (Value.int .i64 Result), (Value.int .i64 Epoch), (Value.int .u32 Host_1)] :: FL) w, ?_, ?_⟩
    · rintro t3_1 l4_1 w ⟨Inside_1, Port_1, Secs_1, Host_1, rfl, rfl, hp, h⟩
      replace hp := hq Inside_1 Port_1 Secs_1 Host_1 hp
      unfold pmp_ReadAnswer_c1_j2
      refine ⟨_, cellL h 2 0 rfl rfl rfl, _, cellL h 2 1 rfl rfl rfl, _, cellL h 2 2 rfl rfl rfl, _, cellL h 2 3 rfl rfl rfl, _, cellL h 2 4 rfl rfl rfl, _, cellL h 2 5 rfl rfl rfl, _, cellL h 2 6 rfl rfl rfl, _, cellL h 2 7 rfl rfl rfl, ?_⟩
      refine storeL (ys := [(Value.int .i64 Ver), (Value.int .i64 Inside_1), (Value.int .i64 Port_1), (Value.int .i64 Secs_1), (Value.int .u64 Nonce), (Value.int .i64 Result), (Value.int .i64 Epoch), (Value.int .u32 Host_1)]) h 0 0 rfl rfl rfl sz25 rfl rfl ?_
      intro w h
      dsimp only [setH, setVs, setV] at h
      refine ⟨_, cellL h 0 0 rfl rfl rfl, _, cellL h 0 1 rfl rfl rfl, _, cellL h 0 2 rfl rfl rfl, _, cellL h 0 3 rfl rfl rfl, _, cellL h 0 4 rfl rfl rfl, _, cellL h 0 5 rfl rfl rfl, _, cellL h 0 6 rfl rfl rfl, _, cellL h 0 7 rfl rfl rfl, ?_⟩
      replace h := h.sel [1] 2
      dsimp only [pickL, pickR, nthH, delH, dropH, List.cons_append, List.nil_append] at h
      exact hR Ver Inside_1 Port_1 Secs_1 Nonce Result Epoch Host_1 _ h hp
    clear hq
    refine cond_both hp (fun hp => ?_) (fun hp => ?_)
    · refine ⟨_, _, _, cellL h 1 0 rfl rfl rfl, ?_⟩
      obtain ⟨g_1ha, g_1hb, g_1la, g_1lb, hp⟩ := hp
      have vg_1_lh : (Int.toNat 8) ≤ (Int.toNat 12) := (natLe2 g_1la g_1ha g_1lb)
      have vg_1_hm : (Int.toNat 12) ≤ c_1 := (Nat.le_trans (natLe g_1ha g_1hb) hc_t)
      have vg_1_mc : c_1 ≤ c_1 := (Nat.le_refl _)
      have vg_1_hl : (Int.toNat 12) ≤ t.length := (leLen g_1ha g_1hb rfl)
      refine ⟨g_1ha, (leCap g_1hb hc_t), g_1la, (leNat g_1ha g_1lb), ?_⟩
      refine pmp_get_ok (FL := cel b_2 25 [(Value.int .i64 0), (Value.int .i64 0), (Value.int .i64 0), (Value.int .i64 0), (Value.int .u64 0), (Value.int .i64 0), (Value.int .i64 0), (Value.int .u32 0)] :: cel b_1 27 [(Value.slice p_1 t.length c_1)] :: cel b_3 25 [(Value.int .i64 Ver), (Value.int .i64 Inside), (Value.int .i64 Port), (Value.int .i64 Secs), (Value.int .u64 Nonce), (Value.int .i64 Result), (Value.int .i64 Epoch), (Value.int .u32 Host)] :: FL) (fun w h => (Rd.view (hF_t _ (h.drop 3)) (l := (Int.toNat 8)) (h := (Int.toNat 12)) (m := c_1) vg_1_hm)) (viewLen vg_1_hl) (Nat.sub_le_sub_right vg_1_hm _) h hp ?_
      intro r w h hp
      refine ⟨_, rfl, ?_⟩
      refine storeL (ys := [(Value.int .u32 (IntKind.wrap .u32 r))]) h 2 7 rfl rfl rfl sz23 rfl rfl ?_
      intro w h
      dsimp only [setH, setVs, setV] at h
      exact ⟨Inside, Port, Secs, (IntKind.wrap .u32 r), rfl, rfl, hp, h⟩
    replace h := h.drew
    refine ⟨fun w => Mem (cel b_1 27 [(Value.slice p_1 t.length c_1)] :: FL) w, (h.sel [1] 2), ?_⟩
    refine ⟨_, _, _, cellL h 1 0 rfl rfl rfl, ?_⟩
    obtain ⟨g_2ha, g_2hb, g_2la, g_2lb, hp⟩ := hp
    have vg_2_lh : (Int.toNat 8) ≤ (Int.toNat 10) := (natLe2 g_2la g_2ha g_2lb)
    have vg_2_hm : (Int.toNat 10) ≤ c_1 := (Nat.le_trans (natLe g_2ha g_2hb) hc_t)
    have vg_2_mc : c_1 ≤ c_1 := (Nat.le_refl _)
    have vg_2_hl : (Int.toNat 10) ≤ t.length := (leLen g_2ha g_2hb rfl)
    refine ⟨g_2ha, (leCap g_2hb hc_t), g_2la, (leNat g_2ha g_2lb), ?_⟩
    refine ⟨_, _, _, cellL h 1 0 rfl rfl rfl, ?_⟩
    refine ⟨?_, ?_⟩
    · intro w h
      change Mem _ _ at h
      refine ⟨_, _, _, cellL h 0 0 rfl rfl rfl, ?_⟩
      exact ⟨rfl, rfl⟩
    obtain ⟨g_3ha, g_3hb, g_3la, g_3lb, hp⟩ := hp
    have vg_3_lh : (Int.toNat 10) ≤ (Int.toNat 12) := (natLe2 g_3la g_3ha g_3lb)
    have vg_3_hm : (Int.toNat 12) ≤ c_1 := (Nat.le_trans (natLe g_3ha g_3hb) hc_t)
    have vg_3_mc : c_1 ≤ c_1 := (Nat.le_refl _)
    have vg_3_hl : (Int.toNat 12) ≤ t.length := (leLen g_3ha g_3hb rfl)
    refine ⟨g_3ha, (leCap g_3hb hc_t), g_3la, (leNat g_3ha g_3lb), ?_⟩
    refine ⟨_, _, _, cellL h 1 0 rfl rfl rfl, ?_⟩
    refine ⟨?_, ?_⟩
    · intro w h
      change Mem _ _ at h
      refine ⟨_, _, _, cellL h 0 0 rfl rfl rfl, ?_⟩
      exact ⟨rfl, rfl⟩
    obtain ⟨g_4ha, g_4hb, g_4la, g_4lb, hp⟩ := hp
    have vg_4_lh : (Int.toNat 12) ≤ (Int.toNat 16) := (natLe2 g_4la g_4ha g_4lb)
    have vg_4_hm : (Int.toNat 16) ≤ c_1 := (Nat.le_trans (natLe g_4ha g_4hb) hc_t)
    have vg_4_mc : c_1 ≤ c_1 := (Nat.le_refl _)
    have vg_4_hl : (Int.toNat 16) ≤ t.length := (leLen g_4ha g_4hb rfl)
    refine ⟨g_4ha, (leCap g_4hb hc_t), g_4la, (leNat g_4ha g_4lb), ?_⟩
    refine pmp_get_ok (FL := cel b_2 25 [(Value.int .i64 0), (Value.int .i64 0), (Value.int .i64 0), (Value.int .i64 0), (Value.int .u64 0), (Value.int .i64 0), (Value.int .i64 0), (Value.int .u32 0)] :: cel b_1 27 [(Value.slice p_1 t.length c_1)] :: cel b_3 25 [(Value.int .i64 Ver), (Value.int .i64 Inside), (Value.int .i64 Port), (Value.int .i64 Secs), (Value.int .u64 Nonce), (Value.int .i64 Result), (Value.int .i64 Epoch), (Value.int .u32 Host)] :: FL) (fun w h => (Rd.view (hF_t _ (h.drop 3)) (l := (Int.toNat 8)) (h := (Int.toNat 10)) (m := c_1) vg_2_hm)) (viewLen vg_2_hl) (Nat.sub_le_sub_right vg_2_hm _) h hp ?_
    intro r_1 w h hp
    refine ⟨_, rfl, ?_⟩
    refine ⟨(h.sel [1] 2), ?_⟩
    refine pmp_get_ok (FL := cel b_2 25 [(Value.int .i64 0), (Value.int .i64 0), (Value.int .i64 0), (Value.int .i64 0), (Value.int .u64 0), (Value.int .i64 0), (Value.int .i64 0), (Value.int .u32 0)] :: cel b_1 27 [(Value.slice p_1 t.length c_1)] :: cel b_3 25 [(Value.int .i64 Ver), (Value.int .i64 Inside), (Value.int .i64 Port), (Value.int .i64 Secs), (Value.int .u64 Nonce), (Value.int .i64 Result), (Value.int .i64 Epoch), (Value.int .u32 Host)] :: FL) (fun w h => (Rd.view (hF_t _ (h.drop 3)) (l := (Int.toNat 10)) (h := (Int.toNat 12)) (m := c_1) vg_3_hm)) (viewLen vg_3_hl) (Nat.sub_le_sub_right vg_3_hm _) h hp ?_
    intro r_2 w h hp
    refine ⟨_, rfl, ?_⟩
    refine ⟨(h.sel [1] 2), ?_⟩
    refine pmp_get_ok (FL := cel b_2 25 [(Value.int .i64 0), (Value.int .i64 0), (Value.int .i64 0), (Value.int .i64 0), (Value.int .u64 0), (Value.int .i64 0), (Value.int .i64 0), (Value.int .u32 0)] :: cel b_1 27 [(Value.slice p_1 t.length c_1)] :: cel b_3 25 [(Value.int .i64 Ver), (Value.int .i64 Inside), (Value.int .i64 Port), (Value.int .i64 Secs), (Value.int .u64 Nonce), (Value.int .i64 Result), (Value.int .i64 Epoch), (Value.int .u32 Host)] :: FL) (fun w h => (Rd.view (hF_t _ (h.drop 3)) (l := (Int.toNat 12)) (h := (Int.toNat 16)) (m := c_1) vg_4_hm)) (viewLen vg_4_hl) (Nat.sub_le_sub_right vg_4_hm _) h hp ?_
    intro r_3 w h hp
    refine ⟨_, rfl, ?_⟩
    refine storeL (ys := [(Value.int .i64 r_1)]) h 2 1 rfl rfl rfl sz3 rfl rfl ?_
    intro w h
    dsimp only [setH, setVs, setV] at h
    refine storeL (ys := [(Value.int .i64 r_2)]) h 2 2 rfl rfl rfl sz3 rfl rfl ?_
    intro w h
    dsimp only [setH, setVs, setV] at h
    refine storeL (ys := [(Value.int .i64 r_3)]) h 2 3 rfl rfl rfl sz3 rfl rfl ?_
    intro w h
    dsimp only [setH, setVs, setV] at h
    exact ⟨r_1, r_2, r_3, Host, rfl, rfl, hp, h⟩
  clear hq
  replace h := h.drew
  refine ⟨fun w => Mem (cel b_1 27 [(Value.slice p_1 t.length c_1)] :: FL) w, (h.sel [1] 1), ?_⟩
  refine ⟨_, _, _, cellL h 1 0 rfl rfl rfl, ?_⟩
  refine ⟨?_, ?_⟩
  · intro w h
    change Mem _ _ at h
    refine ⟨_, _, _, cellL h 0 0 rfl rfl rfl, ?_⟩
    exact ⟨rfl, rfl⟩
  obtain ⟨g_5ha, g_5hb, g_5la, g_5lb, hp⟩ := hp
  have vg_5_lh : (Int.toNat 2) ≤ (Int.toNat 4) := (natLe2 g_5la g_5ha g_5lb)
  have vg_5_hm : (Int.toNat 4) ≤ c_1 := (Nat.le_trans (natLe g_5ha g_5hb) hc_t)
  have vg_5_mc : c_1 ≤ c_1 := (Nat.le_refl _)
  have vg_5_hl : (Int.toNat 4) ≤ t.length := (leLen g_5ha g_5hb rfl)
  refine ⟨g_5ha, (leCap g_5hb hc_t), g_5la, (leNat g_5ha g_5lb), ?_⟩
  refine ⟨_, _, _, cellL h 1 0 rfl rfl rfl, ?_⟩
  refine ⟨?_, ?_⟩
  · intro w h
    change Mem _ _ at h
    refine ⟨_, _, _, cellL h 0 0 rfl rfl rfl, ?_⟩
    exact ⟨rfl, rfl⟩
  obtain ⟨g_6ha, g_6hb, g_6la, g_6lb, hp⟩ := hp
  have vg_6_lh : (Int.toNat 4) ≤ (Int.toNat 8) := (natLe2 g_6la g_6ha g_6lb)
  have vg_6_hm : (Int.toNat 8) ≤ c_1 := (Nat.le_trans (natLe g_6ha g_6hb) hc_t)
  have vg_6_mc : c_1 ≤ c_1 := (Nat.le_refl _)
  have vg_6_hl : (Int.toNat 8) ≤ t.length := (leLen g_6ha g_6hb rfl)
  refine ⟨g_6ha, (leCap g_6hb hc_t), g_6la, (leNat g_6ha g_6lb), ?_⟩
  refine ⟨?_, ?_⟩
  · replace hp := hp.1
    refine pmp_get_ok (FL := cel b_2 25 [(Value.int .i64 0), (Value.int .i64 0), (Value.int .i64 0), (Value.int .i64 0), (Value.int .u64 0), (Value.int .i64 0), (Value.int .i64 0), (Value.int .u32 0)] :: cel b_1 27 [(Value.slice p_1 t.length c_1)] :: FL) (fun w h => (Rd.view (hF_t _ (h.drop 2)) (l := (Int.toNat 2)) (h := (Int.toNat 4)) (m := c_1) vg_5_hm)) (viewLen vg_5_hl) (Nat.sub_le_sub_right vg_5_hm _) h hp ?_
    intro r_4 w h hp
    refine ⟨_, rfl, ?_⟩
    refine ⟨(h.sel [1] 1), ?_⟩
    refine ⟨?_, ?_⟩
    · replace hp := hp.1
      refine pmp_get_ok (FL := cel b_2 25 [(Value.int .i64 0), (Value.int .i64 0), (Value.int .i64 0), (Value.int .i64 0), (Value.int .u64 0), (Value.int .i64 0), (Value.int .i64 0), (Value.int .u32 0)] :: cel b_1 27 [(Value.slice p_1 t.length c_1)] :: FL) (fun w h => (Rd.view (hF_t _ (h.drop 2)) (l := (Int.toNat 4)) (h := (Int.toNat 8)) (m := c_1) vg_6_hm)) (viewLen vg_6_hl) (Nat.sub_le_sub_right vg_6_hm _) h hp ?_
      intro r_5 w h hp
      refine ⟨_, rfl, ?_⟩
      refine newL (o := [(Value.int .i64 0), (Value.int .i64 0), (Value.int .i64 0), (Value.int .i64 0), (Value.int .u64 0), (Value.int .i64 0), (Value.int .i64 0), (Value.int .u32 0)]) h ?_
      intro b_4 w h
      refine ⟨(h.sel [2] 2), ?_⟩
      refine storeL (ys := [(Value.int .i64 0), (Value.int .i64 0), (Value.int .i64 0), (Value.int .i64 0), (Value.int .u64 0), (Value.int .i64 r_4), (Value.int .i64 r_5), (Value.int .u32 0)]) h 0 0 rfl rfl rfl sz25 rfl rfl ?_
      intro w h
      dsimp only [setH, setVs, setV] at h
      replace h := h.sel [1, 1, 0] 0
      dsimp only [pickL, pickR, nthH, delH, dropH, List.cons_append, List.nil_append] at h
      exact ⟨b_4, 0, 0, 0, 0, 0, r_4, r_5, 0, rfl, rfl, rfl, rfl, hp, h⟩
    replace hp := hp.2
    refine newL (o := [(Value.int .i64 0), (Value.int .i64 0), (Value.int .i64 0), (Value.int .i64 0), (Value.int .u64 0), (Value.int .i64 0), (Value.int .i64 0), (Value.int .u32 0)]) h ?_
    intro b_5 w h
    refine ⟨(h.sel [2] 2), ?_⟩
    refine pmp_get_ok (FL := cel b_5 25 [(Value.int .i64 0), (Value.int .i64 0), (Value.int .i64 0), (Value.int .i64 0), (Value.int .u64 0), (Value.int .i64 0), (Value.int .i64 0), (Value.int .u32 0)] :: cel b_2 25 [(Value.int .i64 0), (Value.int .i64 0), (Value.int .i64 0), (Value.int .i64 0), (Value.int .u64 0), (Value.int .i64 0), (Value.int .i64 0), (Value.int .u32 0)] :: cel b_1 27 [(Value.slice p_1 t.length c_1)] :: FL) (fun w h => (Rd.view (hF_t _ (h.drop 3)) (l := (Int.toNat 4)) (h := (Int.toNat 8)) (m := c_1) vg_6_hm)) (viewLen vg_6_hl) (Nat.sub_le_sub_right vg_6_hm _) h hp ?_
    intro r_6 w h hp
    refine ⟨_, rfl, ?_⟩
    refine storeL (ys := [(Value.int .i64 0), (Value.int .i64 0), (Value.int .i64 0), (Value.int .i64 0), (Value.int .u64 0), (Value.int .i64 r_4), (Value.int .i64 r_6), (Value.int .u32 0)]) h 0 0 rfl rfl rfl sz25 rfl rfl ?_
    intro w h
    dsimp only [setH, setVs, setV] at h
    replace h := h.sel [1, 1, 0] 0
    dsimp only [pickL, pickR, nthH, delH, dropH, List.cons_append, List.nil_append] at h
    exact ⟨b_5, 0, 0, 0, 0, 0, r_4, r_6, 0, rfl, rfl, rfl, rfl, hp, h⟩
  replace hp := hp.2
  refine newL (o := [(Value.int .i64 0), (Value.int .i64 0), (Value.int .i64 0), (Value.int .i64 0), (Value.int .u64 0), (Value.int .i64 0), (Value.int .i64 0), (Value.int .u32 0)]) h ?_
  intro b_6 w h
  refine ⟨(h.sel [2] 2), ?_⟩
  refine pmp_get_ok (FL := cel b_6 25 [(Value.int .i64 0), (Value.int .i64 0), (Value.int .i64 0), (Value.int .i64 0), (Value.int .u64 0), (Value.int .i64 0), (Value.int .i64 0), (Value.int .u32 0)] :: cel b_2 25 [(Value.int .i64 0), (Value.int .i64 0), (Value.int .i64 0), (Value.int .i64 0), (Value.int .u64 0), (Value.int .i64 0), (Value.int .i64 0), (Value.int .u32 0)] :: cel b_1 27 [(Value.slice p_1 t.length c_1)] :: FL) (fun w h => (Rd.view (hF_t _ (h.drop 3)) (l := (Int.toNat 2)) (h := (Int.toNat 4)) (m := c_1) vg_5_hm)) (viewLen vg_5_hl) (Nat.sub_le_sub_right vg_5_hm _) h hp ?_
  intro r_7 w h hp
  refine ⟨_, rfl, ?_⟩
  refine ⟨(h.sel [2] 2), ?_⟩
  refine pmp_get_ok (FL := cel b_6 25 [(Value.int .i64 0), (Value.int .i64 0), (Value.int .i64 0), (Value.int .i64 0), (Value.int .u64 0), (Value.int .i64 0), (Value.int .i64 0), (Value.int .u32 0)] :: cel b_2 25 [(Value.int .i64 0), (Value.int .i64 0), (Value.int .i64 0), (Value.int .i64 0), (Value.int .u64 0), (Value.int .i64 0), (Value.int .i64 0), (Value.int .u32 0)] :: cel b_1 27 [(Value.slice p_1 t.length c_1)] :: FL) (fun w h => (Rd.view (hF_t _ (h.drop 3)) (l := (Int.toNat 4)) (h := (Int.toNat 8)) (m := c_1) vg_6_hm)) (viewLen vg_6_hl) (Nat.sub_le_sub_right vg_6_hm _) h hp ?_
  intro r_8 w h hp
  refine ⟨_, rfl, ?_⟩
  refine storeL (ys := [(Value.int .i64 0), (Value.int .i64 0), (Value.int .i64 0), (Value.int .i64 0), (Value.int .u64 0), (Value.int .i64 r_7), (Value.int .i64 r_8), (Value.int .u32 0)]) h 0 0 rfl rfl rfl sz25 rfl rfl ?_
  intro w h
  dsimp only [setH, setVs, setV] at h
  replace h := h.sel [1, 1, 0] 0
  dsimp only [pickL, pickR, nthH, delH, dropH, List.cons_append, List.nil_append] at h
  exact ⟨b_6, 0, 0, 0, 0, 0, r_7, r_8, 0, rfl, rfl, rfl, rfl, hp, h⟩

/-! embrasure/pmp.ReadAnswer (21) -/
def pmp_ReadAnswer_wp (b_1 : List (Int)) (K : Int → Int → Int → Int → Int → Int → Int → Int → Bool → Int → Prop) : Prop :=
  pmp_read_wp b_1 12 16 () (fun x_1 s K_1 => pmp_ReadAnswer_c1_wp x_1 b_1 (fun (r : Int) (r_1 : Int) (r_2 : Int) (r_3 : Int) (r_4 : Int) (r_5 : Int) (r_6 : Int) (r_7 : Int) => K_1 r r_1 r_2 r_3 r_4 r_5 r_6 r_7 s)) () (fun x_2 x_3 s_1 K_2 => pmp_Answer_wp x_2.1 x_2.2.1 x_2.2.2.1 x_2.2.2.2.1 x_2.2.2.2.2.1 x_2.2.2.2.2.2.1 x_2.2.2.2.2.2.2.1 x_2.2.2.2.2.2.2.2 x_3 (fun (rs : List (Int)) => K_2 rs s_1)) (fun (r : Int) (r_1 : Int) (r_2 : Int) (r_3 : Int) (r_4 : Int) (r_5 : Int) (r_6 : Int) (r_7 : Int) (r_8 : Bool) (r_9 : Int) (s_2 : (Unit)) (s_3 : (Unit)) => K r r_1 r_2 r_3 r_4 r_5 r_6 r_7 r_8 r_9)
theorem pmp_ReadAnswer_ok {p_1 : Option Addr} {n_1 : Nat} {c_1 : Nat} {b_1 : List (Int)} {FL : List HP} {w : World} {K : Int → Int → Int → Int → Int → Int → Int → Int → Bool → Int → Prop} {R : Value → World → Prop}
  (hF_b_1 : ∀ w, Mem FL w → Rd w 1 p_1 enc5 b_1) (hl_b_1 : n_1 = b_1.length) (hc_b_1 : n_1 ≤ c_1)
  (h : Mem (FL) w) (hp : pmp_ReadAnswer_wp b_1 K)
  (hR : ∀ (r : Int) (r_1 : Int) (r_2 : Int) (r_3 : Int) (r_4 : Int) (r_5 : Int) (r_6 : Int) (r_7 : Int) (r_8 : Bool) (r_9 : Int) (w : World), Mem (FL) w → K r r_1 r_2 r_3 r_4 r_5 r_6 r_7 r_8 r_9 → R (Value.tuple #[(Value.agg #[(Value.int .i64 r), (Value.int .i64 r_1), (Value.int .i64 r_2), (Value.int .i64 r_3), (Value.int .u64 r_4), (Value.int .i64 r_5), (Value.int .i64 r_6), (Value.int .u32 r_7)]), (Value.bool r_8), (Value.int .i64 r_9)]) w) :
  CallV Try.prog 21 #[(Value.slice p_1 n_1 c_1)] w R := by
  refine pmp_ReadAnswer_call ?_
  unfold pmp_ReadAnswer
  unfold pmp_ReadAnswer_wp at hp
  subst hl_b_1
  refine newL (o := [(Value.slice p_1 b_1.length c_1)]) h ?_
  intro b_2 w h
  refine newL (o := [(Value.int .i64 0), (Value.int .i64 0), (Value.int .i64 0), (Value.int .i64 0), (Value.int .u64 0), (Value.int .i64 0), (Value.int .i64 0), (Value.int .u32 0)]) h ?_
  intro b_3 w h
  refine ⟨_, _, _, cellL h 1 0 rfl rfl rfl, ?_⟩
  replace h := h.pick [1]
  dsimp only [pickL, pickR, nthH, delH, dropH, List.cons_append, List.nil_append] at h
  replace h : Mem ((fun (_ : Unit) => HL [cel b_2 27 [(Value.slice p_1 b_1.length c_1)]]) () :: cel b_3 25 [(Value.int .i64 0), (Value.int .i64 0), (Value.int .i64 0), (Value.int .i64 0), (Value.int .u64 0), (Value.int .i64 0), (Value.int .i64 0), (Value.int .u32 0)] :: FL) _ := h.pack 1 [cel b_2 27 [(Value.slice p_1 b_1.length c_1)]] rfl
  replace h : Mem ((fun (_ : Unit) => HL []) () :: (fun (_ : Unit) => HL [cel b_2 27 [(Value.slice p_1 b_1.length c_1)]]) () :: cel b_3 25 [(Value.int .i64 0), (Value.int .i64 0), (Value.int .i64 0), (Value.int .i64 0), (Value.int .u64 0), (Value.int .i64 0), (Value.int .i64 0), (Value.int .u32 0)] :: FL) _ := h.pack 0 [] rfl
  replace h := h.pick [1, 0]
  dsimp only [pickL, pickR, nthH, delH, dropH, List.cons_append, List.nil_append] at h
  refine pmp_read_ok (FL := cel b_3 25 [(Value.int .i64 0), (Value.int .i64 0), (Value.int .i64 0), (Value.int .i64 0), (Value.int .u64 0), (Value.int .i64 0), (Value.int .i64 0), (Value.int .u32 0)] :: FL) (A3 := (fun (_ : Unit) => HL [cel b_2 27 [(Value.slice p_1 b_1.length c_1)]])) (Y3 := (fun x_1 s K_1 => pmp_ReadAnswer_c1_wp x_1 b_1 (fun (r : Int) (r_1 : Int) (r_2 : Int) (r_3 : Int) (r_4 : Int) (r_5 : Int) (r_6 : Int) (r_7 : Int) => K_1 r r_1 r_2 r_3 r_4 r_5 r_6 r_7 s))) (σ3 := Unit) (s := ()) ?_ (A4 := (fun (_ : Unit) => HL [])) (Y4 := (fun x_2 x_3 s_1 K_2 => pmp_Answer_wp x_2.1 x_2.2.1 x_2.2.2.1 x_2.2.2.2.1 x_2.2.2.2.2.1 x_2.2.2.2.2.2.1 x_2.2.2.2.2.2.2.1 x_2.2.2.2.2.2.2.2 x_3 (fun (rs : List (Int)) => K_2 rs s_1))) (σ4 := Unit) (s_1 := ()) ?_ (fun w h => (hF_b_1 _ (h.drop 1))) rfl hc_b_1 h hp ?_
  · intro x_1 s K FL2 w R hx h hp hR
    replace h := h.unpack
    dsimp only [pickL, pickR, nthH, delH, dropH, List.cons_append, List.nil_append] at h
    refine calleeFn (by kernel_rfl) ?_
    refine pmp_ReadAnswer_c1_ok (fun w h => by have h := hx w h; exact (hF_b_1 _ (h.drop 1))) rfl hc_b_1 h hp ?_
    intro r r_1 r_2 r_3 r_4 r_5 r_6 r_7 w h hp
    exact hR r r_1 r_2 r_3 r_4 r_5 r_6 r_7 s _ (h.pack 1 [cel b_2 27 [(Value.slice p_1 b_1.length c_1)]] rfl) hp
  · intro x_2 x_3 s_1 K FL2 w R hx h hp hR
    replace h := h.unpack
    dsimp only [pickL, pickR, nthH, delH, dropH, List.cons_append, List.nil_append] at h
    refine calleeFn (by kernel_rfl) ?_
    refine pmp_Answer_ok h hp ?_
    rintro rs p_1' n_ c_1' w rfl h hp
    replace h : Mem ((fun (_ : Unit) => HL []) s_1 :: row enc5 5 1 p_1' c_1' rs :: FL2) _ := h.pack 0 [] rfl
    replace h := h.pick [1]
    dsimp only [pickL, pickR, nthH, delH, dropH, List.cons_append, List.nil_append] at h
    exact hR rs s_1 p_1' c_1' _ h hp
  intro r r_1 r_2 r_3 r_4 r_5 r_6 r_7 r_8 r_9 s_2 s_3 w h hp
  replace h := h.unpack
  dsimp only [pickL, pickR, nthH, delH, dropH, List.cons_append, List.nil_append] at h
  replace h := h.pick [1]
  dsimp only [pickL, pickR, nthH, delH, dropH, List.cons_append, List.nil_append] at h
  replace h := h.unpack
  dsimp only [pickL, pickR, nthH, delH, dropH, List.cons_append, List.nil_append] at h
  refine ⟨_, _, _, _, _, _, _, _, _, _, rfl, ?_⟩
  refine storeL (ys := [(Value.int .i64 r), (Value.int .i64 r_1), (Value.int .i64 r_2), (Value.int .i64 r_3), (Value.int .u64 r_4), (Value.int .i64 r_5), (Value.int .i64 r_6), (Value.int .u32 r_7)]) h 1 0 rfl rfl rfl sz25 rfl rfl ?_
  intro w h
  dsimp only [setH, setVs, setV] at h
  refine ⟨_, cellL h 1 0 rfl rfl rfl, _, cellL h 1 1 rfl rfl rfl, _, cellL h 1 2 rfl rfl rfl, _, cellL h 1 3 rfl rfl rfl, _, cellL h 1 4 rfl rfl rfl, _, cellL h 1 5 rfl rfl rfl, _, cellL h 1 6 rfl rfl rfl, _, cellL h 1 7 rfl rfl rfl, ?_⟩
  replace h := h.sel [] 2
  dsimp only [pickL, pickR, nthH, delH, dropH, List.cons_append, List.nil_append] at h
  exact hR r r_1 r_2 r_3 r_4 r_5 r_6 r_7 r_8 r_9 _ h hp

/-! embrasure/embrasurelaw10.PcpApart (6) -/
def embrasurelaw10_PcpApart_wp (a_Ver : Int) (a_Inside : Int) (a_Port : Int) (a_Secs : Int) (a_Nonce : Int) (a_Result : Int) (a_Epoch : Int) (a_Host : Int) (b_Ver : Int) (b_Inside : Int) (b_Port : Int) (b_Secs : Int) (b_Nonce : Int) (b_Result : Int) (b_Epoch : Int) (b_Host : Int) (c_x : Int) (c_x_1 : Int) (K : Bool → Prop) : Prop :=
  embrasurelaw10_awake_wp (fun (r : Bool) => cond (!r) (K false) (pcp_Ask_wp a_Ver a_Inside a_Port a_Secs a_Nonce a_Result a_Epoch a_Host c_x (fun (rs : List (Int)) => pcp_Ask_wp b_Ver b_Inside b_Port b_Secs b_Nonce b_Result b_Epoch b_Host c_x_1 (fun (rs_1 : List (Int)) => joinP0 (pmp_Ask_wp 0 a_Inside a_Port a_Secs 0 0 0 0 false (fun (rs_2 : List (Int)) => pcp_ReadAsk_wp rs_2 (fun (r_1 : Int) (r_2 : Int) (r_3 : Int) (r_4 : Int) (r_5 : Int) (r_6 : Int) (r_7 : Int) (r_8 : Int) (r_9 : Int) (r_10 : Int) => pmp_Answer_wp 0 a_Inside a_Port a_Secs 0 0 0 0 false (fun (rs_3 : List (Int)) => pcp_ReadAnswer_wp rs_3 (fun (r_11 : Int) (r_12 : Int) (r_13 : Int) (r_14 : Int) (r_15 : Int) (r_16 : Int) (r_17 : Int) (r_18 : Int) (r_19 : Int) => pmp_ReadAsk_wp rs (fun (r_20 : Int) (r_21 : Int) (r_22 : Int) (r_23 : Int) (r_24 : Int) (r_25 : Int) (r_26 : Int) (r_27 : Int) (r_28 : Bool) (r_29 : Int) => pcp_Answer_wp a_Ver a_Inside a_Port a_Secs a_Nonce a_Result a_Epoch a_Host (fun (rs_4 : List (Int)) => pmp_ReadAnswer_wp rs_4 (fun (r_30 : Int) (r_31 : Int) (r_32 : Int) (r_33 : Int) (r_34 : Int) (r_35 : Int) (r_36 : Int) (r_37 : Int) (r_38 : Bool) (r_39 : Int) => cond ((r_10 : Int) == 3) (cond ((r_19 : Int) == 3) (cond ((r_29 : Int) == 3) (K ((r_39 : Int) == 3)) (K false)) (K false)) (K false))))))))) (fun (Q : Prop) => joinP1 (fun (t54 : Bool) => cond t54 (K false) (Q )) (fun (Q_1 : Bool → Prop) => cond (decide ((((rs.length : Nat) : Int) : Int) > 0)) (cond (decide ((((rs_1.length : Nat) : Int) : Int) > 0)) (embrasureref01_Same_wp rs rs_1 (fun (r_40 : Bool) => cond (((a_Ver : Int) == b_Ver) && (((a_Inside : Int) == b_Inside) && (((a_Port : Int) == b_Port) && (((a_Secs : Int) == b_Secs) && (((a_Nonce : Int) == b_Nonce) && (((a_Result : Int) == b_Result) && (((a_Epoch : Int) == b_Epoch) && (((a_Host : Int) == b_Host) && true)))))))) (Q_1 (!(r_40 == ((c_x : Int) == c_x_1)))) (Q_1 (!(r_40 == false))))) (Q_1 false)) (Q_1 false)))))))
theorem embrasurelaw10_PcpApart_ok {a_Ver : Int} {a_Inside : Int} {a_Port : Int} {a_Secs : Int} {a_Nonce : Int} {a_Result : Int} {a_Epoch : Int} {a_Host : Int} {b_Ver : Int} {b_Inside : Int} {b_Port : Int} {b_Secs : Int} {b_Nonce : Int} {b_Result : Int} {b_Epoch : Int} {b_Host : Int} {c_x : Int} {c_x_1 : Int} {FL : List HP} {w : World} {K : Bool → Prop} {R : Value → World → Prop}
  (h : Mem (FL) w) (hp : embrasurelaw10_PcpApart_wp a_Ver a_Inside a_Port a_Secs a_Nonce a_Result a_Epoch a_Host b_Ver b_Inside b_Port b_Secs b_Nonce b_Result b_Epoch b_Host c_x c_x_1 K)
  (hR : ∀ (r : Bool) (w : World), Mem (FL) w → K r → R (Value.bool r) w) :
  CallV Try.prog 6 #[(Value.agg #[(Value.int .i64 a_Ver), (Value.int .i64 a_Inside), (Value.int .i64 a_Port), (Value.int .i64 a_Secs), (Value.int .u64 a_Nonce), (Value.int .i64 a_Result), (Value.int .i64 a_Epoch), (Value.int .u32 a_Host)]), (Value.agg #[(Value.int .i64 b_Ver), (Value.int .i64 b_Inside), (Value.int .i64 b_Port), (Value.int .i64 b_Secs), (Value.int .u64 b_Nonce), (Value.int .i64 b_Result), (Value.int .i64 b_Epoch), (Value.int .u32 b_Host)]), (Value.agg #[(Value.int .u32 c_x), (Value.int .u32 c_x_1)])] w R := by
  refine embrasurelaw10_PcpApart_call ?_
  unfold embrasurelaw10_PcpApart
  unfold embrasurelaw10_PcpApart_wp at hp
  refine newL (o := [(Value.int .i64 a_Ver), (Value.int .i64 a_Inside), (Value.int .i64 a_Port), (Value.int .i64 a_Secs), (Value.int .u64 a_Nonce), (Value.int .i64 a_Result), (Value.int .i64 a_Epoch), (Value.int .u32 a_Host)]) h ?_
  intro b_1 w h
  refine newL (o := [(Value.int .i64 b_Ver), (Value.int .i64 b_Inside), (Value.int .i64 b_Port), (Value.int .i64 b_Secs), (Value.int .u64 b_Nonce), (Value.int .i64 b_Result), (Value.int .i64 b_Epoch), (Value.int .u32 b_Host)]) h ?_
  intro b_2 w h
  refine newL (o := [(Value.int .u32 c_x), (Value.int .u32 c_x_1)]) h ?_
  intro b_3 w h
  refine embrasurelaw10_awake_ok h hp ?_
  intro r w h hp
  refine ⟨_, rfl, ?_⟩
  refine cond_both hp (fun hp => ?_) (fun hp => ?_)
  · replace h := h.sel [] 3
    dsimp only [pickL, pickR, nthH, delH, dropH, List.cons_append, List.nil_append] at h
    exact hR false _ h hp
  refine ⟨_, cellL h 2 0 rfl rfl rfl, _, cellL h 2 1 rfl rfl rfl, _, cellL h 2 2 rfl rfl rfl, _, cellL h 2 3 rfl rfl rfl, _, cellL h 2 4 rfl rfl rfl, _, cellL h 2 5 rfl rfl rfl, _, cellL h 2 6 rfl rfl rfl, _, cellL h 2 7 rfl rfl rfl, ?_⟩
  refine ⟨by decide, by decide, ?_⟩
  refine ⟨_, cellL h 0 0 rfl rfl rfl, ?_⟩
  refine pcp_Ask_ok h hp ?_
  rintro rs p_1 n_1 c_1 w rfl h hp
  have cpp_1 := rowCap h 0 rfl
  refine ⟨_, _, _, rfl, ?_⟩
  refine ⟨_, cellL h 2 0 rfl rfl rfl, _, cellL h 2 1 rfl rfl rfl, _, cellL h 2 2 rfl rfl rfl, _, cellL h 2 3 rfl rfl rfl, _, cellL h 2 4 rfl rfl rfl, _, cellL h 2 5 rfl rfl rfl, _, cellL h 2 6 rfl rfl rfl, _, cellL h 2 7 rfl rfl rfl, ?_⟩
  refine ⟨by decide, by decide, ?_⟩
  refine ⟨_, cellL h 1 1 rfl rfl rfl, ?_⟩
  refine pcp_Ask_ok h hp ?_
  rintro rs_1 p_2 n_2 c_2 w rfl h hp
  have cpp_2 := rowCap h 0 rfl
  refine ⟨_, _, _, rfl, ?_⟩
  obtain ⟨Q, hq, hp⟩ := hp
  refine ⟨fun a3 x7p x7l x7c w => (Addr.mk b_1 0 none) = a3 ∧ p_1 = x7p ∧ rs.length = x7l ∧ c_1 = x7c ∧ Q ∧ Mem (cel b_3 41 [(Value.int .u32 c_x), (Value.int .u32 c_x_1)] :: cel b_2 25 [(Value.int .i64 b_Ver), (Value.int .i64 b_Inside), (Value.int .i64 b_Port), (Value.int .i64 b_Secs), (Value.int .u64 b_Nonce), (Value.int .i64 b_Result), (Value.int .i64 b_Epoch), (Value.int .u32 b_Host)] :: cel b_1 25 [(Value.int .i64 a_Ver), (Value.int .i64 a_Inside), (Value.int .i64 a_Port), (Value.int .i64 a_Secs), (Value.int .u64 a_Nonce), (Value.int .i64 a_Result), (Value.int .i64 a_Epoch), (Value.int .u32 a_Host)] :: row enc5 5 1 p_1 c_1 rs :: FL) w, ?_, ?_⟩
  · rintro a3 x7p x7l x7c w ⟨rfl, rfl, rfl, rfl, hp, h⟩
    replace hp := hq  hp
    unfold embrasurelaw10_PcpApart_j1
    refine ⟨_, cellL h 2 1 rfl rfl rfl, ?_⟩
    refine ⟨_, cellL h 2 2 rfl rfl rfl, ?_⟩
    refine ⟨_, cellL h 2 3 rfl rfl rfl, ?_⟩
    refine newL (o := [(Value.int .i64 0), (Value.int .i64 0), (Value.int .i64 0), (Value.int .i64 0), (Value.int .u64 0), (Value.int .i64 0), (Value.int .i64 0), (Value.int .u32 0)]) h ?_
    intro b_4 w h
    refine storeL (ys := [(Value.int .i64 0), (Value.int .i64 a_Inside), (Value.int .i64 a_Port), (Value.int .i64 a_Secs), (Value.int .u64 0), (Value.int .i64 0), (Value.int .i64 0), (Value.int .u32 0)]) h 0 0 rfl rfl rfl sz25 rfl rfl ?_
    intro w h
    dsimp only [setH, setVs, setV] at h
    refine ⟨_, cellL h 0 0 rfl rfl rfl, _, cellL h 0 1 rfl rfl rfl, _, cellL h 0 2 rfl rfl rfl, _, cellL h 0 3 rfl rfl rfl, _, cellL h 0 4 rfl rfl rfl, _, cellL h 0 5 rfl rfl rfl, _, cellL h 0 6 rfl rfl rfl, _, cellL h 0 7 rfl rfl rfl, ?_⟩
    refine pmp_Ask_ok h hp ?_
    rintro rs_2 p_3 n_3 c_3 w rfl h hp
    have cpp_3 := rowCap h 0 rfl
    refine ⟨_, _, _, rfl, ?_⟩
    refine pcp_ReadAsk_ok (FL := row enc5 5 1 p_3 c_3 rs_2 :: cel b_4 25 [(Value.int .i64 0), (Value.int .i64 a_Inside), (Value.int .i64 a_Port), (Value.int .i64 a_Secs), (Value.int .u64 0), (Value.int .i64 0), (Value.int .i64 0), (Value.int .u32 0)] :: cel b_3 41 [(Value.int .u32 c_x), (Value.int .u32 c_x_1)] :: cel b_2 25 [(Value.int .i64 b_Ver), (Value.int .i64 b_Inside), (Value.int .i64 b_Port), (Value.int .i64 b_Secs), (Value.int .u64 b_Nonce), (Value.int .i64 b_Result), (Value.int .i64 b_Epoch), (Value.int .u32 b_Host)] :: cel b_1 25 [(Value.int .i64 a_Ver), (Value.int .i64 a_Inside), (Value.int .i64 a_Port), (Value.int .i64 a_Secs), (Value.int .u64 a_Nonce), (Value.int .i64 a_Result), (Value.int .i64 a_Epoch), (Value.int .u32 a_Host)] :: row enc5 5 1 p_1 c_1 rs :: FL) (fun w h => (rowRd h 0 encL5 rfl)) rfl cpp_3 h hp ?_
    intro r_1 r_2 r_3 r_4 r_5 r_6 r_7 r_8 r_9 r_10 w h hp
    refine ⟨_, _, _, _, _, _, _, _, _, _, rfl, ?_⟩
    refine newL (o := [(Value.int .i64 0), (Value.int .i64 0), (Value.int .i64 0), (Value.int .i64 0), (Value.int .u64 0), (Value.int .i64 0), (Value.int .i64 0), (Value.int .u32 0)]) h ?_
    intro b_5 w h
    refine storeL (ys := [(Value.int .i64 r_1), (Value.int .i64 r_2), (Value.int .i64 r_3), (Value.int .i64 r_4), (Value.int .u64 r_5), (Value.int .i64 r_6), (Value.int .i64 r_7), (Value.int .u32 r_8)]) h 0 0 rfl rfl rfl sz25 rfl rfl ?_
    intro w h
    dsimp only [setH, setVs, setV] at h
    refine ⟨_, cellL h 2 0 rfl rfl rfl, _, cellL h 2 1 rfl rfl rfl, _, cellL h 2 2 rfl rfl rfl, _, cellL h 2 3 rfl rfl rfl, _, cellL h 2 4 rfl rfl rfl, _, cellL h 2 5 rfl rfl rfl, _, cellL h 2 6 rfl rfl rfl, _, cellL h 2 7 rfl rfl rfl, ?_⟩
    refine pmp_Answer_ok h hp ?_
    rintro rs_3 p_4 n_4 c_4 w rfl h hp
    have cpp_4 := rowCap h 0 rfl
    refine ⟨_, _, _, rfl, ?_⟩
    refine pcp_ReadAnswer_ok (FL := row enc5 5 1 p_4 c_4 rs_3 :: cel b_5 25 [(Value.int .i64 r_1), (Value.int .i64 r_2), (Value.int .i64 r_3), (Value.int .i64 r_4), (Value.int .u64 r_5), (Value.int .i64 r_6), (Value.int .i64 r_7), (Value.int .u32 r_8)] :: row enc5 5 1 p_3 c_3 rs_2 :: cel b_4 25 [(Value.int .i64 0), (Value.int .i64 a_Inside), (Value.int .i64 a_Port), (Value.int .i64 a_Secs), (Value.int .u64 0), (Value.int .i64 0), (Value.int .i64 0), (Value.int .u32 0)] :: cel b_3 41 [(Value.int .u32 c_x), (Value.int .u32 c_x_1)] :: cel b_2 25 [(Value.int .i64 b_Ver), (Value.int .i64 b_Inside), (Value.int .i64 b_Port), (Value.int .i64 b_Secs), (Value.int .u64 b_Nonce), (Value.int .i64 b_Result), (Value.int .i64 b_Epoch), (Value.int .u32 b_Host)] :: cel b_1 25 [(Value.int .i64 a_Ver), (Value.int .i64 a_Inside), (Value.int .i64 a_Port), (Value.int .i64 a_Secs), (Value.int .u64 a_Nonce), (Value.int .i64 a_Result), (Value.int .i64 a_Epoch), (Value.int .u32 a_Host)] :: row enc5 5 1 p_1 c_1 rs :: FL) (fun w h => (rowRd h 0 encL5 rfl)) rfl cpp_4 h hp ?_
    intro r_11 r_12 r_13 r_14 r_15 r_16 r_17 r_18 r_19 w h hp
    refine ⟨_, _, _, _, _, _, _, _, _, rfl, ?_⟩
    refine newL (o := [(Value.int .i64 0), (Value.int .i64 0), (Value.int .i64 0), (Value.int .i64 0), (Value.int .u64 0), (Value.int .i64 0), (Value.int .i64 0), (Value.int .u32 0)]) h ?_
    intro b_6 w h
    refine storeL (ys := [(Value.int .i64 r_11), (Value.int .i64 r_12), (Value.int .i64 r_13), (Value.int .i64 r_14), (Value.int .u64 r_15), (Value.int .i64 r_16), (Value.int .i64 r_17), (Value.int .u32 r_18)]) h 0 0 rfl rfl rfl sz25 rfl rfl ?_
    intro w h
    dsimp only [setH, setVs, setV] at h
    refine pmp_ReadAsk_ok (FL := cel b_6 25 [(Value.int .i64 r_11), (Value.int .i64 r_12), (Value.int .i64 r_13), (Value.int .i64 r_14), (Value.int .u64 r_15), (Value.int .i64 r_16), (Value.int .i64 r_17), (Value.int .u32 r_18)] :: row enc5 5 1 p_4 c_4 rs_3 :: cel b_5 25 [(Value.int .i64 r_1), (Value.int .i64 r_2), (Value.int .i64 r_3), (Value.int .i64 r_4), (Value.int .u64 r_5), (Value.int .i64 r_6), (Value.int .i64 r_7), (Value.int .u32 r_8)] :: row enc5 5 1 p_3 c_3 rs_2 :: cel b_4 25 [(Value.int .i64 0), (Value.int .i64 a_Inside), (Value.int .i64 a_Port), (Value.int .i64 a_Secs), (Value.int .u64 0), (Value.int .i64 0), (Value.int .i64 0), (Value.int .u32 0)] :: cel b_3 41 [(Value.int .u32 c_x), (Value.int .u32 c_x_1)] :: cel b_2 25 [(Value.int .i64 b_Ver), (Value.int .i64 b_Inside), (Value.int .i64 b_Port), (Value.int .i64 b_Secs), (Value.int .u64 b_Nonce), (Value.int .i64 b_Result), (Value.int .i64 b_Epoch), (Value.int .u32 b_Host)] :: cel b_1 25 [(Value.int .i64 a_Ver), (Value.int .i64 a_Inside), (Value.int .i64 a_Port), (Value.int .i64 a_Secs), (Value.int .u64 a_Nonce), (Value.int .i64 a_Result), (Value.int .i64 a_Epoch), (Value.int .u32 a_Host)] :: row enc5 5 1 p_1 c_1 rs :: FL) (fun w h => (rowRd h 8 encL5 rfl)) rfl cpp_1 h hp ?_
    intro r_20 r_21 r_22 r_23 r_24 r_25 r_26 r_27 r_28 r_29 w h hp
    refine ⟨_, _, _, _, _, _, _, _, _, _, rfl, ?_⟩
    refine newL (o := [(Value.int .i64 0), (Value.int .i64 0), (Value.int .i64 0), (Value.int .i64 0), (Value.int .u64 0), (Value.int .i64 0), (Value.int .i64 0), (Value.int .u32 0)]) h ?_
    intro b_7 w h
    refine storeL (ys := [(Value.int .i64 r_20), (Value.int .i64 r_21), (Value.int .i64 r_22), (Value.int .i64 r_23), (Value.int .u64 r_24), (Value.int .i64 r_25), (Value.int .i64 r_26), (Value.int .u32 r_27)]) h 0 0 rfl rfl rfl sz25 rfl rfl ?_
    intro w h
    dsimp only [setH, setVs, setV] at h
    refine ⟨_, cellL h 8 0 rfl rfl rfl, _, cellL h 8 1 rfl rfl rfl, _, cellL h 8 2 rfl rfl rfl, _, cellL h 8 3 rfl rfl rfl, _, cellL h 8 4 rfl rfl rfl, _, cellL h 8 5 rfl rfl rfl, _, cellL h 8 6 rfl rfl rfl, _, cellL h 8 7 rfl rfl rfl, ?_⟩
    refine pcp_Answer_ok h hp ?_
    rintro rs_4 p_5 n_5 c_5 w rfl h hp
    have cpp_5 := rowCap h 0 rfl
    refine ⟨_, _, _, rfl, ?_⟩
    refine pmp_ReadAnswer_ok (FL := row enc5 5 1 p_5 c_5 rs_4 :: cel b_7 25 [(Value.int .i64 r_20), (Value.int .i64 r_21), (Value.int .i64 r_22), (Value.int .i64 r_23), (Value.int .u64 r_24), (Value.int .i64 r_25), (Value.int .i64 r_26), (Value.int .u32 r_27)] :: cel b_6 25 [(Value.int .i64 r_11), (Value.int .i64 r_12), (Value.int .i64 r_13), (Value.int .i64 r_14), (Value.int .u64 r_15), (Value.int .i64 r_16), (Value.int .i64 r_17), (Value.int .u32 r_18)] :: row enc5 5 1 p_4 c_4 rs_3 :: cel b_5 25 [(Value.int .i64 r_1), (Value.int .i64 r_2), (Value.int .i64 r_3), (Value.int .i64 r_4), (Value.int .u64 r_5), (Value.int .i64 r_6), (Value.int .i64 r_7), (Value.int .u32 r_8)] :: row enc5 5 1 p_3 c_3 rs_2 :: cel b_4 25 [(Value.int .i64 0), (Value.int .i64 a_Inside), (Value.int .i64 a_Port), (Value.int .i64 a_Secs), (Value.int .u64 0), (Value.int .i64 0), (Value.int .i64 0), (Value.int .u32 0)] :: cel b_3 41 [(Value.int .u32 c_x), (Value.int .u32 c_x_1)] :: cel b_2 25 [(Value.int .i64 b_Ver), (Value.int .i64 b_Inside), (Value.int .i64 b_Port), (Value.int .i64 b_Secs), (Value.int .u64 b_Nonce), (Value.int .i64 b_Result), (Value.int .i64 b_Epoch), (Value.int .u32 b_Host)] :: cel b_1 25 [(Value.int .i64 a_Ver), (Value.int .i64 a_Inside), (Value.int .i64 a_Port), (Value.int .i64 a_Secs), (Value.int .u64 a_Nonce), (Value.int .i64 a_Result), (Value.int .i64 a_Epoch), (Value.int .u32 a_Host)] :: row enc5 5 1 p_1 c_1 rs :: FL) (fun w h => (rowRd h 0 encL5 rfl)) rfl cpp_5 h hp ?_
    intro r_30 r_31 r_32 r_33 r_34 r_35 r_36 r_37 r_38 r_39 w h hp
    refine ⟨_, _, _, _, _, _, _, _, _, _, rfl, ?_⟩
    refine newL (o := [(Value.int .i64 0), (Value.int .i64 0), (Value.int .i64 0), (Value.int .i64 0), (Value.int .u64 0), (Value.int .i64 0), (Value.int .i64 0), (Value.int .u32 0)]) h ?_
    intro b_8 w h
    refine storeL (ys := [(Value.int .i64 r_30), (Value.int .i64 r_31), (Value.int .i64 r_32), (Value.int .i64 r_33), (Value.int .u64 r_34), (Value.int .i64 r_35), (Value.int .i64 r_36), (Value.int .u32 r_37)]) h 0 0 rfl rfl rfl sz25 rfl rfl ?_
    intro w h
    dsimp only [setH, setVs, setV] at h
    refine cond_both' hp (fun hp => ?_) (fun hp => ?_)
    · replace h := h.sel [] 12
      dsimp only [pickL, pickR, nthH, delH, dropH, List.cons_append, List.nil_append] at h
      exact hR false _ h hp
    refine cond_both' hp (fun hp => ?_) (fun hp => ?_)
    · replace h := h.sel [] 12
      dsimp only [pickL, pickR, nthH, delH, dropH, List.cons_append, List.nil_append] at h
      exact hR false _ h hp
    refine cond_both hp (fun hp => ?_) (fun hp => ?_)
    · replace h := h.sel [] 12
      dsimp only [pickL, pickR, nthH, delH, dropH, List.cons_append, List.nil_append] at h
      exact hR ((r_39 : Int) == 3) _ h hp
    replace h := h.sel [] 12
    dsimp only [pickL, pickR, nthH, delH, dropH, List.cons_append, List.nil_append] at h
    exact hR false _ h hp
  clear hq
  obtain ⟨Q_1, hq, hp⟩ := hp
  refine ⟨fun a3_1 x7_1p x7_1l x7_1c t54 w => (Addr.mk b_1 0 none) = a3_1 ∧ p_1 = x7_1p ∧ rs.length = x7_1l ∧ c_1 = x7_1c ∧ Q_1 t54 ∧ Mem (cel b_3 41 [(Value.int .u32 c_x), (Value.int .u32 c_x_1)] :: cel b_2 25 [(Value.int .i64 b_Ver), (Value.int .i64 b_Inside), (Value.int .i64 b_Port), (Value.int .i64 b_Secs), (Value.int .u64 b_Nonce), (Value.int .i64 b_Result), (Value.int .i64 b_Epoch), (Value.int .u32 b_Host)] :: cel b_1 25 [(Value.int .i64 a_Ver), (Value.int .i64 a_Inside), (Value.int .i64 a_Port), (Value.int .i64 a_Secs), (Value.int .u64 a_Nonce), (Value.int .i64 a_Result), (Value.int .i64 a_Epoch), (Value.int .u32 a_Host)] :: row enc5 5 1 p_1 c_1 rs :: FL) w, ?_, ?_⟩
  · rintro a3_1 x7_1p x7_1l x7_1c t54 w ⟨rfl, rfl, rfl, rfl, hp, h⟩
    replace hp := hq t54 hp
    unfold embrasurelaw10_PcpApart_j2
    refine cond_both' hp (fun hp => ?_) (fun hp => ?_)
    · exact ⟨rfl, rfl, rfl, rfl, hp, h⟩
    replace h := h.sel [] 4
    dsimp only [pickL, pickR, nthH, delH, dropH, List.cons_append, List.nil_append] at h
    exact hR false _ h hp
  clear hq
  replace h := h.drew
  refine ⟨fun w => Mem (cel b_1 25 [(Value.int .i64 a_Ver), (Value.int .i64 a_Inside), (Value.int .i64 a_Port), (Value.int .i64 a_Secs), (Value.int .u64 a_Nonce), (Value.int .i64 a_Result), (Value.int .i64 a_Epoch), (Value.int .u32 a_Host)] :: cel b_2 25 [(Value.int .i64 b_Ver), (Value.int .i64 b_Inside), (Value.int .i64 b_Port), (Value.int .i64 b_Secs), (Value.int .u64 b_Nonce), (Value.int .i64 b_Result), (Value.int .i64 b_Epoch), (Value.int .u32 b_Host)] :: cel b_3 41 [(Value.int .u32 c_x), (Value.int .u32 c_x_1)] :: FL) w, (h.sel [4, 3, 2] 2), ?_⟩
  refine ⟨rfl, ?_⟩
  refine cond_both' hp (fun hp => ?_) (fun hp => ?_)
  · replace h := h.sel [2, 2, 2, 1] 1
    dsimp only [pickL, pickR, nthH, delH, dropH, List.cons_append, List.nil_append] at h
    exact ⟨rfl, rfl, rfl, rfl, hp, h⟩
  refine ⟨rfl, ?_⟩
  refine cond_both' hp (fun hp => ?_) (fun hp => ?_)
  · replace h := h.sel [2, 2, 2, 1] 1
    dsimp only [pickL, pickR, nthH, delH, dropH, List.cons_append, List.nil_append] at h
    exact ⟨rfl, rfl, rfl, rfl, hp, h⟩
  refine ⟨_, cellL h 4 0 rfl rfl rfl, _, cellL h 4 1 rfl rfl rfl, _, cellL h 4 2 rfl rfl rfl, _, cellL h 4 3 rfl rfl rfl, _, cellL h 4 4 rfl rfl rfl, _, cellL h 4 5 rfl rfl rfl, _, cellL h 4 6 rfl rfl rfl, _, cellL h 4 7 rfl rfl rfl, ?_⟩
  refine ⟨?_, ?_⟩
  · intro w h
    change Mem _ _ at h
    refine ⟨_, cellL h 0 0 rfl rfl rfl, _, cellL h 0 1 rfl rfl rfl, _, cellL h 0 2 rfl rfl rfl, _, cellL h 0 3 rfl rfl rfl, _, cellL h 0 4 rfl rfl rfl, _, cellL h 0 5 rfl rfl rfl, _, cellL h 0 6 rfl rfl rfl, _, cellL h 0 7 rfl rfl rfl, ?_⟩
    exact ⟨rfl, rfl⟩
  refine ⟨_, cellL h 3 0 rfl rfl rfl, _, cellL h 3 1 rfl rfl rfl, _, cellL h 3 2 rfl rfl rfl, _, cellL h 3 3 rfl rfl rfl, _, cellL h 3 4 rfl rfl rfl, _, cellL h 3 5 rfl rfl rfl, _, cellL h 3 6 rfl rfl rfl, _, cellL h 3 7 rfl rfl rfl, ?_⟩
  refine ⟨?_, ?_⟩
  · intro w h
    change Mem _ _ at h
    refine ⟨_, cellL h 1 0 rfl rfl rfl, _, cellL h 1 1 rfl rfl rfl, _, cellL h 1 2 rfl rfl rfl, _, cellL h 1 3 rfl rfl rfl, _, cellL h 1 4 rfl rfl rfl, _, cellL h 1 5 rfl rfl rfl, _, cellL h 1 6 rfl rfl rfl, _, cellL h 1 7 rfl rfl rfl, ?_⟩
    exact ⟨rfl, rfl⟩
  refine eqlAgg (xs := [(Value.int .i64 a_Ver), (Value.int .i64 a_Inside), (Value.int .i64 a_Port), (Value.int .i64 a_Secs), (Value.int .u64 a_Nonce), (Value.int .i64 a_Result), (Value.int .i64 a_Epoch), (Value.int .u32 a_Host)]) (ys := [(Value.int .i64 b_Ver), (Value.int .i64 b_Inside), (Value.int .i64 b_Port), (Value.int .i64 b_Secs), (Value.int .u64 b_Nonce), (Value.int .i64 b_Result), (Value.int .i64 b_Epoch), (Value.int .u32 b_Host)]) eqG25 eqA25 (eqT25 a_Ver a_Inside a_Port a_Secs a_Nonce a_Result a_Epoch a_Host b_Ver b_Inside b_Port b_Secs b_Nonce b_Result b_Epoch b_Host) ?_
  refine ⟨_, rfl, ?_⟩
  refine ⟨?_, ?_⟩
  · intro w h
    change Mem _ _ at h
    refine eqlAgg (xs := [(Value.int .i64 a_Ver), (Value.int .i64 a_Inside), (Value.int .i64 a_Port), (Value.int .i64 a_Secs), (Value.int .u64 a_Nonce), (Value.int .i64 a_Result), (Value.int .i64 a_Epoch), (Value.int .u32 a_Host)]) (ys := [(Value.int .i64 b_Ver), (Value.int .i64 b_Inside), (Value.int .i64 b_Port), (Value.int .i64 b_Secs), (Value.int .u64 b_Nonce), (Value.int .i64 b_Result), (Value.int .i64 b_Epoch), (Value.int .u32 b_Host)]) eqG25 eqA25 (eqT25 a_Ver a_Inside a_Port a_Secs a_Nonce a_Result a_Epoch a_Host b_Ver b_Inside b_Port b_Secs b_Nonce b_Result b_Epoch b_Host) ?_
    refine ⟨_, rfl, ?_⟩
    exact ⟨rfl, rfl⟩
  refine embrasureref01_Same_ok (FL := row enc5 5 1 p_2 c_2 rs_1 :: row enc5 5 1 p_1 c_1 rs :: cel b_3 41 [(Value.int .u32 c_x), (Value.int .u32 c_x_1)] :: cel b_2 25 [(Value.int .i64 b_Ver), (Value.int .i64 b_Inside), (Value.int .i64 b_Port), (Value.int .i64 b_Secs), (Value.int .u64 b_Nonce), (Value.int .i64 b_Result), (Value.int .i64 b_Epoch), (Value.int .u32 b_Host)] :: cel b_1 25 [(Value.int .i64 a_Ver), (Value.int .i64 a_Inside), (Value.int .i64 a_Port), (Value.int .i64 a_Secs), (Value.int .u64 a_Nonce), (Value.int .i64 a_Result), (Value.int .i64 a_Epoch), (Value.int .u32 a_Host)] :: FL) (fun w h => (rowRd h 1 encL5 rfl)) rfl cpp_1 (fun w h => (rowRd h 0 encL5 rfl)) rfl cpp_2 h hp ?_
  intro r_40 w h hp
  refine ⟨_, rfl, ?_⟩
  refine ⟨(h.sel [4, 3, 2] 2), ?_⟩
  refine cond_both' hp (fun hp => ?_) (fun hp => ?_)
  · refine neqBool undB4 ?_
    refine ⟨_, rfl, ?_⟩
    refine ⟨?_, ?_⟩
    · intro w h
      change Mem _ _ at h
      refine neqBool undB4 ?_
      refine ⟨_, rfl, ?_⟩
      exact ⟨rfl, rfl⟩
    replace h := h.sel [2, 2, 2, 1] 1
    dsimp only [pickL, pickR, nthH, delH, dropH, List.cons_append, List.nil_append] at h
    exact ⟨rfl, rfl, rfl, rfl, hp, h⟩
  refine ⟨by decide, by decide, ?_⟩
  refine ⟨_, cellL h 2 0 rfl rfl rfl, ?_⟩
  refine ⟨?_, ?_⟩
  · intro w h
    change Mem _ _ at h
    refine ⟨_, cellL h 2 0 rfl rfl rfl, ?_⟩
    exact ⟨rfl, rfl⟩
  refine ⟨by decide, by decide, ?_⟩
  refine ⟨_, cellL h 2 1 rfl rfl rfl, ?_⟩
  refine ⟨?_, ?_⟩
  · intro w h
    change Mem _ _ at h
    refine ⟨_, cellL h 2 1 rfl rfl rfl, ?_⟩
    exact ⟨rfl, rfl⟩
  refine neqBool undB4 ?_
  refine ⟨_, rfl, ?_⟩
  refine ⟨?_, ?_⟩
  · intro w h
    change Mem _ _ at h
    refine neqBool undB4 ?_
    refine ⟨_, rfl, ?_⟩
    exact ⟨rfl, rfl⟩
  replace h := h.sel [2, 2, 2, 1] 1
  dsimp only [pickL, pickR, nthH, delH, dropH, List.cons_append, List.nil_append] at h
  exact ⟨rfl, rfl, rfl, rfl, hp, h⟩

end Go.Proofs.Ytdacemiaihidaaa
