/- Each function over plain data (printed by a program of this claim's author). -/
import Derived.Test.YtnmdnkmemjfoeaaL3
namespace Go.Proofs.Ytnmdnkmemjfoeaa
open Go Go.Eng Go.Proofs
set_option maxRecDepth 100000
set_option maxHeartbeats 2000000
def embrasureref08_Same_wp (a_1 : List (Int × Int × Int × Int × Int × Int × Bool)) (b_1 : List (Int × Int × Int × Int × Int × Int × Bool)) (K : Bool → Prop) : Prop :=
  cond ((((a_1.length : Nat) : Int) : Int) != ((b_1.length : Nat) : Int)) (K false) (∃ (I : Nat → Int → Prop), (∃ (n_5 : Nat), I n_5 0) ∧ ∀ (n_3 : Nat) (i5 : Int), I n_3 i5 → (cond (decide (i5 < ((a_1.length : Nat) : Int))) (0 ≤ i5 ∧ (i5 : Int) < ((a_1.length : Nat) : Int) ∧ (∀ (x_1 : Int × Int × Int × Int × Int × Int × Bool), a_1[Int.toNat i5]? = some x_1 → (0 ≤ i5 ∧ (i5 : Int) < ((b_1.length : Nat) : Int) ∧ (∀ (x_2 : Int × Int × Int × Int × Int × Int × Bool), b_1[Int.toNat i5]? = some x_2 → (cond (!((((x_1.1 : Int) == x_2.1) && (((x_1.2.1 : Int) == x_2.2.1) && true)) && ((((x_1.2.2.1 : Int) == x_2.2.2.1) && (((x_1.2.2.2.1 : Int) == x_2.2.2.2.1) && true)) && (((x_1.2.2.2.2.1 : Int) == x_2.2.2.2.2.1) && (((x_1.2.2.2.2.2.1 : Int) == x_2.2.2.2.2.2.1) && ((x_1.2.2.2.2.2.2 == x_2.2.2.2.2.2.2) && true)))))) (K false) (∃ (n_4 : Nat), n_4 < n_3 ∧ I n_4 (IntKind.wrap .i64 (i5 + 1)))))))) (K true)))
theorem embrasureref08_Same_ok {p_1 : Option Addr} {n_1 c_1 : Nat} {p_2 : Option Addr} {n_2 c_2 : Nat} {a_1 : List (Int × Int × Int × Int × Int × Int × Bool)} {b_1 : List (Int × Int × Int × Int × Int × Int × Bool)} {FL : List HP} {w : World} {K : Bool → Prop} {R : Value → World → Prop}
  (hF_a_1 : ∀ w, Mem FL w → Rd w 7 p_1 enc55 a_1) (hl_a_1 : n_1 = a_1.length) (hc_a_1 : n_1 ≤ c_1)
  (hF_b_1 : ∀ w, Mem FL w → Rd w 7 p_2 enc55 b_1) (hl_b_1 : n_2 = b_1.length) (hc_b_1 : n_2 ≤ c_2)
  (h : Mem (FL) w) (hp : embrasureref08_Same_wp a_1 b_1 K)
  (hR : ∀ (r : Bool) (w : World), Mem (FL) w → K r → R (Value.bool r) w) :
  CallV Try.prog 15 #[Value.slice p_1 n_1 c_1, Value.slice p_2 n_2 c_2] w R := by
  refine embrasureref08_Same_call ?_
  unfold embrasureref08_Same
  unfold embrasureref08_Same_wp at hp
  subst hl_a_1
  subst hl_b_1
  refine cond_both hp (fun hp => ?_) (fun hp => ?_)
  · exact hR false _ h hp
  obtain ⟨I, ⟨n_5, h0⟩, hq⟩ := hp
  refine ⟨fun n_3 a0p a0l a0c b1p b1l b1c i5 w => p_1 = a0p ∧ a_1.length = a0l ∧ c_1 = a0c ∧ p_2 = b1p ∧ b_1.length = b1l ∧ c_2 = b1c ∧ I n_3 i5 ∧ Mem (FL) w, ⟨n_5, rfl, rfl, rfl, rfl, rfl, rfl, h0, h⟩, ?_⟩
  clear h0 h
  rintro n_3 a0p a0l a0c b1p b1l b1c i5 w ⟨rfl, rfl, rfl, rfl, rfl, rfl, hp, h⟩
  replace hp := hq n_3 i5 hp
  clear hq
  unfold embrasureref08_Same_l1
  refine cond_both' hp (fun hp => ?_) (fun hp => ?_)
  · exact hR true _ h hp
  replace h := h.drew
  obtain ⟨ia_2, ja_2, hp⟩ := hp
  obtain ⟨a_2, ha_2⟩ := rdAddr (hF_a_1 _ (h.drop 0)) rfl ia_2 ja_2
  refine ⟨a_2, ha_2, ia_2, ja_2, ?_⟩
  obtain ⟨x_1, hx_1, hc⟩ := rdCell (hF_a_1 _ (h.drop 0)) ha_2 rfl ia_2 ja_2
  replace hp := hp x_1 hx_1
  refine ⟨_, hc 0 _ rfl, _, hc 1 _ rfl, _, hc 2 _ rfl, _, hc 3 _ rfl, _, hc 4 _ rfl, _, hc 5 _ rfl, _, hc 6 _ rfl, ?_⟩
  obtain ⟨ia_3, ja_3, hp⟩ := hp
  obtain ⟨a_3, ha_3⟩ := rdAddr (hF_b_1 _ (h.drop 0)) rfl ia_3 ja_3
  refine ⟨a_3, ha_3, ia_3, ja_3, ?_⟩
  obtain ⟨x_2, hx_2, hc⟩ := rdCell (hF_b_1 _ (h.drop 0)) ha_3 rfl ia_3 ja_3
  replace hp := hp x_2 hx_2
  refine ⟨_, hc 0 _ rfl, _, hc 1 _ rfl, _, hc 2 _ rfl, _, hc 3 _ rfl, _, hc 4 _ rfl, _, hc 5 _ rfl, _, hc 6 _ rfl, ?_⟩
  refine neqAgg (xs := [Value.int .u32 x_1.1, Value.int .i64 x_1.2.1, Value.int .u32 x_1.2.2.1, Value.int .i64 x_1.2.2.2.1, Value.int .i64 x_1.2.2.2.2.1, Value.int .i64 x_1.2.2.2.2.2.1, Value.bool x_1.2.2.2.2.2.2]) (ys := [Value.int .u32 x_2.1, Value.int .i64 x_2.2.1, Value.int .u32 x_2.2.2.1, Value.int .i64 x_2.2.2.2.1, Value.int .i64 x_2.2.2.2.2.1, Value.int .i64 x_2.2.2.2.2.2.1, Value.bool x_2.2.2.2.2.2.2]) eqG55 eqA55 (eqT55 x_1.1 x_1.2.1 x_1.2.2.1 x_1.2.2.2.1 x_1.2.2.2.2.1 x_1.2.2.2.2.2.1 x_1.2.2.2.2.2.2 x_2.1 x_2.2.1 x_2.2.2.1 x_2.2.2.2.1 x_2.2.2.2.2.1 x_2.2.2.2.2.2.1 x_2.2.2.2.2.2.2) ?_
  refine ⟨_, rfl, ?_⟩
  refine ⟨rfl, ?_⟩
  refine cond_both hp (fun hp => ?_) (fun hp => ?_)
  · exact hR false _ h hp
  obtain ⟨n_4, hn, hp⟩ := hp
  exact ⟨n_4, hn, rfl, rfl, rfl, rfl, rfl, rfl, hp, h⟩
def pcp_ReadAnswer_wp (b_1 : List (Int)) (K : Int → Int → Int → Int → Int → Int → Int → Int → Int → Prop) : Prop :=
  cond ((((b_1.length : Nat) : Int) : Int) != 60) (K 0 0 0 0 0 0 0 0 3) (pcp_mapped_wp b_1 (fun (r r_1 r_2 r_3 r_4 r_5 r_6 r_7 : Int) => 0 ≤ (3 : Int) ∧ (3 : Int) < ((b_1.length : Nat) : Int) ∧ (∀ (x_2 : Int), b_1[Int.toNat 3]? = some x_2 → (0 ≤ (12 : Int) ∧ (12 : Int) ≤ ((b_1.length : Nat) : Int) ∧ 0 ≤ (8 : Int) ∧ (8 : Int) ≤ (12 : Int) ∧ (pcp_get_wp ((b_1.take (Int.toNat 12)).drop (Int.toNat 8)) (fun (r_8 : Int) => pcp_Answer_wp r r_1 r_2 r_3 r_4 (IntKind.wrap .i64 x_2) (IntKind.wrap .i64 r_8) r_7 (fun (rs : List (Int)) => bytes_Equal_wp rs b_1 (fun (r_9 : Bool) => cond (!r_9) (K 0 0 0 0 0 0 0 0 3) (K r r_1 r_2 r_3 r_4 (IntKind.wrap .i64 x_2) (IntKind.wrap .i64 r_8) r_7 0)))))))))
theorem pcp_ReadAnswer_ok {p_1 : Option Addr} {n_1 c_1 : Nat} {b_1 : List (Int)} {FL : List HP} {w : World} {K : Int → Int → Int → Int → Int → Int → Int → Int → Int → Prop} {R : Value → World → Prop}
  (hF_b_1 : ∀ w, Mem FL w → Rd w 1 p_1 enc5 b_1) (hl_b_1 : n_1 = b_1.length) (hc_b_1 : n_1 ≤ c_1)
  (h : Mem (FL) w) (hp : pcp_ReadAnswer_wp b_1 K)
  (hR : ∀ (r r_1 r_2 r_3 r_4 r_5 r_6 r_7 r_8 : Int) (w : World), Mem (FL) w → K r r_1 r_2 r_3 r_4 r_5 r_6 r_7 r_8 → R (Value.tuple #[(Value.agg #[Value.int .i64 r, Value.int .i64 r_1, Value.int .i64 r_2, Value.int .i64 r_3, Value.int .u64 r_4, Value.int .i64 r_5, Value.int .i64 r_6, Value.int .u32 r_7]), Value.int .i64 r_8]) w) :
  CallV Try.prog 16 #[Value.slice p_1 n_1 c_1] w R := by
  refine pcp_ReadAnswer_call ?_
  unfold pcp_ReadAnswer
  unfold pcp_ReadAnswer_wp at hp
  subst hl_b_1
  refine newL (o := [Value.int .i64 0, Value.int .i64 0, Value.int .i64 0, Value.int .i64 0, Value.int .u64 0, Value.int .i64 0, Value.int .i64 0, Value.int .u32 0]) h ?_
  intro b_2 w h
  refine cond_both hp (fun hp => ?_) (fun hp => ?_)
  · refine storeL (ys := [Value.int .i64 0, Value.int .i64 0, Value.int .i64 0, Value.int .i64 0, Value.int .u64 0, Value.int .i64 0, Value.int .i64 0, Value.int .u32 0]) h 0 0 rfl rfl rfl sz41 rfl rfl ?_
    intro w h
    dsimp only [setH, setVs, setV] at h
    refine ⟨_, cellL h 0 0 rfl rfl rfl, _, cellL h 0 1 rfl rfl rfl, _, cellL h 0 2 rfl rfl rfl, _, cellL h 0 3 rfl rfl rfl, _, cellL h 0 4 rfl rfl rfl, _, cellL h 0 5 rfl rfl rfl, _, cellL h 0 6 rfl rfl rfl, _, cellL h 0 7 rfl rfl rfl, ?_⟩
    replace h := h.sel [] 1
    dsimp only [pickL, pickR, nthH, delH, dropH, List.cons_append, List.nil_append] at h
    exact hR 0 0 0 0 0 0 0 0 3 _ h hp
  refine pcp_mapped_ok (FL := cel b_2 41 [Value.int .i64 0, Value.int .i64 0, Value.int .i64 0, Value.int .i64 0, Value.int .u64 0, Value.int .i64 0, Value.int .i64 0, Value.int .u32 0] :: FL) (fun w h => (hF_b_1 _ (h.drop 1))) rfl hc_b_1 h hp ?_
  intro r r_1 r_2 r_3 r_4 r_5 r_6 r_7 w h hp
  refine ⟨_, _, _, _, _, _, _, _, rfl, ?_⟩
  refine newL (o := [Value.int .i64 0, Value.int .i64 0, Value.int .i64 0, Value.int .i64 0, Value.int .u64 0, Value.int .i64 0, Value.int .i64 0, Value.int .u32 0]) h ?_
  intro b_3 w h
  refine storeL (ys := [Value.int .i64 r, Value.int .i64 r_1, Value.int .i64 r_2, Value.int .i64 r_3, Value.int .u64 r_4, Value.int .i64 r_5, Value.int .i64 r_6, Value.int .u32 r_7]) h 0 0 rfl rfl rfl sz41 rfl rfl ?_
  intro w h
  dsimp only [setH, setVs, setV] at h
  replace h := h.drew
  refine ⟨fun w => Mem (FL) w, (h.sel [] 2), ?_⟩
  obtain ⟨ia_1, ja_1, hp⟩ := hp
  obtain ⟨a_1, ha_1⟩ := rdAddr (hF_b_1 _ (h.drop 2)) rfl ia_1 ja_1
  refine ⟨a_1, ha_1, ia_1, ja_1, ?_⟩
  obtain ⟨x_2, hx_2, hc⟩ := rdCell0 (hF_b_1 _ (h.drop 2)) ha_1 rfl ia_1 ja_1
  replace hp := hp x_2 hx_2
  refine ⟨_, hc _ rfl, ?_⟩
  refine ⟨?_, ?_⟩
  · intro w h
    change Mem _ _ at h
    obtain ⟨x_1, hx_1, hcq⟩ := rdCell0 (hF_b_1 _ (h.drop 0)) ha_1 rfl ia_1 ja_1
    obtain rfl : x_1 = x_2 := Option.some.inj (hx_1.symm.trans hx_2)
    refine ⟨_, hcq _ rfl, ?_⟩
    exact ⟨rfl, rfl⟩
  obtain ⟨g_1ha, g_1hb, g_1la, g_1lb, hp⟩ := hp
  have vg_1_lh : (Int.toNat 8) ≤ (Int.toNat 12) := (natLe2 g_1la g_1ha g_1lb)
  have vg_1_hm : (Int.toNat 12) ≤ c_1 := (Nat.le_trans (natLe g_1ha g_1hb) hc_b_1)
  have vg_1_mc : c_1 ≤ c_1 := (Nat.le_refl _)
  have vg_1_hl : (Int.toNat 12) ≤ b_1.length := (leLen g_1ha g_1hb rfl)
  refine ⟨g_1ha, (leCap g_1hb hc_b_1), g_1la, (leNat g_1ha g_1lb), ?_⟩
  refine pcp_get_ok (FL := cel b_3 41 [Value.int .i64 r, Value.int .i64 r_1, Value.int .i64 r_2, Value.int .i64 r_3, Value.int .u64 r_4, Value.int .i64 r_5, Value.int .i64 r_6, Value.int .u32 r_7] :: cel b_2 41 [Value.int .i64 0, Value.int .i64 0, Value.int .i64 0, Value.int .i64 0, Value.int .u64 0, Value.int .i64 0, Value.int .i64 0, Value.int .u32 0] :: FL) (fun w h => (Rd.view (hF_b_1 _ (h.drop 2)) (l := (Int.toNat 8)) (h := (Int.toNat 12)) (m := c_1) vg_1_hm)) (viewLen vg_1_hl) (Nat.sub_le_sub_right vg_1_hm _) h hp ?_
  intro r_8 w h hp
  refine ⟨_, rfl, ?_⟩
  refine ⟨(h.sel [] 2), ?_⟩
  refine storeL (ys := [Value.int .i64 (IntKind.wrap .i64 x_2)]) h 0 5 rfl rfl rfl sz3 rfl rfl ?_
  intro w h
  dsimp only [setH, setVs, setV] at h
  refine storeL (ys := [Value.int .i64 (IntKind.wrap .i64 r_8)]) h 0 6 rfl rfl rfl sz3 rfl rfl ?_
  intro w h
  dsimp only [setH, setVs, setV] at h
  refine ⟨_, cellL h 0 0 rfl rfl rfl, _, cellL h 0 1 rfl rfl rfl, _, cellL h 0 2 rfl rfl rfl, _, cellL h 0 3 rfl rfl rfl, _, cellL h 0 4 rfl rfl rfl, _, cellL h 0 5 rfl rfl rfl, _, cellL h 0 6 rfl rfl rfl, _, cellL h 0 7 rfl rfl rfl, ?_⟩
  refine pcp_Answer_ok h hp ?_
  rintro rs p_2 n_2 c_2 w rfl h hp
  have cpp_2 := rowCap h 0 rfl
  refine ⟨_, _, _, rfl, ?_⟩
  refine bytes_Equal_ok (FL := row enc5 5 1 p_2 c_2 rs :: cel b_3 41 [Value.int .i64 r, Value.int .i64 r_1, Value.int .i64 r_2, Value.int .i64 r_3, Value.int .u64 r_4, Value.int .i64 (IntKind.wrap .i64 x_2), Value.int .i64 (IntKind.wrap .i64 r_8), Value.int .u32 r_7] :: cel b_2 41 [Value.int .i64 0, Value.int .i64 0, Value.int .i64 0, Value.int .i64 0, Value.int .u64 0, Value.int .i64 0, Value.int .i64 0, Value.int .u32 0] :: FL) (fun w h => (rowRd h 0 encL5 rfl)) rfl cpp_2 (fun w h => (hF_b_1 _ (h.drop 3))) rfl hc_b_1 h hp ?_
  intro r_9 w h hp
  refine ⟨_, rfl, ?_⟩
  refine cond_both hp (fun hp => ?_) (fun hp => ?_)
  · refine storeL (ys := [Value.int .i64 0, Value.int .i64 0, Value.int .i64 0, Value.int .i64 0, Value.int .u64 0, Value.int .i64 0, Value.int .i64 0, Value.int .u32 0]) h 2 0 rfl rfl rfl sz41 rfl rfl ?_
    intro w h
    dsimp only [setH, setVs, setV] at h
    refine ⟨_, cellL h 2 0 rfl rfl rfl, _, cellL h 2 1 rfl rfl rfl, _, cellL h 2 2 rfl rfl rfl, _, cellL h 2 3 rfl rfl rfl, _, cellL h 2 4 rfl rfl rfl, _, cellL h 2 5 rfl rfl rfl, _, cellL h 2 6 rfl rfl rfl, _, cellL h 2 7 rfl rfl rfl, ?_⟩
    replace h := h.sel [] 3
    dsimp only [pickL, pickR, nthH, delH, dropH, List.cons_append, List.nil_append] at h
    exact hR 0 0 0 0 0 0 0 0 3 _ h hp
  refine ⟨_, cellL h 1 0 rfl rfl rfl, _, cellL h 1 1 rfl rfl rfl, _, cellL h 1 2 rfl rfl rfl, _, cellL h 1 3 rfl rfl rfl, _, cellL h 1 4 rfl rfl rfl, _, cellL h 1 5 rfl rfl rfl, _, cellL h 1 6 rfl rfl rfl, _, cellL h 1 7 rfl rfl rfl, ?_⟩
  refine storeL (ys := [Value.int .i64 r, Value.int .i64 r_1, Value.int .i64 r_2, Value.int .i64 r_3, Value.int .u64 r_4, Value.int .i64 (IntKind.wrap .i64 x_2), Value.int .i64 (IntKind.wrap .i64 r_8), Value.int .u32 r_7]) h 2 0 rfl rfl rfl sz41 rfl rfl ?_
  intro w h
  dsimp only [setH, setVs, setV] at h
  refine ⟨_, cellL h 2 0 rfl rfl rfl, _, cellL h 2 1 rfl rfl rfl, _, cellL h 2 2 rfl rfl rfl, _, cellL h 2 3 rfl rfl rfl, _, cellL h 2 4 rfl rfl rfl, _, cellL h 2 5 rfl rfl rfl, _, cellL h 2 6 rfl rfl rfl, _, cellL h 2 7 rfl rfl rfl, ?_⟩
  replace h := h.sel [] 3
  dsimp only [pickL, pickR, nthH, delH, dropH, List.cons_append, List.nil_append] at h
  exact hR r r_1 r_2 r_3 r_4 (IntKind.wrap .i64 x_2) (IntKind.wrap .i64 r_8) r_7 0 _ h hp
end Go.Proofs.Ytnmdnkmemjfoeaa
