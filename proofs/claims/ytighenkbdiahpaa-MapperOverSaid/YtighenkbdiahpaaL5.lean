/- Each function over plain data (printed by a program of this claim's author). -/
import Derived.Test.YtighenkbdiahpaaL4
namespace Go.Proofs.Ytighenkbdiahpaa
open Go Go.Eng Go.Proofs
set_option maxRecDepth 100000
set_option maxHeartbeats 2000000

/-! embrasure/pcp.get (35) -/
def pcp_get_wp (b_1 : List (Int)) (K : Int → Prop) : Prop :=
  ∃ (I : Nat → Int → Int → Prop), (∃ (n_4 : Nat), I n_4 0 0) ∧ ∀ (n_2 : Nat) (v3 : Int) (t8 : Int), I n_2 v3 t8 → (cond (decide ((t8 : Int) < ((b_1.length : Nat) : Int))) (0 ≤ (t8 : Int) ∧ (t8 : Int) < ((b_1.length : Nat) : Int) ∧ (∀ (x_1 : Int), b_1[Int.toNat t8]? = some x_1 → (∃ (n_3 : Nat), n_3 < n_2 ∧ I n_3 (bitsV .or .u64 (IntKind.wrap .u64 (v3 * 2 ^ (min (Int.toNat 8) (IntKind.bits .u64)))) (IntKind.wrap .u64 x_1)) (IntKind.wrap .i64 (t8 + 1))))) (K v3))
theorem pcp_get_ok {p_1 : Option Addr} {n_1 : Nat} {c_1 : Nat} {b_1 : List (Int)} {FL : List HP} {w : World} {K : Int → Prop} {R : Value → World → Prop}
  (hF_b_1 : ∀ w, Mem FL w → Rd w 1 p_1 enc5 b_1) (hl_b_1 : n_1 = b_1.length) (hc_b_1 : n_1 ≤ c_1)
  (h : Mem (FL) w) (hp : pcp_get_wp b_1 K)
  (hR : ∀ (r : Int) (w : World), Mem (FL) w → K r → R (Value.int .u64 r) w) :
  CallV Try.prog 35 #[(Value.slice p_1 n_1 c_1)] w R := by
  refine pcp_get_call ?_
  unfold pcp_get
  unfold pcp_get_wp at hp
  subst hl_b_1
  obtain ⟨I, ⟨n_4, h0⟩, hq⟩ := hp
  refine ⟨fun n_2 v3 t6p t6l t6c t7 t8 w => p_1 = t6p ∧ b_1.length = t6l ∧ c_1 = t6c ∧ ((b_1.length : Nat) : Int) = t7 ∧ I n_2 v3 t8 ∧ Mem (FL) w, ⟨n_4, rfl, rfl, rfl, rfl, h0, h⟩, ?_⟩
  clear h0 h
  rintro n_2 v3 t6p t6l t6c t7 t8 w ⟨rfl, rfl, rfl, rfl, hp, h⟩
  replace hp := hq n_2 v3 t8 hp
  clear hq
  unfold pcp_get_l1
  refine cond_both' hp (fun hp => ?_) (fun hp => ?_)
  · exact hR v3 _ h hp
  obtain ⟨ia_1, ja_1, hp⟩ := hp
  obtain ⟨a_1, ha_1⟩ := rdAddr (hF_b_1 _ (h.drop 0)) rfl ia_1 ja_1
  refine ⟨a_1, ha_1, ia_1, ja_1, ?_⟩
  obtain ⟨x_1, hx_1, hc⟩ := rdCell0 (hF_b_1 _ (h.drop 0)) ha_1 rfl ia_1 ja_1
  replace hp := hp x_1 hx_1
  refine ⟨_, hc _ rfl, ?_⟩
  refine ⟨by decide, ?_⟩
  obtain ⟨n_3, hn, hp⟩ := hp
  exact ⟨n_3, hn, rfl, rfl, rfl, rfl, hp, h⟩

/-! embrasure/pcp.mapped (34) -/
def pcp_mapped_wp (b_1 : List (Int)) (K : Int → Int → Int → Int → Int → Int → Int → Int → Prop) : Prop :=
  0 ≤ (8 : Int) ∧ (8 : Int) ≤ ((b_1.length : Nat) : Int) ∧ 0 ≤ (4 : Int) ∧ (4 : Int) ≤ (8 : Int) ∧ (0 ≤ (36 : Int) ∧ (36 : Int) ≤ ((b_1.length : Nat) : Int) ∧ 0 ≤ (28 : Int) ∧ (28 : Int) ≤ (36 : Int) ∧ (0 ≤ (42 : Int) ∧ (42 : Int) ≤ ((b_1.length : Nat) : Int) ∧ 0 ≤ (40 : Int) ∧ (40 : Int) ≤ (42 : Int) ∧ (0 ≤ (44 : Int) ∧ (44 : Int) ≤ ((b_1.length : Nat) : Int) ∧ 0 ≤ (42 : Int) ∧ (42 : Int) ≤ (44 : Int) ∧ (0 ≤ (60 : Int) ∧ (60 : Int) ≤ ((b_1.length : Nat) : Int) ∧ 0 ≤ (56 : Int) ∧ (56 : Int) ≤ (60 : Int) ∧ (pcp_get_wp ((b_1.take (Int.toNat 8)).drop (Int.toNat 4)) (fun (r : Int) => pcp_get_wp ((b_1.take (Int.toNat 36)).drop (Int.toNat 28)) (fun (r_1 : Int) => pcp_get_wp ((b_1.take (Int.toNat 42)).drop (Int.toNat 40)) (fun (r_2 : Int) => pcp_get_wp ((b_1.take (Int.toNat 44)).drop (Int.toNat 42)) (fun (r_3 : Int) => pcp_get_wp ((b_1.take (Int.toNat 60)).drop (Int.toNat 56)) (fun (r_4 : Int) => K 2 (IntKind.wrap .i64 r_2) (IntKind.wrap .i64 r_3) (IntKind.wrap .i64 r) r_1 0 0 (IntKind.wrap .u32 r_4)))))))))))
theorem pcp_mapped_ok {p_1 : Option Addr} {n_1 : Nat} {c_1 : Nat} {b_1 : List (Int)} {FL : List HP} {w : World} {K : Int → Int → Int → Int → Int → Int → Int → Int → Prop} {R : Value → World → Prop}
  (hF_b_1 : ∀ w, Mem FL w → Rd w 1 p_1 enc5 b_1) (hl_b_1 : n_1 = b_1.length) (hc_b_1 : n_1 ≤ c_1)
  (h : Mem (FL) w) (hp : pcp_mapped_wp b_1 K)
  (hR : ∀ (r : Int) (r_1 : Int) (r_2 : Int) (r_3 : Int) (r_4 : Int) (r_5 : Int) (r_6 : Int) (r_7 : Int) (w : World), Mem (FL) w → K r r_1 r_2 r_3 r_4 r_5 r_6 r_7 → R (Value.agg #[(Value.int .i64 r), (Value.int .i64 r_1), (Value.int .i64 r_2), (Value.int .i64 r_3), (Value.int .u64 r_4), (Value.int .i64 r_5), (Value.int .i64 r_6), (Value.int .u32 r_7)]) w) :
  CallV Try.prog 34 #[(Value.slice p_1 n_1 c_1)] w R := by
  refine pcp_mapped_call ?_
  unfold pcp_mapped
  unfold pcp_mapped_wp at hp
  subst hl_b_1
  refine newL (o := [(Value.int .i64 0), (Value.int .i64 0), (Value.int .i64 0), (Value.int .i64 0), (Value.int .u64 0), (Value.int .i64 0), (Value.int .i64 0), (Value.int .u32 0)]) h ?_
  intro b_2 w h
  replace h := h.drew
  refine ⟨fun w => Mem (FL) w, (h.sel [] 1), ?_⟩
  obtain ⟨g_1ha, g_1hb, g_1la, g_1lb, hp⟩ := hp
  have vg_1_lh : (Int.toNat 4) ≤ (Int.toNat 8) := (natLe2 g_1la g_1ha g_1lb)
  have vg_1_hm : (Int.toNat 8) ≤ c_1 := (Nat.le_trans (natLe g_1ha g_1hb) hc_b_1)
  have vg_1_mc : c_1 ≤ c_1 := (Nat.le_refl _)
  have vg_1_hl : (Int.toNat 8) ≤ b_1.length := (leLen g_1ha g_1hb rfl)
  refine ⟨g_1ha, (leCap g_1hb hc_b_1), g_1la, (leNat g_1ha g_1lb), ?_⟩
  obtain ⟨g_2ha, g_2hb, g_2la, g_2lb, hp⟩ := hp
  have vg_2_lh : (Int.toNat 28) ≤ (Int.toNat 36) := (natLe2 g_2la g_2ha g_2lb)
  have vg_2_hm : (Int.toNat 36) ≤ c_1 := (Nat.le_trans (natLe g_2ha g_2hb) hc_b_1)
  have vg_2_mc : c_1 ≤ c_1 := (Nat.le_refl _)
  have vg_2_hl : (Int.toNat 36) ≤ b_1.length := (leLen g_2ha g_2hb rfl)
  refine ⟨g_2ha, (leCap g_2hb hc_b_1), g_2la, (leNat g_2ha g_2lb), ?_⟩
  obtain ⟨g_3ha, g_3hb, g_3la, g_3lb, hp⟩ := hp
  have vg_3_lh : (Int.toNat 40) ≤ (Int.toNat 42) := (natLe2 g_3la g_3ha g_3lb)
  have vg_3_hm : (Int.toNat 42) ≤ c_1 := (Nat.le_trans (natLe g_3ha g_3hb) hc_b_1)
  have vg_3_mc : c_1 ≤ c_1 := (Nat.le_refl _)
  have vg_3_hl : (Int.toNat 42) ≤ b_1.length := (leLen g_3ha g_3hb rfl)
  refine ⟨g_3ha, (leCap g_3hb hc_b_1), g_3la, (leNat g_3ha g_3lb), ?_⟩
  obtain ⟨g_4ha, g_4hb, g_4la, g_4lb, hp⟩ := hp
  have vg_4_lh : (Int.toNat 42) ≤ (Int.toNat 44) := (natLe2 g_4la g_4ha g_4lb)
  have vg_4_hm : (Int.toNat 44) ≤ c_1 := (Nat.le_trans (natLe g_4ha g_4hb) hc_b_1)
  have vg_4_mc : c_1 ≤ c_1 := (Nat.le_refl _)
  have vg_4_hl : (Int.toNat 44) ≤ b_1.length := (leLen g_4ha g_4hb rfl)
  refine ⟨g_4ha, (leCap g_4hb hc_b_1), g_4la, (leNat g_4ha g_4lb), ?_⟩
  obtain ⟨g_5ha, g_5hb, g_5la, g_5lb, hp⟩ := hp
  have vg_5_lh : (Int.toNat 56) ≤ (Int.toNat 60) := (natLe2 g_5la g_5ha g_5lb)
  have vg_5_hm : (Int.toNat 60) ≤ c_1 := (Nat.le_trans (natLe g_5ha g_5hb) hc_b_1)
  have vg_5_mc : c_1 ≤ c_1 := (Nat.le_refl _)
  have vg_5_hl : (Int.toNat 60) ≤ b_1.length := (leLen g_5ha g_5hb rfl)
  refine ⟨g_5ha, (leCap g_5hb hc_b_1), g_5la, (leNat g_5ha g_5lb), ?_⟩
  refine pcp_get_ok (FL := cel b_2 36 [(Value.int .i64 0), (Value.int .i64 0), (Value.int .i64 0), (Value.int .i64 0), (Value.int .u64 0), (Value.int .i64 0), (Value.int .i64 0), (Value.int .u32 0)] :: FL) (fun w h => (Rd.view (hF_b_1 _ (h.drop 1)) (l := (Int.toNat 4)) (h := (Int.toNat 8)) (m := c_1) vg_1_hm)) (viewLen vg_1_hl) (Nat.sub_le_sub_right vg_1_hm _) h hp ?_
  intro r w h hp
  refine ⟨_, rfl, ?_⟩
  refine ⟨(h.sel [] 1), ?_⟩
  refine pcp_get_ok (FL := cel b_2 36 [(Value.int .i64 0), (Value.int .i64 0), (Value.int .i64 0), (Value.int .i64 0), (Value.int .u64 0), (Value.int .i64 0), (Value.int .i64 0), (Value.int .u32 0)] :: FL) (fun w h => (Rd.view (hF_b_1 _ (h.drop 1)) (l := (Int.toNat 28)) (h := (Int.toNat 36)) (m := c_1) vg_2_hm)) (viewLen vg_2_hl) (Nat.sub_le_sub_right vg_2_hm _) h hp ?_
  intro r_1 w h hp
  refine ⟨_, rfl, ?_⟩
  refine ⟨(h.sel [] 1), ?_⟩
  refine pcp_get_ok (FL := cel b_2 36 [(Value.int .i64 0), (Value.int .i64 0), (Value.int .i64 0), (Value.int .i64 0), (Value.int .u64 0), (Value.int .i64 0), (Value.int .i64 0), (Value.int .u32 0)] :: FL) (fun w h => (Rd.view (hF_b_1 _ (h.drop 1)) (l := (Int.toNat 40)) (h := (Int.toNat 42)) (m := c_1) vg_3_hm)) (viewLen vg_3_hl) (Nat.sub_le_sub_right vg_3_hm _) h hp ?_
  intro r_2 w h hp
  refine ⟨_, rfl, ?_⟩
  refine ⟨(h.sel [] 1), ?_⟩
  refine pcp_get_ok (FL := cel b_2 36 [(Value.int .i64 0), (Value.int .i64 0), (Value.int .i64 0), (Value.int .i64 0), (Value.int .u64 0), (Value.int .i64 0), (Value.int .i64 0), (Value.int .u32 0)] :: FL) (fun w h => (Rd.view (hF_b_1 _ (h.drop 1)) (l := (Int.toNat 42)) (h := (Int.toNat 44)) (m := c_1) vg_4_hm)) (viewLen vg_4_hl) (Nat.sub_le_sub_right vg_4_hm _) h hp ?_
  intro r_3 w h hp
  refine ⟨_, rfl, ?_⟩
  refine ⟨(h.sel [] 1), ?_⟩
  refine pcp_get_ok (FL := cel b_2 36 [(Value.int .i64 0), (Value.int .i64 0), (Value.int .i64 0), (Value.int .i64 0), (Value.int .u64 0), (Value.int .i64 0), (Value.int .i64 0), (Value.int .u32 0)] :: FL) (fun w h => (Rd.view (hF_b_1 _ (h.drop 1)) (l := (Int.toNat 56)) (h := (Int.toNat 60)) (m := c_1) vg_5_hm)) (viewLen vg_5_hl) (Nat.sub_le_sub_right vg_5_hm _) h hp ?_
  intro r_4 w h hp
  refine ⟨_, rfl, ?_⟩
  refine storeL (ys := [(Value.int .i64 2), (Value.int .i64 (IntKind.wrap .i64 r_2)), (Value.int .i64 (IntKind.wrap .i64 r_3)), (Value.int .i64 (IntKind.wrap .i64 r)), (Value.int .u64 r_1), (Value.int .i64 0), (Value.int .i64 0), (Value.int .u32 (IntKind.wrap .u32 r_4))]) h 0 0 rfl rfl rfl sz36 rfl rfl ?_
  intro w h
  dsimp only [setH, setVs, setV] at h
  refine ⟨_, cellL h 0 0 rfl rfl rfl, _, cellL h 0 1 rfl rfl rfl, _, cellL h 0 2 rfl rfl rfl, _, cellL h 0 3 rfl rfl rfl, _, cellL h 0 4 rfl rfl rfl, _, cellL h 0 5 rfl rfl rfl, _, cellL h 0 6 rfl rfl rfl, _, cellL h 0 7 rfl rfl rfl, ?_⟩
  replace h := h.sel [] 1
  dsimp only [pickL, pickR, nthH, delH, dropH, List.cons_append, List.nil_append] at h
  exact hR 2 (IntKind.wrap .i64 r_2) (IntKind.wrap .i64 r_3) (IntKind.wrap .i64 r) r_1 0 0 (IntKind.wrap .u32 r_4) _ h hp

/-! bytes.Equal (36) -/
def bytes_Equal_wp (a_1 : List (Int)) (b_1 : List (Int)) (K : Bool → Prop) : Prop :=
  K ((strOf a_1) == (strOf b_1))
theorem bytes_Equal_ok {p_1 : Option Addr} {n_1 : Nat} {c_1 : Nat} {p_2 : Option Addr} {n_2 : Nat} {c_2 : Nat} {a_1 : List (Int)} {b_1 : List (Int)} {FL : List HP} {w : World} {K : Bool → Prop} {R : Value → World → Prop}
  (hF_a_1 : ∀ w, Mem FL w → Rd w 1 p_1 enc5 a_1) (hl_a_1 : n_1 = a_1.length) (hc_a_1 : n_1 ≤ c_1)
  (hF_b_1 : ∀ w, Mem FL w → Rd w 1 p_2 enc5 b_1) (hl_b_1 : n_2 = b_1.length) (hc_b_1 : n_2 ≤ c_2)
  (h : Mem (FL) w) (hp : bytes_Equal_wp a_1 b_1 K)
  (hR : ∀ (r : Bool) (w : World), Mem (FL) w → K r → R (Value.bool r) w) :
  CallV Try.prog 36 #[(Value.slice p_1 n_1 c_1), (Value.slice p_2 n_2 c_2)] w R := by
  refine bytes_Equal_call ?_
  unfold bytes_Equal
  unfold bytes_Equal_wp at hp
  subst hl_a_1
  subst hl_b_1
  refine bytesStr (enc := enc5) und38 undI5 undStr9 (hF_a_1 _ (h.drop 0)) (fun _ => rfl) rfl ?_
  refine ⟨_, rfl, ?_⟩
  refine bytesStr (enc := enc5) und38 undI5 undStr9 (hF_b_1 _ (h.drop 0)) (fun _ => rfl) rfl ?_
  refine ⟨_, rfl, ?_⟩
  refine eqlStr ?_
  refine ⟨_, rfl, ?_⟩
  exact hR ((strOf a_1) == (strOf b_1)) _ h hp

/-! embrasure/pcp.ReadAnswer (25) -/
def pcp_ReadAnswer_wp (b_1 : List (Int)) (K : Int → Int → Int → Int → Int → Int → Int → Int → Int → Prop) : Prop :=
  cond ((((b_1.length : Nat) : Int) : Int) != 60) (K 0 0 0 0 0 0 0 0 3) (pcp_mapped_wp b_1 (fun (r : Int) (r_1 : Int) (r_2 : Int) (r_3 : Int) (r_4 : Int) (r_5 : Int) (r_6 : Int) (r_7 : Int) => 0 ≤ (3 : Int) ∧ (3 : Int) < ((b_1.length : Nat) : Int) ∧ (∀ (x_2 : Int), b_1[Int.toNat 3]? = some x_2 → (0 ≤ (12 : Int) ∧ (12 : Int) ≤ ((b_1.length : Nat) : Int) ∧ 0 ≤ (8 : Int) ∧ (8 : Int) ≤ (12 : Int) ∧ (pcp_get_wp ((b_1.take (Int.toNat 12)).drop (Int.toNat 8)) (fun (r_8 : Int) => pcp_Answer_wp r r_1 r_2 r_3 r_4 (IntKind.wrap .i64 x_2) (IntKind.wrap .i64 r_8) r_7 (fun (rs : List (Int)) => bytes_Equal_wp rs b_1 (fun (r_9 : Bool) => cond (!r_9) (K 0 0 0 0 0 0 0 0 3) (K r r_1 r_2 r_3 r_4 (IntKind.wrap .i64 x_2) (IntKind.wrap .i64 r_8) r_7 0)))))))))
theorem pcp_ReadAnswer_ok {p_1 : Option Addr} {n_1 : Nat} {c_1 : Nat} {b_1 : List (Int)} {FL : List HP} {w : World} {K : Int → Int → Int → Int → Int → Int → Int → Int → Int → Prop} {R : Value → World → Prop}
  (hF_b_1 : ∀ w, Mem FL w → Rd w 1 p_1 enc5 b_1) (hl_b_1 : n_1 = b_1.length) (hc_b_1 : n_1 ≤ c_1)
  (h : Mem (FL) w) (hp : pcp_ReadAnswer_wp b_1 K)
  (hR : ∀ (r : Int) (r_1 : Int) (r_2 : Int) (r_3 : Int) (r_4 : Int) (r_5 : Int) (r_6 : Int) (r_7 : Int) (r_8 : Int) (w : World), Mem (FL) w → K r r_1 r_2 r_3 r_4 r_5 r_6 r_7 r_8 → R (Value.tuple #[(Value.agg #[(Value.int .i64 r), (Value.int .i64 r_1), (Value.int .i64 r_2), (Value.int .i64 r_3), (Value.int .u64 r_4), (Value.int .i64 r_5), (Value.int .i64 r_6), (Value.int .u32 r_7)]), (Value.int .i64 r_8)]) w) :
  CallV Try.prog 25 #[(Value.slice p_1 n_1 c_1)] w R := by
  refine pcp_ReadAnswer_call ?_
  unfold pcp_ReadAnswer
  unfold pcp_ReadAnswer_wp at hp
  subst hl_b_1
  refine newL (o := [(Value.int .i64 0), (Value.int .i64 0), (Value.int .i64 0), (Value.int .i64 0), (Value.int .u64 0), (Value.int .i64 0), (Value.int .i64 0), (Value.int .u32 0)]) h ?_
  intro b_2 w h
  refine cond_both hp (fun hp => ?_) (fun hp => ?_)
  · refine storeL (ys := [(Value.int .i64 0), (Value.int .i64 0), (Value.int .i64 0), (Value.int .i64 0), (Value.int .u64 0), (Value.int .i64 0), (Value.int .i64 0), (Value.int .u32 0)]) h 0 0 rfl rfl rfl sz36 rfl rfl ?_
    intro w h
    dsimp only [setH, setVs, setV] at h
    refine ⟨_, cellL h 0 0 rfl rfl rfl, _, cellL h 0 1 rfl rfl rfl, _, cellL h 0 2 rfl rfl rfl, _, cellL h 0 3 rfl rfl rfl, _, cellL h 0 4 rfl rfl rfl, _, cellL h 0 5 rfl rfl rfl, _, cellL h 0 6 rfl rfl rfl, _, cellL h 0 7 rfl rfl rfl, ?_⟩
    replace h := h.sel [] 1
    dsimp only [pickL, pickR, nthH, delH, dropH, List.cons_append, List.nil_append] at h
    exact hR 0 0 0 0 0 0 0 0 3 _ h hp
  refine pcp_mapped_ok (FL := cel b_2 36 [(Value.int .i64 0), (Value.int .i64 0), (Value.int .i64 0), (Value.int .i64 0), (Value.int .u64 0), (Value.int .i64 0), (Value.int .i64 0), (Value.int .u32 0)] :: FL) (fun w h => (hF_b_1 _ (h.drop 1))) rfl hc_b_1 h hp ?_
  intro r r_1 r_2 r_3 r_4 r_5 r_6 r_7 w h hp
  refine ⟨_, _, _, _, _, _, _, _, rfl, ?_⟩
  refine newL (o := [(Value.int .i64 0), (Value.int .i64 0), (Value.int .i64 0), (Value.int .i64 0), (Value.int .u64 0), (Value.int .i64 0), (Value.int .i64 0), (Value.int .u32 0)]) h ?_
  intro b_3 w h
  refine storeL (ys := [(Value.int .i64 r), (Value.int .i64 r_1), (Value.int .i64 r_2), (Value.int .i64 r_3), (Value.int .u64 r_4), (Value.int .i64 r_5), (Value.int .i64 r_6), (Value.int .u32 r_7)]) h 0 0 rfl rfl rfl sz36 rfl rfl ?_
  intro w h
  dsimp only [setH, setVs, setV] at h
  replace h := h.drew
  refine ⟨fun w => Mem (FL) w, (h.sel [] 2), ?_⟩
  obtain ⟨ia_1, ja_1, hp⟩ := hp
  obtain ⟨a_1, ha_1⟩ := rdAddr (hF_b_1 _ (h.drop 2)) rfl ia_1 ja_1
  refine ⟨a_1, ha_1, ia_1, ja_1, ?_⟩
  obtain ⟨x_2, hx_2, hc⟩ := rdCell0 (hF_b_1 _ (h.drop 2)) ha_1 rfl ia_1 ja_1
  replace hp := hp x_2 hx_2
  refine ⟨_, hc _ rfl, ?_⟩
  refine ⟨?_, ?_⟩
  · intro w h
    change Mem _ _ at h
    obtain ⟨x_1, hx_1, hcq⟩ := rdCell0 (hF_b_1 _ (h.drop 0)) ha_1 rfl ia_1 ja_1
    obtain rfl : x_1 = x_2 := Option.some.inj (hx_1.symm.trans hx_2)
    refine ⟨_, hcq _ rfl, ?_⟩
    exact ⟨rfl, rfl⟩
  obtain ⟨g_1ha, g_1hb, g_1la, g_1lb, hp⟩ := hp
  have vg_1_lh : (Int.toNat 8) ≤ (Int.toNat 12) := (natLe2 g_1la g_1ha g_1lb)
  have vg_1_hm : (Int.toNat 12) ≤ c_1 := (Nat.le_trans (natLe g_1ha g_1hb) hc_b_1)
  have vg_1_mc : c_1 ≤ c_1 := (Nat.le_refl _)
  have vg_1_hl : (Int.toNat 12) ≤ b_1.length := (leLen g_1ha g_1hb rfl)
  refine ⟨g_1ha, (leCap g_1hb hc_b_1), g_1la, (leNat g_1ha g_1lb), ?_⟩
  refine pcp_get_ok (FL := cel b_3 36 [(Value.int .i64 r), (Value.int .i64 r_1), (Value.int .i64 r_2), (Value.int .i64 r_3), (Value.int .u64 r_4), (Value.int .i64 r_5), (Value.int .i64 r_6), (Value.int .u32 r_7)] :: cel b_2 36 [(Value.int .i64 0), (Value.int .i64 0), (Value.int .i64 0), (Value.int .i64 0), (Value.int .u64 0), (Value.int .i64 0), (Value.int .i64 0), (Value.int .u32 0)] :: FL) (fun w h => (Rd.view (hF_b_1 _ (h.drop 2)) (l := (Int.toNat 8)) (h := (Int.toNat 12)) (m := c_1) vg_1_hm)) (viewLen vg_1_hl) (Nat.sub_le_sub_right vg_1_hm _) h hp ?_
  intro r_8 w h hp
  refine ⟨_, rfl, ?_⟩
  refine ⟨(h.sel [] 2), ?_⟩
  refine storeL (ys := [(Value.int .i64 (IntKind.wrap .i64 x_2))]) h 0 5 rfl rfl rfl sz3 rfl rfl ?_
  intro w h
  dsimp only [setH, setVs, setV] at h
  refine storeL (ys := [(Value.int .i64 (IntKind.wrap .i64 r_8))]) h 0 6 rfl rfl rfl sz3 rfl rfl ?_
  intro w h
  dsimp only [setH, setVs, setV] at h
  refine ⟨_, cellL h 0 0 rfl rfl rfl, _, cellL h 0 1 rfl rfl rfl, _, cellL h 0 2 rfl rfl rfl, _, cellL h 0 3 rfl rfl rfl, _, cellL h 0 4 rfl rfl rfl, _, cellL h 0 5 rfl rfl rfl, _, cellL h 0 6 rfl rfl rfl, _, cellL h 0 7 rfl rfl rfl, ?_⟩
  refine pcp_Answer_ok h hp ?_
  rintro rs p_2 n_2 c_2 w rfl h hp
  have cpp_2 := rowCap h 0 rfl
  refine ⟨_, _, _, rfl, ?_⟩
  refine bytes_Equal_ok (FL := row enc5 5 1 p_2 c_2 rs :: cel b_3 36 [(Value.int .i64 r), (Value.int .i64 r_1), (Value.int .i64 r_2), (Value.int .i64 r_3), (Value.int .u64 r_4), (Value.int .i64 (IntKind.wrap .i64 x_2)), (Value.int .i64 (IntKind.wrap .i64 r_8)), (Value.int .u32 r_7)] :: cel b_2 36 [(Value.int .i64 0), (Value.int .i64 0), (Value.int .i64 0), (Value.int .i64 0), (Value.int .u64 0), (Value.int .i64 0), (Value.int .i64 0), (Value.int .u32 0)] :: FL) (fun w h => (rowRd h 0 encL5 rfl)) rfl cpp_2 (fun w h => (hF_b_1 _ (h.drop 3))) rfl hc_b_1 h hp ?_
  intro r_9 w h hp
  refine ⟨_, rfl, ?_⟩
  refine cond_both hp (fun hp => ?_) (fun hp => ?_)
  · refine storeL (ys := [(Value.int .i64 0), (Value.int .i64 0), (Value.int .i64 0), (Value.int .i64 0), (Value.int .u64 0), (Value.int .i64 0), (Value.int .i64 0), (Value.int .u32 0)]) h 2 0 rfl rfl rfl sz36 rfl rfl ?_
    intro w h
    dsimp only [setH, setVs, setV] at h
    refine ⟨_, cellL h 2 0 rfl rfl rfl, _, cellL h 2 1 rfl rfl rfl, _, cellL h 2 2 rfl rfl rfl, _, cellL h 2 3 rfl rfl rfl, _, cellL h 2 4 rfl rfl rfl, _, cellL h 2 5 rfl rfl rfl, _, cellL h 2 6 rfl rfl rfl, _, cellL h 2 7 rfl rfl rfl, ?_⟩
    replace h := h.sel [] 3
    dsimp only [pickL, pickR, nthH, delH, dropH, List.cons_append, List.nil_append] at h
    exact hR 0 0 0 0 0 0 0 0 3 _ h hp
  refine ⟨_, cellL h 1 0 rfl rfl rfl, _, cellL h 1 1 rfl rfl rfl, _, cellL h 1 2 rfl rfl rfl, _, cellL h 1 3 rfl rfl rfl, _, cellL h 1 4 rfl rfl rfl, _, cellL h 1 5 rfl rfl rfl, _, cellL h 1 6 rfl rfl rfl, _, cellL h 1 7 rfl rfl rfl, ?_⟩
  refine storeL (ys := [(Value.int .i64 r), (Value.int .i64 r_1), (Value.int .i64 r_2), (Value.int .i64 r_3), (Value.int .u64 r_4), (Value.int .i64 (IntKind.wrap .i64 x_2)), (Value.int .i64 (IntKind.wrap .i64 r_8)), (Value.int .u32 r_7)]) h 2 0 rfl rfl rfl sz36 rfl rfl ?_
  intro w h
  dsimp only [setH, setVs, setV] at h
  refine ⟨_, cellL h 2 0 rfl rfl rfl, _, cellL h 2 1 rfl rfl rfl, _, cellL h 2 2 rfl rfl rfl, _, cellL h 2 3 rfl rfl rfl, _, cellL h 2 4 rfl rfl rfl, _, cellL h 2 5 rfl rfl rfl, _, cellL h 2 6 rfl rfl rfl, _, cellL h 2 7 rfl rfl rfl, ?_⟩
  replace h := h.sel [] 3
  dsimp only [pickL, pickR, nthH, delH, dropH, List.cons_append, List.nil_append] at h
  exact hR r r_1 r_2 r_3 r_4 (IntKind.wrap .i64 x_2) (IntKind.wrap .i64 r_8) r_7 0 _ h hp

/-! (*embrasure/mapper.Mapper).unspoken (26) -/
def mapper_Mapper_unspoken_wp (s : Int) (s_1 : Int) (s_2 : Int) (s_3 : Int) (s_4 : Int) (s_5 : Int) (s_6 : Int) (s_7 : Int) (host : Int) (secs : Int) (nonce : Int) (wish : Int) (wish_1 : Int) (outside : Int) (now : Int) (epoch : Int) (epochAt : Int) (hasEpoch : Bool) (m_1 : List ((Option Addr × Nat × Nat) × List (Int))) (K : List ((Option Addr × Nat × Nat)) → Int → Int → Int → Int → Int → Int → Int → Bool → List ((Option Addr × Nat × Nat) × List (Int)) → Prop) : Prop :=
  cond ((s : Int) == 2) (K ([] : List ((Option Addr × Nat × Nat))) s s_1 s_3 s_4 s_5 s_6 s_7 hasEpoch m_1) (mapper_Mapper_other_wp s s_1 s_2 s_3 s_4 s_5 s_6 s_7 host secs nonce wish wish_1 outside now epoch epochAt hasEpoch m_1 (fun (rs : List ((Option Addr × Nat × Nat))) (s_15 : Int) (s_16 : Int) (s_17 : Int) (s_18 : Int) (s_19 : Int) (s_20 : Int) (s_21 : Int) (hasEpoch_2 : Bool) (m_3 : List ((Option Addr × Nat × Nat) × List (Int))) => K rs s_15 s_16 s_17 s_18 s_19 s_20 s_21 hasEpoch_2 m_3))
theorem mapper_Mapper_unspoken_ok {b_1 : Nat} {s : Int} {s_1 : Int} {s_2 : Int} {s_3 : Int} {s_4 : Int} {s_5 : Int} {s_6 : Int} {s_7 : Int} {host : Int} {secs : Int} {nonce : Int} {wish : Int} {wish_1 : Int} {outside : Int} {now : Int} {epoch : Int} {epochAt : Int} {hasEpoch : Bool} {m_1 : List ((Option Addr × Nat × Nat) × List (Int))} {FL : List HP} {w : World} {K : List ((Option Addr × Nat × Nat)) → Int → Int → Int → Int → Int → Int → Int → Bool → List ((Option Addr × Nat × Nat) × List (Int)) → Prop} {R : Value → World → Prop}
  (h : Mem (cel b_1 47 [(Value.int .i64 s), (Value.int .i64 s_1), (Value.int .i64 s_2), (Value.int .u32 s_3), (Value.int .i64 s_4), (Value.int .i64 s_5), (Value.int .i64 s_6), (Value.int .i64 s_7), (Value.int .u32 host), (Value.int .i64 secs), (Value.int .u64 nonce), (Value.int .u32 wish), (Value.int .i64 wish_1), (Value.int .u32 outside), (Value.int .i64 now), (Value.int .i64 epoch), (Value.int .i64 epochAt), (Value.bool hasEpoch)] :: poolP enc5 5 1 m_1 :: FL) w) (hp : mapper_Mapper_unspoken_wp s s_1 s_2 s_3 s_4 s_5 s_6 s_7 host secs nonce wish wish_1 outside now epoch epochAt hasEpoch m_1 K)
  (hR : ∀ (rs : List ((Option Addr × Nat × Nat))) (s_8 : Int) (s_9 : Int) (s_10 : Int) (s_11 : Int) (s_12 : Int) (s_13 : Int) (s_14 : Int) (hasEpoch_1 : Bool) (m_2 : List ((Option Addr × Nat × Nat) × List (Int))) (p_1 : Option Addr) (n_1 : Nat) (c_1 : Nat) (w : World), n_1 = rs.length → Mem (row enc38 38 1 p_1 c_1 rs :: cel b_1 47 [(Value.int .i64 s_8), (Value.int .i64 s_9), (Value.int .i64 s_2), (Value.int .u32 s_10), (Value.int .i64 s_11), (Value.int .i64 s_12), (Value.int .i64 s_13), (Value.int .i64 s_14), (Value.int .u32 host), (Value.int .i64 secs), (Value.int .u64 nonce), (Value.int .u32 wish), (Value.int .i64 wish_1), (Value.int .u32 outside), (Value.int .i64 now), (Value.int .i64 epoch), (Value.int .i64 epochAt), (Value.bool hasEpoch_1)] :: poolP enc5 5 1 m_2 :: FL) w → K rs s_8 s_9 s_10 s_11 s_12 s_13 s_14 hasEpoch_1 m_2 → R (Value.slice p_1 n_1 c_1) w) :
  CallV Try.prog 26 #[(Value.pointer (some (Addr.mk b_1 0 none)))] w R := by
  refine mapper_Mapper_unspoken_call ?_
  unfold mapper_Mapper_unspoken
  unfold mapper_Mapper_unspoken_wp at hp
  refine ⟨_, rfl, ?_⟩
  refine ⟨_, cellL h 0 0 rfl rfl rfl, ?_⟩
  refine cond_both hp (fun hp => ?_) (fun hp => ?_)
  · replace h := rowNil enc38 38 1 h
    exact hR ([] : List ((Option Addr × Nat × Nat))) s s_1 s_3 s_4 s_5 s_6 s_7 hasEpoch m_1 (none ) 0 0 _ rfl h hp
  refine mapper_Mapper_other_ok h hp ?_
  rintro rs s_15 s_16 s_17 s_18 s_19 s_20 s_21 hasEpoch_2 m_3 p_2 n_1 c_1 w rfl h hp
  have cpp_2 := rowCap h 0 rfl
  refine ⟨_, _, _, rfl, ?_⟩
  exact hR rs s_15 s_16 s_17 s_18 s_19 s_20 s_21 hasEpoch_2 m_3 p_2 rs.length c_1 _ rfl h hp

/-! (*embrasure/mapper.Mapper).anew (37) -/
def mapper_Mapper_anew_wp (s : Int) (s_1 : Int) (s_2 : Int) (s_3 : Int) (s_4 : Int) (s_5 : Int) (s_6 : Int) (s_7 : Int) (host : Int) (secs : Int) (nonce : Int) (wish : Int) (wish_1 : Int) (outside : Int) (now : Int) (epoch : Int) (epochAt : Int) (hasEpoch : Bool) (epoch_1 : Int) (K : Bool → Int → Int → Bool → Prop) : Prop :=
  joinP1 (fun (was5 : Bool) => K was5 epoch_1 now true) (fun (Q : Bool → Prop) => cond hasEpoch (Q (decide ((epoch_1 : Int) < (IntKind.wrap .i64 ((IntKind.wrap .i64 (epoch + (IntKind.wrap .i64 (Int.tdiv (IntKind.wrap .i64 ((IntKind.wrap .i64 (now - epochAt)) * 7)) 8)))) - 2))))) (Q false))
theorem mapper_Mapper_anew_ok {b_1 : Nat} {s : Int} {s_1 : Int} {s_2 : Int} {s_3 : Int} {s_4 : Int} {s_5 : Int} {s_6 : Int} {s_7 : Int} {host : Int} {secs : Int} {nonce : Int} {wish : Int} {wish_1 : Int} {outside : Int} {now : Int} {epoch : Int} {epochAt : Int} {hasEpoch : Bool} {epoch_1 : Int} {FL : List HP} {w : World} {K : Bool → Int → Int → Bool → Prop} {R : Value → World → Prop}
  (h : Mem (cel b_1 47 [(Value.int .i64 s), (Value.int .i64 s_1), (Value.int .i64 s_2), (Value.int .u32 s_3), (Value.int .i64 s_4), (Value.int .i64 s_5), (Value.int .i64 s_6), (Value.int .i64 s_7), (Value.int .u32 host), (Value.int .i64 secs), (Value.int .u64 nonce), (Value.int .u32 wish), (Value.int .i64 wish_1), (Value.int .u32 outside), (Value.int .i64 now), (Value.int .i64 epoch), (Value.int .i64 epochAt), (Value.bool hasEpoch)] :: FL) w) (hp : mapper_Mapper_anew_wp s s_1 s_2 s_3 s_4 s_5 s_6 s_7 host secs nonce wish wish_1 outside now epoch epochAt hasEpoch epoch_1 K)
  (hR : ∀ (r : Bool) (epoch_2 : Int) (epochAt_1 : Int) (hasEpoch_1 : Bool) (w : World), Mem (cel b_1 47 [(Value.int .i64 s), (Value.int .i64 s_1), (Value.int .i64 s_2), (Value.int .u32 s_3), (Value.int .i64 s_4), (Value.int .i64 s_5), (Value.int .i64 s_6), (Value.int .i64 s_7), (Value.int .u32 host), (Value.int .i64 secs), (Value.int .u64 nonce), (Value.int .u32 wish), (Value.int .i64 wish_1), (Value.int .u32 outside), (Value.int .i64 now), (Value.int .i64 epoch_2), (Value.int .i64 epochAt_1), (Value.bool hasEpoch_1)] :: FL) w → K r epoch_2 epochAt_1 hasEpoch_1 → R (Value.bool r) w) :
  CallV Try.prog 37 #[(Value.pointer (some (Addr.mk b_1 0 none))), (Value.int .i64 epoch_1)] w R := by
  refine mapper_Mapper_anew_call ?_
  unfold mapper_Mapper_anew
  unfold mapper_Mapper_anew_wp at hp
  obtain ⟨Q, hq, hp⟩ := hp
  refine ⟨fun m0 epoch1 was5 w => (some (Addr.mk b_1 0 none)) = m0 ∧ epoch_1 = epoch1 ∧ Q was5 ∧ Mem (cel b_1 47 [(Value.int .i64 s), (Value.int .i64 s_1), (Value.int .i64 s_2), (Value.int .u32 s_3), (Value.int .i64 s_4), (Value.int .i64 s_5), (Value.int .i64 s_6), (Value.int .i64 s_7), (Value.int .u32 host), (Value.int .i64 secs), (Value.int .u64 nonce), (Value.int .u32 wish), (Value.int .i64 wish_1), (Value.int .u32 outside), (Value.int .i64 now), (Value.int .i64 epoch), (Value.int .i64 epochAt), (Value.bool hasEpoch)] :: FL) w, ?_, ?_⟩
  · rintro m0 epoch1 was5 w ⟨rfl, rfl, hp, h⟩
    replace hp := hq was5 hp
    unfold mapper_Mapper_anew_j1
    refine ⟨_, rfl, ?_⟩
    refine ⟨_, cellL h 0 14 rfl rfl rfl, ?_⟩
    refine ⟨_, rfl, ?_⟩
    refine storeL (ys := [(Value.int .i64 epoch_1)]) h 0 15 rfl rfl rfl sz3 rfl rfl ?_
    intro w h
    dsimp only [setH, setVs, setV] at h
    refine ⟨_, rfl, ?_⟩
    refine storeL (ys := [(Value.int .i64 now)]) h 0 16 rfl rfl rfl sz3 rfl rfl ?_
    intro w h
    dsimp only [setH, setVs, setV] at h
    refine ⟨_, rfl, ?_⟩
    refine storeL (ys := [(Value.bool true)]) h 0 17 rfl rfl rfl sz4 rfl rfl ?_
    intro w h
    dsimp only [setH, setVs, setV] at h
    exact hR was5 epoch_1 now true _ h hp
  clear hq
  replace h := h.drew
  refine ⟨_, rfl, ?_⟩
  refine ⟨_, cellL h 0 17 rfl rfl rfl, ?_⟩
  refine cond_both' hp (fun hp => ?_) (fun hp => ?_)
  · exact ⟨rfl, rfl, hp, h⟩
  refine ⟨_, rfl, ?_⟩
  refine ⟨_, cellL h 0 15 rfl rfl rfl, ?_⟩
  refine ⟨_, rfl, ?_⟩
  refine ⟨_, cellL h 0 14 rfl rfl rfl, ?_⟩
  refine ⟨_, rfl, ?_⟩
  refine ⟨_, cellL h 0 16 rfl rfl rfl, ?_⟩
  refine ⟨by decide, ?_⟩
  exact ⟨rfl, rfl, hp, h⟩

/-! (*embrasure/mapper.Mapper).granted (38) -/
def mapper_Mapper_granted_wp (s : Int) (s_1 : Int) (s_2 : Int) (s_3 : Int) (s_4 : Int) (s_5 : Int) (s_6 : Int) (s_7 : Int) (host : Int) (secs : Int) (nonce : Int) (wish : Int) (wish_1 : Int) (outside : Int) (now : Int) (epoch : Int) (epochAt : Int) (hasEpoch : Bool) (l_Ver : Int) (l_Inside : Int) (l_Port : Int) (l_Secs : Int) (l_Nonce : Int) (l_Result : Int) (l_Epoch : Int) (l_Host : Int) (host_1 : Int) (K : Int → Int → Int → Int → Int → Int → Int → Int → Prop) : Prop :=
  K 2 host_1 l_Port (if (1099511627776 : Int) < (IntKind.wrap .i64 (now + l_Secs)) then 1099511627776 else (IntKind.wrap .i64 (now + l_Secs))) 0 (IntKind.wrap .i64 (now + (if ((IntKind.wrap .i64 (Int.tdiv l_Secs 2)) : Int) > 1 then (IntKind.wrap .i64 (Int.tdiv l_Secs 2)) else 1))) host_1 l_Port
theorem mapper_Mapper_granted_ok {b_1 : Nat} {s : Int} {s_1 : Int} {s_2 : Int} {s_3 : Int} {s_4 : Int} {s_5 : Int} {s_6 : Int} {s_7 : Int} {host : Int} {secs : Int} {nonce : Int} {wish : Int} {wish_1 : Int} {outside : Int} {now : Int} {epoch : Int} {epochAt : Int} {hasEpoch : Bool} {l_Ver : Int} {l_Inside : Int} {l_Port : Int} {l_Secs : Int} {l_Nonce : Int} {l_Result : Int} {l_Epoch : Int} {l_Host : Int} {host_1 : Int} {FL : List HP} {w : World} {K : Int → Int → Int → Int → Int → Int → Int → Int → Prop} {R : Value → World → Prop}
  (h : Mem (cel b_1 47 [(Value.int .i64 s), (Value.int .i64 s_1), (Value.int .i64 s_2), (Value.int .u32 s_3), (Value.int .i64 s_4), (Value.int .i64 s_5), (Value.int .i64 s_6), (Value.int .i64 s_7), (Value.int .u32 host), (Value.int .i64 secs), (Value.int .u64 nonce), (Value.int .u32 wish), (Value.int .i64 wish_1), (Value.int .u32 outside), (Value.int .i64 now), (Value.int .i64 epoch), (Value.int .i64 epochAt), (Value.bool hasEpoch)] :: FL) w) (hp : mapper_Mapper_granted_wp s s_1 s_2 s_3 s_4 s_5 s_6 s_7 host secs nonce wish wish_1 outside now epoch epochAt hasEpoch l_Ver l_Inside l_Port l_Secs l_Nonce l_Result l_Epoch l_Host host_1 K)
  (hR : ∀ (s_8 : Int) (s_9 : Int) (s_10 : Int) (s_11 : Int) (s_12 : Int) (s_13 : Int) (wish_2 : Int) (wish_3 : Int) (w : World), Mem (cel b_1 47 [(Value.int .i64 s_8), (Value.int .i64 s_1), (Value.int .i64 s_2), (Value.int .u32 s_9), (Value.int .i64 s_10), (Value.int .i64 s_11), (Value.int .i64 s_12), (Value.int .i64 s_13), (Value.int .u32 host), (Value.int .i64 secs), (Value.int .u64 nonce), (Value.int .u32 wish_2), (Value.int .i64 wish_3), (Value.int .u32 outside), (Value.int .i64 now), (Value.int .i64 epoch), (Value.int .i64 epochAt), (Value.bool hasEpoch)] :: FL) w → K s_8 s_9 s_10 s_11 s_12 s_13 wish_2 wish_3 → R undef w) :
  CallV Try.prog 38 #[(Value.pointer (some (Addr.mk b_1 0 none))), (Value.agg #[(Value.int .i64 l_Ver), (Value.int .i64 l_Inside), (Value.int .i64 l_Port), (Value.int .i64 l_Secs), (Value.int .u64 l_Nonce), (Value.int .i64 l_Result), (Value.int .i64 l_Epoch), (Value.int .u32 l_Host)]), (Value.int .u32 host_1)] w R := by
  refine mapper_Mapper_granted_call ?_
  unfold mapper_Mapper_granted
  unfold mapper_Mapper_granted_wp at hp
  refine newL (o := [(Value.int .i64 l_Ver), (Value.int .i64 l_Inside), (Value.int .i64 l_Port), (Value.int .i64 l_Secs), (Value.int .u64 l_Nonce), (Value.int .i64 l_Result), (Value.int .i64 l_Epoch), (Value.int .u32 l_Host)]) h ?_
  intro b_2 w h
  refine ⟨_, cellL h 0 2 rfl rfl rfl, ?_⟩
  refine ⟨_, rfl, ?_⟩
  refine storeL (ys := [(Value.int .u32 host_1), (Value.int .i64 l_Port)]) h 1 11 rfl rfl rfl sz41 rfl rfl ?_
  intro w h
  dsimp only [setH, setVs, setV] at h
  replace h := h.drew
  refine ⟨_, rfl, ?_⟩
  refine ⟨_, cellL h 1 1 rfl rfl rfl, ?_⟩
  refine ⟨_, rfl, ?_⟩
  refine ⟨_, cellL h 1 2 rfl rfl rfl, ?_⟩
  refine ⟨_, rfl, ?_⟩
  refine ⟨_, cellL h 1 11 rfl rfl rfl, _, cellL h 1 12 rfl rfl rfl, ?_⟩
  refine ⟨_, rfl, ?_⟩
  refine ⟨_, cellL h 1 14 rfl rfl rfl, ?_⟩
  refine ⟨_, cellL h 0 3 rfl rfl rfl, ?_⟩
  refine ⟨_, rfl, ?_⟩
  refine ⟨_, cellL h 1 14 rfl rfl rfl, ?_⟩
  refine ⟨_, cellL h 0 3 rfl rfl rfl, ?_⟩
  refine ⟨by decide, ?_⟩
  refine ⟨_, rfl, ?_⟩
  refine storeL (ys := [(Value.int .i64 2), (Value.int .i64 s_1), (Value.int .i64 s_2), (Value.int .u32 host_1), (Value.int .i64 l_Port), (Value.int .i64 (if (1099511627776 : Int) < (IntKind.wrap .i64 (now + l_Secs)) then 1099511627776 else (IntKind.wrap .i64 (now + l_Secs)))), (Value.int .i64 0), (Value.int .i64 (IntKind.wrap .i64 (now + (if ((IntKind.wrap .i64 (Int.tdiv l_Secs 2)) : Int) > 1 then (IntKind.wrap .i64 (Int.tdiv l_Secs 2)) else 1))))]) h 1 0 rfl rfl rfl sz43 rfl rfl ?_
  intro w h
  dsimp only [setH, setVs, setV] at h
  replace h := h.sel [1] 1
  dsimp only [pickL, pickR, nthH, delH, dropH, List.cons_append, List.nil_append] at h
  exact hR 2 host_1 l_Port (if (1099511627776 : Int) < (IntKind.wrap .i64 (now + l_Secs)) then 1099511627776 else (IntKind.wrap .i64 (now + l_Secs))) 0 (IntKind.wrap .i64 (now + (if ((IntKind.wrap .i64 (Int.tdiv l_Secs 2)) : Int) > 1 then (IntKind.wrap .i64 (Int.tdiv l_Secs 2)) else 1))) host_1 l_Port _ h hp

/-! (*embrasure/mapper.Mapper).take (27) -/
def mapper_Mapper_take_wp (s : Int) (s_1 : Int) (s_2 : Int) (s_3 : Int) (s_4 : Int) (s_5 : Int) (s_6 : Int) (s_7 : Int) (host : Int) (secs : Int) (nonce : Int) (wish : Int) (wish_1 : Int) (outside : Int) (now : Int) (epoch : Int) (epochAt : Int) (hasEpoch : Bool) (l_Ver : Int) (l_Inside : Int) (l_Port : Int) (l_Secs : Int) (l_Nonce : Int) (l_Result : Int) (l_Epoch : Int) (l_Host : Int) (host_1 : Int) (m_1 : List ((Option Addr × Nat × Nat) × List (Int))) (K : List ((Option Addr × Nat × Nat)) → Int → Int → Int → Int → Int → Int → Int → Int → Int → Int → Bool → List ((Option Addr × Nat × Nat) × List (Int)) → Prop) : Prop :=
  joinP3 (fun (epoch_2 : Int) (epochAt_2 : Int) (hasEpoch_2 : Bool) => joinP1 (fun (asking7 : Bool) => joinP1 (fun (t55 : Bool) => cond t55 (mapper_Mapper_granted_wp s s_1 s_2 s_3 s_4 s_5 s_6 s_7 host secs nonce wish wish_1 outside now epoch_2 epochAt_2 hasEpoch_2 l_Ver l_Inside l_Port l_Secs l_Nonce l_Result l_Epoch l_Host host_1 (fun (s_17 : Int) (s_18 : Int) (s_19 : Int) (s_20 : Int) (s_21 : Int) (s_22 : Int) (wish_4 : Int) (wish_5 : Int) => K ([] : List ((Option Addr × Nat × Nat))) s_17 s_18 s_19 s_20 s_21 s_22 wish_4 wish_5 epoch_2 epochAt_2 hasEpoch_2 m_1)) (K ([] : List ((Option Addr × Nat × Nat))) s s_3 s_4 s_5 s_6 s_7 wish wish_1 epoch_2 epochAt_2 hasEpoch_2 m_1)) (fun (Q_3 : Bool → Prop) => cond asking7 (cond ((l_Result : Int) == 0) (cond (decide ((l_Secs : Int) > 0)) (cond (decide ((l_Port : Int) > 0)) (Q_3 ((host_1 : Int) != 0)) (Q_3 false)) (Q_3 false)) (Q_3 false)) (Q_3 false))) (fun (Q_2 : Bool → Prop) => cond ((s : Int) == 1) (Q_2 true) (Q_2 ((s : Int) == 3)))) (fun (Q : Int → Int → Bool → Prop) => joinP4 (fun (epoch_3 : Int) (epochAt_3 : Int) (hasEpoch_3 : Bool) (t19 : Bool) => cond t19 (mapper_Mapper_holding_wp s s_1 s_2 s_3 s_4 s_5 s_6 s_7 host secs nonce wish wish_1 outside now epoch_3 epochAt_3 hasEpoch_3 m_1 (fun (rs : List ((Option Addr × Nat × Nat))) (s_14 : Int) (s_15 : Int) (s_16 : Int) (m_3 : List ((Option Addr × Nat × Nat) × List (Int))) => K rs s_14 s_3 s_4 s_5 s_15 s_16 wish wish_1 epoch_3 epochAt_3 hasEpoch_3 m_3)) (Q epoch_3 epochAt_3 hasEpoch_3)) (fun (Q_1 : Int → Int → Bool → Bool → Prop) => mapper_Mapper_anew_wp s s_1 s_2 s_3 s_4 s_5 s_6 s_7 host secs nonce wish wish_1 outside now epoch epochAt hasEpoch l_Epoch (fun (r : Bool) (epoch_4 : Int) (epochAt_4 : Int) (hasEpoch_4 : Bool) => cond r (Q_1 epoch_4 epochAt_4 hasEpoch_4 ((s : Int) == 2)) (Q_1 epoch_4 epochAt_4 hasEpoch_4 false))))
theorem mapper_Mapper_take_ok {b_1 : Nat} {s : Int} {s_1 : Int} {s_2 : Int} {s_3 : Int} {s_4 : Int} {s_5 : Int} {s_6 : Int} {s_7 : Int} {host : Int} {secs : Int} {nonce : Int} {wish : Int} {wish_1 : Int} {outside : Int} {now : Int} {epoch : Int} {epochAt : Int} {hasEpoch : Bool} {l_Ver : Int} {l_Inside : Int} {l_Port : Int} {l_Secs : Int} {l_Nonce : Int} {l_Result : Int} {l_Epoch : Int} {l_Host : Int} {host_1 : Int} {m_1 : List ((Option Addr × Nat × Nat) × List (Int))} {FL : List HP} {w : World} {K : List ((Option Addr × Nat × Nat)) → Int → Int → Int → Int → Int → Int → Int → Int → Int → Int → Bool → List ((Option Addr × Nat × Nat) × List (Int)) → Prop} {R : Value → World → Prop}
  (h : Mem (cel b_1 47 [(Value.int .i64 s), (Value.int .i64 s_1), (Value.int .i64 s_2), (Value.int .u32 s_3), (Value.int .i64 s_4), (Value.int .i64 s_5), (Value.int .i64 s_6), (Value.int .i64 s_7), (Value.int .u32 host), (Value.int .i64 secs), (Value.int .u64 nonce), (Value.int .u32 wish), (Value.int .i64 wish_1), (Value.int .u32 outside), (Value.int .i64 now), (Value.int .i64 epoch), (Value.int .i64 epochAt), (Value.bool hasEpoch)] :: poolP enc5 5 1 m_1 :: FL) w) (hp : mapper_Mapper_take_wp s s_1 s_2 s_3 s_4 s_5 s_6 s_7 host secs nonce wish wish_1 outside now epoch epochAt hasEpoch l_Ver l_Inside l_Port l_Secs l_Nonce l_Result l_Epoch l_Host host_1 m_1 K)
  (hR : ∀ (rs : List ((Option Addr × Nat × Nat))) (s_8 : Int) (s_9 : Int) (s_10 : Int) (s_11 : Int) (s_12 : Int) (s_13 : Int) (wish_2 : Int) (wish_3 : Int) (epoch_1 : Int) (epochAt_1 : Int) (hasEpoch_1 : Bool) (m_2 : List ((Option Addr × Nat × Nat) × List (Int))) (p_1 : Option Addr) (n_1 : Nat) (c_1 : Nat) (w : World), n_1 = rs.length → Mem (row enc38 38 1 p_1 c_1 rs :: cel b_1 47 [(Value.int .i64 s_8), (Value.int .i64 s_1), (Value.int .i64 s_2), (Value.int .u32 s_9), (Value.int .i64 s_10), (Value.int .i64 s_11), (Value.int .i64 s_12), (Value.int .i64 s_13), (Value.int .u32 host), (Value.int .i64 secs), (Value.int .u64 nonce), (Value.int .u32 wish_2), (Value.int .i64 wish_3), (Value.int .u32 outside), (Value.int .i64 now), (Value.int .i64 epoch_1), (Value.int .i64 epochAt_1), (Value.bool hasEpoch_1)] :: poolP enc5 5 1 m_2 :: FL) w → K rs s_8 s_9 s_10 s_11 s_12 s_13 wish_2 wish_3 epoch_1 epochAt_1 hasEpoch_1 m_2 → R (Value.slice p_1 n_1 c_1) w) :
  CallV Try.prog 27 #[(Value.pointer (some (Addr.mk b_1 0 none))), (Value.agg #[(Value.int .i64 l_Ver), (Value.int .i64 l_Inside), (Value.int .i64 l_Port), (Value.int .i64 l_Secs), (Value.int .u64 l_Nonce), (Value.int .i64 l_Result), (Value.int .i64 l_Epoch), (Value.int .u32 l_Host)]), (Value.int .u32 host_1)] w R := by
  refine mapper_Mapper_take_call ?_
  unfold mapper_Mapper_take
  unfold mapper_Mapper_take_wp at hp
  refine newL (o := [(Value.int .i64 l_Ver), (Value.int .i64 l_Inside), (Value.int .i64 l_Port), (Value.int .i64 l_Secs), (Value.int .u64 l_Nonce), (Value.int .i64 l_Result), (Value.int .i64 l_Epoch), (Value.int .u32 l_Host)]) h ?_
  intro b_2 w h
  obtain ⟨Q, hq, hp⟩ := hp
  refine ⟨fun m0 host2 l4 w => ∃ (epoch_2 : Int), ∃ (epochAt_2 : Int), ∃ (hasEpoch_2 : Bool), (some (Addr.mk b_1 0 none)) = m0 ∧ host_1 = host2 ∧ (Addr.mk b_2 0 none) = l4 ∧ Q epoch_2 epochAt_2 hasEpoch_2 ∧ Mem (cel b_2 36 [(Value.int .i64 l_Ver), (Value.int .i64 l_Inside), (Value.int .i64 l_Port), (Value.int .i64 l_Secs), (Value.int .u64 l_Nonce), (Value.int .i64 l_Result), (Value.int .i64 l_Epoch), (Value.int .u32 l_Host)] :: cel b_1 47 [(Value.int .i64 s), (Value.int .i64 s_1), (Value.int .i64 s_2), (Value.int .u32 s_3), (Value.int .i64 s_4), (Value.int .i64 s_5), (Value.int .i64 s_6), (Value.int .i64 s_7), (Value.int .u32 host), (Value.int .i64 secs), (Value.int .u64 nonce), (Value.int .u32 wish), (Value.int .i64 wish_1), (Value.int .u32 outside), (Value.int .i64 now), (Value.int .i64 epoch_2), (Value.int .i64 epochAt_2), (Value.bool hasEpoch_2)] :: poolP enc5 5 1 m_1 :: FL) w, ?_, ?_⟩
  · rintro m0 host2 l4 w ⟨epoch_2, epochAt_2, hasEpoch_2, rfl, rfl, rfl, hp, h⟩
    replace hp := hq epoch_2 epochAt_2 hasEpoch_2 hp
    unfold mapper_Mapper_take_j1
    obtain ⟨Q_2, hq, hp⟩ := hp
    refine ⟨fun m0_2 host2_2 l4_2 asking7 w => (some (Addr.mk b_1 0 none)) = m0_2 ∧ host_1 = host2_2 ∧ (Addr.mk b_2 0 none) = l4_2 ∧ Q_2 asking7 ∧ Mem (cel b_2 36 [(Value.int .i64 l_Ver), (Value.int .i64 l_Inside), (Value.int .i64 l_Port), (Value.int .i64 l_Secs), (Value.int .u64 l_Nonce), (Value.int .i64 l_Result), (Value.int .i64 l_Epoch), (Value.int .u32 l_Host)] :: cel b_1 47 [(Value.int .i64 s), (Value.int .i64 s_1), (Value.int .i64 s_2), (Value.int .u32 s_3), (Value.int .i64 s_4), (Value.int .i64 s_5), (Value.int .i64 s_6), (Value.int .i64 s_7), (Value.int .u32 host), (Value.int .i64 secs), (Value.int .u64 nonce), (Value.int .u32 wish), (Value.int .i64 wish_1), (Value.int .u32 outside), (Value.int .i64 now), (Value.int .i64 epoch_2), (Value.int .i64 epochAt_2), (Value.bool hasEpoch_2)] :: poolP enc5 5 1 m_1 :: FL) w, ?_, ?_⟩
    · rintro m0_2 host2_2 l4_2 asking7 w ⟨rfl, rfl, rfl, hp, h⟩
      replace hp := hq asking7 hp
      unfold mapper_Mapper_take_j2
      obtain ⟨Q_3, hq, hp⟩ := hp
      refine ⟨fun m0_3 host2_3 l4_3 t55 w => (some (Addr.mk b_1 0 none)) = m0_3 ∧ host_1 = host2_3 ∧ (Addr.mk b_2 0 none) = l4_3 ∧ Q_3 t55 ∧ Mem (cel b_2 36 [(Value.int .i64 l_Ver), (Value.int .i64 l_Inside), (Value.int .i64 l_Port), (Value.int .i64 l_Secs), (Value.int .u64 l_Nonce), (Value.int .i64 l_Result), (Value.int .i64 l_Epoch), (Value.int .u32 l_Host)] :: cel b_1 47 [(Value.int .i64 s), (Value.int .i64 s_1), (Value.int .i64 s_2), (Value.int .u32 s_3), (Value.int .i64 s_4), (Value.int .i64 s_5), (Value.int .i64 s_6), (Value.int .i64 s_7), (Value.int .u32 host), (Value.int .i64 secs), (Value.int .u64 nonce), (Value.int .u32 wish), (Value.int .i64 wish_1), (Value.int .u32 outside), (Value.int .i64 now), (Value.int .i64 epoch_2), (Value.int .i64 epochAt_2), (Value.bool hasEpoch_2)] :: poolP enc5 5 1 m_1 :: FL) w, ?_, ?_⟩
      · rintro m0_3 host2_3 l4_3 t55 w ⟨rfl, rfl, rfl, hp, h⟩
        replace hp := hq t55 hp
        unfold mapper_Mapper_take_j3
        refine cond_both' hp (fun hp => ?_) (fun hp => ?_)
        · replace h := rowNil enc38 38 1 h
          replace h := h.sel [0, 1, 1] 1
          dsimp only [pickL, pickR, nthH, delH, dropH, List.cons_append, List.nil_append] at h
          exact hR ([] : List ((Option Addr × Nat × Nat))) s s_3 s_4 s_5 s_6 s_7 wish wish_1 epoch_2 epochAt_2 hasEpoch_2 m_1 (none  ) 0 0 _ rfl h hp
        refine ⟨_, cellL h 0 0 rfl rfl rfl, _, cellL h 0 1 rfl rfl rfl, _, cellL h 0 2 rfl rfl rfl, _, cellL h 0 3 rfl rfl rfl, _, cellL h 0 4 rfl rfl rfl, _, cellL h 0 5 rfl rfl rfl, _, cellL h 0 6 rfl rfl rfl, _, cellL h 0 7 rfl rfl rfl, ?_⟩
        replace h := h.pick [1]
        dsimp only [pickL, pickR, nthH, delH, dropH, List.cons_append, List.nil_append] at h
        refine mapper_Mapper_granted_ok h hp ?_
        intro s_17 s_18 s_19 s_20 s_21 s_22 wish_4 wish_5 w h hp
        refine ⟨rfl, ?_⟩
        replace h := rowNil enc38 38 1 h
        replace h := h.sel [0, 0, 1] 1
        dsimp only [pickL, pickR, nthH, delH, dropH, List.cons_append, List.nil_append] at h
        exact hR ([] : List ((Option Addr × Nat × Nat))) s_17 s_18 s_19 s_20 s_21 s_22 wish_4 wish_5 epoch_2 epochAt_2 hasEpoch_2 m_1 (none ) 0 0 _ rfl h hp
      clear hq
      refine cond_both' hp (fun hp => ?_) (fun hp => ?_)
      · exact ⟨rfl, rfl, rfl, hp, h⟩
      refine ⟨_, cellL h 0 5 rfl rfl rfl, ?_⟩
      refine cond_both' hp (fun hp => ?_) (fun hp => ?_)
      · exact ⟨rfl, rfl, rfl, hp, h⟩
      refine ⟨_, cellL h 0 3 rfl rfl rfl, ?_⟩
      refine cond_both' hp (fun hp => ?_) (fun hp => ?_)
      · exact ⟨rfl, rfl, rfl, hp, h⟩
      refine ⟨_, cellL h 0 2 rfl rfl rfl, ?_⟩
      refine cond_both hp (fun hp => ?_) (fun hp => ?_)
      · exact ⟨rfl, rfl, rfl, hp, h⟩
      exact ⟨rfl, rfl, rfl, hp, h⟩
    clear hq
    refine ⟨_, rfl, ?_⟩
    refine ⟨_, cellL h 1 0 rfl rfl rfl, ?_⟩
    refine cond_both hp (fun hp => ?_) (fun hp => ?_)
    · exact ⟨rfl, rfl, rfl, hp, h⟩
    refine ⟨_, rfl, ?_⟩
    refine ⟨_, cellL h 1 0 rfl rfl rfl, ?_⟩
    exact ⟨rfl, rfl, rfl, hp, h⟩
  clear hq
  obtain ⟨Q_1, hq, hp⟩ := hp
  refine ⟨fun m0_1 host2_1 l4_1 t19 w => ∃ (epoch_3 : Int), ∃ (epochAt_3 : Int), ∃ (hasEpoch_3 : Bool), (some (Addr.mk b_1 0 none)) = m0_1 ∧ host_1 = host2_1 ∧ (Addr.mk b_2 0 none) = l4_1 ∧ Q_1 epoch_3 epochAt_3 hasEpoch_3 t19 ∧ Mem (cel b_2 36 [(Value.int .i64 l_Ver), (Value.int .i64 l_Inside), (Value.int .i64 l_Port), (Value.int .i64 l_Secs), (Value.int .u64 l_Nonce), (Value.int .i64 l_Result), (Value.int .i64 l_Epoch), (Value.int .u32 l_Host)] :: cel b_1 47 [(Value.int .i64 s), (Value.int .i64 s_1), (Value.int .i64 s_2), (Value.int .u32 s_3), (Value.int .i64 s_4), (Value.int .i64 s_5), (Value.int .i64 s_6), (Value.int .i64 s_7), (Value.int .u32 host), (Value.int .i64 secs), (Value.int .u64 nonce), (Value.int .u32 wish), (Value.int .i64 wish_1), (Value.int .u32 outside), (Value.int .i64 now), (Value.int .i64 epoch_3), (Value.int .i64 epochAt_3), (Value.bool hasEpoch_3)] :: poolP enc5 5 1 m_1 :: FL) w, ?_, ?_⟩
  · rintro m0_1 host2_1 l4_1 t19 w ⟨epoch_3, epochAt_3, hasEpoch_3, rfl, rfl, rfl, hp, h⟩
    replace hp := hq epoch_3 epochAt_3 hasEpoch_3 t19 hp
    unfold mapper_Mapper_take_j4
    refine cond_both' hp (fun hp => ?_) (fun hp => ?_)
    · exact ⟨epoch_3, epochAt_3, hasEpoch_3, rfl, rfl, rfl, hp, h⟩
    replace h := h.pick [1, 1]
    dsimp only [pickL, pickR, nthH, delH, dropH, List.cons_append, List.nil_append] at h
    refine mapper_Mapper_holding_ok h hp ?_
    rintro rs s_14 s_15 s_16 m_3 p_1 n_1 c_1 w rfl h hp
    have cpp_1 := rowCap h 0 rfl
    refine ⟨_, _, _, rfl, ?_⟩
    replace h := h.sel [0, 0, 0] 1
    dsimp only [pickL, pickR, nthH, delH, dropH, List.cons_append, List.nil_append] at h
    exact hR rs s_14 s_3 s_4 s_5 s_15 s_16 wish wish_1 epoch_3 epochAt_3 hasEpoch_3 m_3 p_1 rs.length c_1 _ rfl h hp
  clear hq
  refine ⟨_, cellL h 0 6 rfl rfl rfl, ?_⟩
  replace h := h.pick [1]
  dsimp only [pickL, pickR, nthH, delH, dropH, List.cons_append, List.nil_append] at h
  refine mapper_Mapper_anew_ok h hp ?_
  intro r epoch_4 epochAt_4 hasEpoch_4 w h hp
  refine ⟨_, rfl, ?_⟩
  refine cond_both' hp (fun hp => ?_) (fun hp => ?_)
  · replace h := h.sel [1, 0, 0] 0
    dsimp only [pickL, pickR, nthH, delH, dropH, List.cons_append, List.nil_append] at h
    exact ⟨epoch_4, epochAt_4, hasEpoch_4, rfl, rfl, rfl, hp, h⟩
  refine ⟨_, rfl, ?_⟩
  refine ⟨_, cellL h 0 0 rfl rfl rfl, ?_⟩
  replace h := h.sel [1, 0, 0] 0
  dsimp only [pickL, pickR, nthH, delH, dropH, List.cons_append, List.nil_append] at h
  exact ⟨epoch_4, epochAt_4, hasEpoch_4, rfl, rfl, rfl, hp, h⟩

/-! (*embrasure/mapper.Mapper).pcp (15) -/
def mapper_Mapper_pcp_wp (s : Int) (s_1 : Int) (s_2 : Int) (s_3 : Int) (s_4 : Int) (s_5 : Int) (s_6 : Int) (s_7 : Int) (host : Int) (secs : Int) (nonce : Int) (wish : Int) (wish_1 : Int) (outside : Int) (now : Int) (epoch : Int) (epochAt : Int) (hasEpoch : Bool) (b_2 : List (Int)) (m_1 : List ((Option Addr × Nat × Nat) × List (Int))) (K : List ((Option Addr × Nat × Nat)) → Int → Int → Int → Int → Int → Int → Int → Int → Int → Int → Int → Bool → List ((Option Addr × Nat × Nat) × List (Int)) → Prop) : Prop :=
  pcp_ReadAnswer_wp b_2 (fun (r : Int) (r_1 : Int) (r_2 : Int) (r_3 : Int) (r_4 : Int) (r_5 : Int) (r_6 : Int) (r_7 : Int) (r_8 : Int) => cond ((r_8 : Int) != 0) (K ([] : List ((Option Addr × Nat × Nat))) s s_1 s_3 s_4 s_5 s_6 s_7 wish wish_1 epoch epochAt hasEpoch m_1) (cond ((r_5 : Int) == 1) (mapper_Mapper_unspoken_wp s s_1 s_2 s_3 s_4 s_5 s_6 s_7 host secs nonce wish wish_1 outside now epoch epochAt hasEpoch m_1 (fun (rs : List ((Option Addr × Nat × Nat))) (s_15 : Int) (s_16 : Int) (s_17 : Int) (s_18 : Int) (s_19 : Int) (s_20 : Int) (s_21 : Int) (hasEpoch_2 : Bool) (m_3 : List ((Option Addr × Nat × Nat) × List (Int))) => K rs s_15 s_16 s_17 s_18 s_19 s_20 s_21 wish wish_1 epoch epochAt hasEpoch_2 m_3)) (joinP1 (fun (t21 : Bool) => cond t21 (K ([] : List ((Option Addr × Nat × Nat))) s s_1 s_3 s_4 s_5 s_6 s_7 wish wish_1 epoch epochAt hasEpoch m_1) (mapper_Mapper_take_wp s s_1 s_2 s_3 s_4 s_5 s_6 s_7 host secs nonce wish wish_1 outside now epoch epochAt hasEpoch r r_1 r_2 r_3 r_4 r_5 r_6 r_7 r_7 m_1 (fun (rs_1 : List ((Option Addr × Nat × Nat))) (s_22 : Int) (s_23 : Int) (s_24 : Int) (s_25 : Int) (s_26 : Int) (s_27 : Int) (wish_4 : Int) (wish_5 : Int) (epoch_2 : Int) (epochAt_2 : Int) (hasEpoch_3 : Bool) (m_4 : List ((Option Addr × Nat × Nat) × List (Int))) => K rs_1 s_22 s_1 s_23 s_24 s_25 s_26 s_27 wish_4 wish_5 epoch_2 epochAt_2 hasEpoch_3 m_4))) (fun (Q : Bool → Prop) => cond ((s_1 : Int) != 2) (Q true) (cond ((r_1 : Int) != s_2) (Q true) (Q ((r_4 : Int) != nonce)))))))
theorem mapper_Mapper_pcp_ok {b_1 : Nat} {p_1 : Option Addr} {n_1 : Nat} {c_1 : Nat} {s : Int} {s_1 : Int} {s_2 : Int} {s_3 : Int} {s_4 : Int} {s_5 : Int} {s_6 : Int} {s_7 : Int} {host : Int} {secs : Int} {nonce : Int} {wish : Int} {wish_1 : Int} {outside : Int} {now : Int} {epoch : Int} {epochAt : Int} {hasEpoch : Bool} {b_2 : List (Int)} {m_1 : List ((Option Addr × Nat × Nat) × List (Int))} {FL : List HP} {w : World} {K : List ((Option Addr × Nat × Nat)) → Int → Int → Int → Int → Int → Int → Int → Int → Int → Int → Int → Bool → List ((Option Addr × Nat × Nat) × List (Int)) → Prop} {R : Value → World → Prop}
  (hF_b_2 : ∀ w, Mem FL w → Rd w 1 p_1 enc5 b_2) (hl_b_2 : n_1 = b_2.length) (hc_b_2 : n_1 ≤ c_1)
  (h : Mem (cel b_1 47 [(Value.int .i64 s), (Value.int .i64 s_1), (Value.int .i64 s_2), (Value.int .u32 s_3), (Value.int .i64 s_4), (Value.int .i64 s_5), (Value.int .i64 s_6), (Value.int .i64 s_7), (Value.int .u32 host), (Value.int .i64 secs), (Value.int .u64 nonce), (Value.int .u32 wish), (Value.int .i64 wish_1), (Value.int .u32 outside), (Value.int .i64 now), (Value.int .i64 epoch), (Value.int .i64 epochAt), (Value.bool hasEpoch)] :: poolP enc5 5 1 m_1 :: FL) w) (hp : mapper_Mapper_pcp_wp s s_1 s_2 s_3 s_4 s_5 s_6 s_7 host secs nonce wish wish_1 outside now epoch epochAt hasEpoch b_2 m_1 K)
  (hR : ∀ (rs : List ((Option Addr × Nat × Nat))) (s_8 : Int) (s_9 : Int) (s_10 : Int) (s_11 : Int) (s_12 : Int) (s_13 : Int) (s_14 : Int) (wish_2 : Int) (wish_3 : Int) (epoch_1 : Int) (epochAt_1 : Int) (hasEpoch_1 : Bool) (m_2 : List ((Option Addr × Nat × Nat) × List (Int))) (p_2 : Option Addr) (n_2 : Nat) (c_2 : Nat) (w : World), n_2 = rs.length → Mem (row enc38 38 1 p_2 c_2 rs :: cel b_1 47 [(Value.int .i64 s_8), (Value.int .i64 s_9), (Value.int .i64 s_2), (Value.int .u32 s_10), (Value.int .i64 s_11), (Value.int .i64 s_12), (Value.int .i64 s_13), (Value.int .i64 s_14), (Value.int .u32 host), (Value.int .i64 secs), (Value.int .u64 nonce), (Value.int .u32 wish_2), (Value.int .i64 wish_3), (Value.int .u32 outside), (Value.int .i64 now), (Value.int .i64 epoch_1), (Value.int .i64 epochAt_1), (Value.bool hasEpoch_1)] :: poolP enc5 5 1 m_2 :: FL) w → K rs s_8 s_9 s_10 s_11 s_12 s_13 s_14 wish_2 wish_3 epoch_1 epochAt_1 hasEpoch_1 m_2 → R (Value.slice p_2 n_2 c_2) w) :
  CallV Try.prog 15 #[(Value.pointer (some (Addr.mk b_1 0 none))), (Value.slice p_1 n_1 c_1)] w R := by
  refine mapper_Mapper_pcp_call ?_
  unfold mapper_Mapper_pcp
  unfold mapper_Mapper_pcp_wp at hp
  subst hl_b_2
  refine pcp_ReadAnswer_ok (FL := cel b_1 47 [(Value.int .i64 s), (Value.int .i64 s_1), (Value.int .i64 s_2), (Value.int .u32 s_3), (Value.int .i64 s_4), (Value.int .i64 s_5), (Value.int .i64 s_6), (Value.int .i64 s_7), (Value.int .u32 host), (Value.int .i64 secs), (Value.int .u64 nonce), (Value.int .u32 wish), (Value.int .i64 wish_1), (Value.int .u32 outside), (Value.int .i64 now), (Value.int .i64 epoch), (Value.int .i64 epochAt), (Value.bool hasEpoch)] :: poolP enc5 5 1 m_1 :: FL) (fun w h => (hF_b_2 _ (h.drop 2))) rfl hc_b_2 h hp ?_
  intro r r_1 r_2 r_3 r_4 r_5 r_6 r_7 r_8 w h hp
  refine ⟨_, _, _, _, _, _, _, _, _, rfl, ?_⟩
  refine ⟨_, _, _, _, _, _, _, _, rfl, ?_⟩
  refine ⟨_, rfl, ?_⟩
  refine newL (o := [(Value.int .i64 0), (Value.int .i64 0), (Value.int .i64 0), (Value.int .i64 0), (Value.int .u64 0), (Value.int .i64 0), (Value.int .i64 0), (Value.int .u32 0)]) h ?_
  intro b_3 w h
  refine storeL (ys := [(Value.int .i64 r), (Value.int .i64 r_1), (Value.int .i64 r_2), (Value.int .i64 r_3), (Value.int .u64 r_4), (Value.int .i64 r_5), (Value.int .i64 r_6), (Value.int .u32 r_7)]) h 0 0 rfl rfl rfl sz36 rfl rfl ?_
  intro w h
  dsimp only [setH, setVs, setV] at h
  refine cond_both hp (fun hp => ?_) (fun hp => ?_)
  · replace h := rowNil enc38 38 1 h
    replace h := h.sel [0, 1, 1] 1
    dsimp only [pickL, pickR, nthH, delH, dropH, List.cons_append, List.nil_append] at h
    exact hR ([] : List ((Option Addr × Nat × Nat))) s s_1 s_3 s_4 s_5 s_6 s_7 wish wish_1 epoch epochAt hasEpoch m_1 (none ) 0 0 _ rfl h hp
  refine ⟨_, cellL h 0 5 rfl rfl rfl, ?_⟩
  refine cond_both hp (fun hp => ?_) (fun hp => ?_)
  · replace h := h.pick [1, 1]
    dsimp only [pickL, pickR, nthH, delH, dropH, List.cons_append, List.nil_append] at h
    refine mapper_Mapper_unspoken_ok h hp ?_
    rintro rs s_15 s_16 s_17 s_18 s_19 s_20 s_21 hasEpoch_2 m_3 p_3 n_2 c_2 w rfl h hp
    have cpp_3 := rowCap h 0 rfl
    refine ⟨_, _, _, rfl, ?_⟩
    replace h := h.sel [0, 0, 0] 1
    dsimp only [pickL, pickR, nthH, delH, dropH, List.cons_append, List.nil_append] at h
    exact hR rs s_15 s_16 s_17 s_18 s_19 s_20 s_21 wish wish_1 epoch epochAt hasEpoch_2 m_3 p_3 rs.length c_2 _ rfl h hp
  obtain ⟨Q, hq, hp⟩ := hp
  refine ⟨fun m0 l5 t21 w => (some (Addr.mk b_1 0 none)) = m0 ∧ (Addr.mk b_3 0 none) = l5 ∧ Q t21 ∧ Mem (cel b_3 36 [(Value.int .i64 r), (Value.int .i64 r_1), (Value.int .i64 r_2), (Value.int .i64 r_3), (Value.int .u64 r_4), (Value.int .i64 r_5), (Value.int .i64 r_6), (Value.int .u32 r_7)] :: cel b_1 47 [(Value.int .i64 s), (Value.int .i64 s_1), (Value.int .i64 s_2), (Value.int .u32 s_3), (Value.int .i64 s_4), (Value.int .i64 s_5), (Value.int .i64 s_6), (Value.int .i64 s_7), (Value.int .u32 host), (Value.int .i64 secs), (Value.int .u64 nonce), (Value.int .u32 wish), (Value.int .i64 wish_1), (Value.int .u32 outside), (Value.int .i64 now), (Value.int .i64 epoch), (Value.int .i64 epochAt), (Value.bool hasEpoch)] :: poolP enc5 5 1 m_1 :: FL) w, ?_, ?_⟩
  · rintro m0 l5 t21 w ⟨rfl, rfl, hp, h⟩
    replace hp := hq t21 hp
    unfold mapper_Mapper_pcp_j1
    refine cond_both hp (fun hp => ?_) (fun hp => ?_)
    · replace h := rowNil enc38 38 1 h
      replace h := h.sel [0, 1, 1] 1
      dsimp only [pickL, pickR, nthH, delH, dropH, List.cons_append, List.nil_append] at h
      exact hR ([] : List ((Option Addr × Nat × Nat))) s s_1 s_3 s_4 s_5 s_6 s_7 wish wish_1 epoch epochAt hasEpoch m_1 (none  ) 0 0 _ rfl h hp
    refine ⟨_, cellL h 0 0 rfl rfl rfl, _, cellL h 0 1 rfl rfl rfl, _, cellL h 0 2 rfl rfl rfl, _, cellL h 0 3 rfl rfl rfl, _, cellL h 0 4 rfl rfl rfl, _, cellL h 0 5 rfl rfl rfl, _, cellL h 0 6 rfl rfl rfl, _, cellL h 0 7 rfl rfl rfl, ?_⟩
    refine ⟨_, cellL h 0 7 rfl rfl rfl, ?_⟩
    replace h := h.pick [1, 1]
    dsimp only [pickL, pickR, nthH, delH, dropH, List.cons_append, List.nil_append] at h
    refine mapper_Mapper_take_ok h hp ?_
    rintro rs_1 s_22 s_23 s_24 s_25 s_26 s_27 wish_4 wish_5 epoch_2 epochAt_2 hasEpoch_3 m_4 p_5 n_3 c_3 w rfl h hp
    have cpp_5 := rowCap h 0 rfl
    refine ⟨_, _, _, rfl, ?_⟩
    replace h := h.sel [0, 0, 0] 1
    dsimp only [pickL, pickR, nthH, delH, dropH, List.cons_append, List.nil_append] at h
    exact hR rs_1 s_22 s_1 s_23 s_24 s_25 s_26 s_27 wish_4 wish_5 epoch_2 epochAt_2 hasEpoch_3 m_4 p_5 rs_1.length c_3 _ rfl h hp
  clear hq
  replace h := h.drew
  refine ⟨_, rfl, ?_⟩
  refine ⟨_, cellL h 1 1 rfl rfl rfl, ?_⟩
  refine cond_both hp (fun hp => ?_) (fun hp => ?_)
  · exact ⟨rfl, rfl, hp, h⟩
  refine ⟨_, cellL h 0 1 rfl rfl rfl, ?_⟩
  refine ⟨_, rfl, ?_⟩
  refine ⟨_, cellL h 1 2 rfl rfl rfl, ?_⟩
  refine cond_both hp (fun hp => ?_) (fun hp => ?_)
  · exact ⟨rfl, rfl, hp, h⟩
  refine ⟨_, cellL h 0 4 rfl rfl rfl, ?_⟩
  refine ⟨_, rfl, ?_⟩
  refine ⟨_, cellL h 1 10 rfl rfl rfl, ?_⟩
  exact ⟨rfl, rfl, hp, h⟩

/-! embrasure/pmp.get (41) -/
def pmp_get_wp (b_1 : List (Int)) (K : Int → Prop) : Prop :=
  ∃ (I : Nat → Int → Int → Prop), (∃ (n_4 : Nat), I n_4 0 0) ∧ ∀ (n_2 : Nat) (n3 : Int) (t8 : Int), I n_2 n3 t8 → (cond (decide ((t8 : Int) < ((b_1.length : Nat) : Int))) (0 ≤ (t8 : Int) ∧ (t8 : Int) < ((b_1.length : Nat) : Int) ∧ (∀ (x_1 : Int), b_1[Int.toNat t8]? = some x_1 → (∃ (n_3 : Nat), n_3 < n_2 ∧ I n_3 (bitsV .or .i64 (IntKind.wrap .i64 (n3 * 2 ^ (min (Int.toNat 8) (IntKind.bits .i64)))) (IntKind.wrap .i64 x_1)) (IntKind.wrap .i64 (t8 + 1))))) (K n3))
theorem pmp_get_ok {p_1 : Option Addr} {n_1 : Nat} {c_1 : Nat} {b_1 : List (Int)} {FL : List HP} {w : World} {K : Int → Prop} {R : Value → World → Prop}
  (hF_b_1 : ∀ w, Mem FL w → Rd w 1 p_1 enc5 b_1) (hl_b_1 : n_1 = b_1.length) (hc_b_1 : n_1 ≤ c_1)
  (h : Mem (FL) w) (hp : pmp_get_wp b_1 K)
  (hR : ∀ (r : Int) (w : World), Mem (FL) w → K r → R (Value.int .i64 r) w) :
  CallV Try.prog 41 #[(Value.slice p_1 n_1 c_1)] w R := by
  refine pmp_get_call ?_
  unfold pmp_get
  unfold pmp_get_wp at hp
  subst hl_b_1
  obtain ⟨I, ⟨n_4, h0⟩, hq⟩ := hp
  refine ⟨fun n_2 n3 t6p t6l t6c t7 t8 w => p_1 = t6p ∧ b_1.length = t6l ∧ c_1 = t6c ∧ ((b_1.length : Nat) : Int) = t7 ∧ I n_2 n3 t8 ∧ Mem (FL) w, ⟨n_4, rfl, rfl, rfl, rfl, h0, h⟩, ?_⟩
  clear h0 h
  rintro n_2 n3 t6p t6l t6c t7 t8 w ⟨rfl, rfl, rfl, rfl, hp, h⟩
  replace hp := hq n_2 n3 t8 hp
  clear hq
  unfold pmp_get_l1
  refine cond_both' hp (fun hp => ?_) (fun hp => ?_)
  · exact hR n3 _ h hp
  obtain ⟨ia_1, ja_1, hp⟩ := hp
  obtain ⟨a_1, ha_1⟩ := rdAddr (hF_b_1 _ (h.drop 0)) rfl ia_1 ja_1
  refine ⟨a_1, ha_1, ia_1, ja_1, ?_⟩
  obtain ⟨x_1, hx_1, hc⟩ := rdCell0 (hF_b_1 _ (h.drop 0)) ha_1 rfl ia_1 ja_1
  replace hp := hp x_1 hx_1
  refine ⟨_, hc _ rfl, ?_⟩
  refine ⟨by decide, ?_⟩
  obtain ⟨n_3, hn, hp⟩ := hp
  exact ⟨n_3, hn, rfl, rfl, rfl, rfl, hp, h⟩

/-! embrasure/pmp.ReadAnswer$1 (40) -/
def pmp_ReadAnswer_c1_wp (host : Bool) (t : List (Int)) (K : Int → Int → Int → Int → Int → Int → Int → Int → Prop) : Prop :=
  joinP8 (fun (Ver : Int) (Inside : Int) (Port : Int) (Secs : Int) (Nonce : Int) (Result_ : Int) (Epoch : Int) (Host : Int) => joinP4 (fun (Inside_1 : Int) (Port_1 : Int) (Secs_1 : Int) (Host_1 : Int) => K Ver Inside_1 Port_1 Secs_1 Nonce Result_ Epoch Host_1) (fun (Q_1 : Int → Int → Int → Int → Prop) => cond host (0 ≤ (12 : Int) ∧ (12 : Int) ≤ ((t.length : Nat) : Int) ∧ 0 ≤ (8 : Int) ∧ (8 : Int) ≤ (12 : Int) ∧ (pmp_get_wp ((t.take (Int.toNat 12)).drop (Int.toNat 8)) (fun (r_5 : Int) => Q_1 Inside Port Secs (IntKind.wrap .u32 r_5)))) (0 ≤ (10 : Int) ∧ (10 : Int) ≤ ((t.length : Nat) : Int) ∧ 0 ≤ (8 : Int) ∧ (8 : Int) ≤ (10 : Int) ∧ (0 ≤ (12 : Int) ∧ (12 : Int) ≤ ((t.length : Nat) : Int) ∧ 0 ≤ (10 : Int) ∧ (10 : Int) ≤ (12 : Int) ∧ (0 ≤ (16 : Int) ∧ (16 : Int) ≤ ((t.length : Nat) : Int) ∧ 0 ≤ (12 : Int) ∧ (12 : Int) ≤ (16 : Int) ∧ (pmp_get_wp ((t.take (Int.toNat 10)).drop (Int.toNat 8)) (fun (r_6 : Int) => pmp_get_wp ((t.take (Int.toNat 12)).drop (Int.toNat 10)) (fun (r_7 : Int) => pmp_get_wp ((t.take (Int.toNat 16)).drop (Int.toNat 12)) (fun (r_8 : Int) => Q_1 r_6 r_7 r_8 Host))))))))) (fun (Q : Int → Int → Int → Int → Int → Int → Int → Int → Prop) => 0 ≤ (4 : Int) ∧ (4 : Int) ≤ ((t.length : Nat) : Int) ∧ 0 ≤ (2 : Int) ∧ (2 : Int) ≤ (4 : Int) ∧ (0 ≤ (8 : Int) ∧ (8 : Int) ≤ ((t.length : Nat) : Int) ∧ 0 ≤ (4 : Int) ∧ (4 : Int) ≤ (8 : Int) ∧ ((pmp_get_wp ((t.take (Int.toNat 4)).drop (Int.toNat 2)) (fun (r : Int) => (pmp_get_wp ((t.take (Int.toNat 8)).drop (Int.toNat 4)) (fun (r_1 : Int) => Q 0 0 0 0 0 r r_1 0)) ∧ (pmp_get_wp ((t.take (Int.toNat 8)).drop (Int.toNat 4)) (fun (r_2 : Int) => Q 0 0 0 0 0 r r_2 0)))) ∧ (pmp_get_wp ((t.take (Int.toNat 4)).drop (Int.toNat 2)) (fun (r_3 : Int) => pmp_get_wp ((t.take (Int.toNat 8)).drop (Int.toNat 4)) (fun (r_4 : Int) => Q 0 0 0 0 0 r_3 r_4 0))))))
theorem pmp_ReadAnswer_c1_ok {b_1 : Nat} {p_1 : Option Addr} {n_1 : Nat} {c_1 : Nat} {host : Bool} {t : List (Int)} {FL : List HP} {w : World} {K : Int → Int → Int → Int → Int → Int → Int → Int → Prop} {R : Value → World → Prop}
  (hF_t : ∀ w, Mem FL w → Rd w 1 p_1 enc5 t) (hl_t : n_1 = t.length) (hc_t : n_1 ≤ c_1)
  (h : Mem (cel b_1 38 [(Value.slice p_1 n_1 c_1)] :: FL) w) (hp : pmp_ReadAnswer_c1_wp host t K)
  (hR : ∀ (r : Int) (r_1 : Int) (r_2 : Int) (r_3 : Int) (r_4 : Int) (r_5 : Int) (r_6 : Int) (r_7 : Int) (w : World), Mem (cel b_1 38 [(Value.slice p_1 t.length c_1)] :: FL) w → K r r_1 r_2 r_3 r_4 r_5 r_6 r_7 → R (Value.agg #[(Value.int .i64 r), (Value.int .i64 r_1), (Value.int .i64 r_2), (Value.int .i64 r_3), (Value.int .u64 r_4), (Value.int .i64 r_5), (Value.int .i64 r_6), (Value.int .u32 r_7)]) w) :
  CallV Try.prog 40 #[(Value.bool host), (Value.pointer (some (Addr.mk b_1 0 none)))] w R := by
  refine pmp_ReadAnswer_c1_call ?_
  unfold pmp_ReadAnswer_c1
  unfold pmp_ReadAnswer_c1_wp at hp
  subst hl_t
  refine newL (o := [(Value.int .i64 0), (Value.int .i64 0), (Value.int .i64 0), (Value.int .i64 0), (Value.int .u64 0), (Value.int .i64 0), (Value.int .i64 0), (Value.int .u32 0)]) h ?_
  intro b_2 w h
  obtain ⟨Q, hq, hp⟩ := hp
  refine ⟨fun host0 t1 t3 l4 w => ∃ (b_3 : Nat), ∃ (Ver : Int), ∃ (Inside : Int), ∃ (Port : Int), ∃ (Secs : Int), ∃ (Nonce : Int), ∃ (Result_ : Int), ∃ (Epoch : Int), ∃ (Host : Int), host = host0 ∧ (Addr.mk b_1 0 none) = t1 ∧ (Addr.mk b_2 0 none) = t3 ∧ (Addr.mk b_3 0 none) = l4 ∧ Q Ver Inside Port Secs Nonce Result_ Epoch Host ∧ Mem (cel b_2 36 [(Value.int .i64 0), (Value.int .i64 0), (Value.int .i64 0), (Value.int .i64 0), (Value.int .u64 0), (Value.int .i64 0), (Value.int .i64 0), (Value.int .u32 0)] :: cel b_1 38 [(Value.slice p_1 t.length c_1)] :: cel b_3 36 [(Value.int .i64 Ver), (Value.int .i64 Inside), (Value.int .i64 Port), (Value.int .i64 Secs), (Value.int .u64 Nonce), (Value.int .i64 Result_), (Value.int .i64 Epoch), (Value.int .u32 Host)] :: FL) w, ?_, ?_⟩
  · rintro host0 t1 t3 l4 w ⟨b_3, Ver, Inside, Port, Secs, Nonce, Result_, Epoch, Host, rfl, rfl, rfl, rfl, hp, h⟩
    replace hp := hq Ver Inside Port Secs Nonce Result_ Epoch Host hp
    unfold pmp_ReadAnswer_c1_j1
    obtain ⟨Q_1, hq, hp⟩ := hp
    refine ⟨fun t3_1 l4_1 w => ∃ (Inside_1 : Int), ∃ (Port_1 : Int), ∃ (Secs_1 : Int), ∃ (Host_1 : Int), (Addr.mk b_2 0 none) = t3_1 ∧ (Addr.mk b_3 0 none) = l4_1 ∧ Q_1 Inside_1 Port_1 Secs_1 Host_1 ∧ Mem (cel b_2 36 [(Value.int .i64 0), (Value.int .i64 0), (Value.int .i64 0), (Value.int .i64 0), (Value.int .u64 0), (Value.int .i64 0), (Value.int .i64 0), (Value.int .u32 0)] :: cel b_1 38 [(Value.slice p_1 t.length c_1)] :: cel b_3 36 [(Value.int .i64 Ver), (Value.int .i64 Inside_1), (Value.int .i64 Port_1), (Value.int .i64 Secs_1), (Value.int .u64 Nonce), (Value.int .i64 Result_), (Value.int .i64 Epoch), (Value.int .u32 Host_1)] :: FL) w, ?_, ?_⟩
    · rintro t3_1 l4_1 w ⟨Inside_1, Port_1, Secs_1, Host_1, rfl, rfl, hp, h⟩
      replace hp := hq Inside_1 Port_1 Secs_1 Host_1 hp
      unfold pmp_ReadAnswer_c1_j2
      refine ⟨_, cellL h 2 0 rfl rfl rfl, _, cellL h 2 1 rfl rfl rfl, _, cellL h 2 2 rfl rfl rfl, _, cellL h 2 3 rfl rfl rfl, _, cellL h 2 4 rfl rfl rfl, _, cellL h 2 5 rfl rfl rfl, _, cellL h 2 6 rfl rfl rfl, _, cellL h 2 7 rfl rfl rfl, ?_⟩
      refine storeL (ys := [(Value.int .i64 Ver), (Value.int .i64 Inside_1), (Value.int .i64 Port_1), (Value.int .i64 Secs_1), (Value.int .u64 Nonce), (Value.int .i64 Result_), (Value.int .i64 Epoch), (Value.int .u32 Host_1)]) h 0 0 rfl rfl rfl sz36 rfl rfl ?_
      intro w h
      dsimp only [setH, setVs, setV] at h
      refine ⟨_, cellL h 0 0 rfl rfl rfl, _, cellL h 0 1 rfl rfl rfl, _, cellL h 0 2 rfl rfl rfl, _, cellL h 0 3 rfl rfl rfl, _, cellL h 0 4 rfl rfl rfl, _, cellL h 0 5 rfl rfl rfl, _, cellL h 0 6 rfl rfl rfl, _, cellL h 0 7 rfl rfl rfl, ?_⟩
      replace h := h.sel [1] 2
      dsimp only [pickL, pickR, nthH, delH, dropH, List.cons_append, List.nil_append] at h
      exact hR Ver Inside_1 Port_1 Secs_1 Nonce Result_ Epoch Host_1 _ h hp
    clear hq
    refine cond_both hp (fun hp => ?_) (fun hp => ?_)
    · refine ⟨_, _, _, cellL h 1 0 rfl rfl rfl, ?_⟩
      obtain ⟨g_3ha, g_3hb, g_3la, g_3lb, hp⟩ := hp
      have vg_3_lh : (Int.toNat 8) ≤ (Int.toNat 12) := (natLe2 g_3la g_3ha g_3lb)
      have vg_3_hm : (Int.toNat 12) ≤ c_1 := (Nat.le_trans (natLe g_3ha g_3hb) hc_t)
      have vg_3_mc : c_1 ≤ c_1 := (Nat.le_refl _)
      have vg_3_hl : (Int.toNat 12) ≤ t.length := (leLen g_3ha g_3hb rfl)
      refine ⟨g_3ha, (leCap g_3hb hc_t), g_3la, (leNat g_3ha g_3lb), ?_⟩
      refine pmp_get_ok (FL := cel b_2 36 [(Value.int .i64 0), (Value.int .i64 0), (Value.int .i64 0), (Value.int .i64 0), (Value.int .u64 0), (Value.int .i64 0), (Value.int .i64 0), (Value.int .u32 0)] :: cel b_1 38 [(Value.slice p_1 t.length c_1)] :: cel b_3 36 [(Value.int .i64 Ver), (Value.int .i64 Inside), (Value.int .i64 Port), (Value.int .i64 Secs), (Value.int .u64 Nonce), (Value.int .i64 Result_), (Value.int .i64 Epoch), (Value.int .u32 Host)] :: FL) (fun w h => (Rd.view (hF_t _ (h.drop 3)) (l := (Int.toNat 8)) (h := (Int.toNat 12)) (m := c_1) vg_3_hm)) (viewLen vg_3_hl) (Nat.sub_le_sub_right vg_3_hm _) h hp ?_
      intro r_5 w h hp
      refine ⟨_, rfl, ?_⟩
      refine storeL (ys := [(Value.int .u32 (IntKind.wrap .u32 r_5))]) h 2 7 rfl rfl rfl sz22 rfl rfl ?_
      intro w h
      dsimp only [setH, setVs, setV] at h
      exact ⟨Inside, Port, Secs, (IntKind.wrap .u32 r_5), rfl, rfl, hp, h⟩
    replace h := h.drew
    refine ⟨fun w => Mem (cel b_1 38 [(Value.slice p_1 t.length c_1)] :: FL) w, (h.sel [1] 2), ?_⟩
    refine ⟨_, _, _, cellL h 1 0 rfl rfl rfl, ?_⟩
    obtain ⟨g_4ha, g_4hb, g_4la, g_4lb, hp⟩ := hp
    have vg_4_lh : (Int.toNat 8) ≤ (Int.toNat 10) := (natLe2 g_4la g_4ha g_4lb)
    have vg_4_hm : (Int.toNat 10) ≤ c_1 := (Nat.le_trans (natLe g_4ha g_4hb) hc_t)
    have vg_4_mc : c_1 ≤ c_1 := (Nat.le_refl _)
    have vg_4_hl : (Int.toNat 10) ≤ t.length := (leLen g_4ha g_4hb rfl)
    refine ⟨g_4ha, (leCap g_4hb hc_t), g_4la, (leNat g_4ha g_4lb), ?_⟩
    refine ⟨_, _, _, cellL h 1 0 rfl rfl rfl, ?_⟩
    refine ⟨?_, ?_⟩
    · intro w h
      change Mem _ _ at h
      refine ⟨_, _, _, cellL h 0 0 rfl rfl rfl, ?_⟩
      exact ⟨rfl, rfl⟩
    obtain ⟨g_5ha, g_5hb, g_5la, g_5lb, hp⟩ := hp
    have vg_5_lh : (Int.toNat 10) ≤ (Int.toNat 12) := (natLe2 g_5la g_5ha g_5lb)
    have vg_5_hm : (Int.toNat 12) ≤ c_1 := (Nat.le_trans (natLe g_5ha g_5hb) hc_t)
    have vg_5_mc : c_1 ≤ c_1 := (Nat.le_refl _)
    have vg_5_hl : (Int.toNat 12) ≤ t.length := (leLen g_5ha g_5hb rfl)
    refine ⟨g_5ha, (leCap g_5hb hc_t), g_5la, (leNat g_5ha g_5lb), ?_⟩
    refine ⟨_, _, _, cellL h 1 0 rfl rfl rfl, ?_⟩
    refine ⟨?_, ?_⟩
    · intro w h
      change Mem _ _ at h
      refine ⟨_, _, _, cellL h 0 0 rfl rfl rfl, ?_⟩
      exact ⟨rfl, rfl⟩
    obtain ⟨g_6ha, g_6hb, g_6la, g_6lb, hp⟩ := hp
    have vg_6_lh : (Int.toNat 12) ≤ (Int.toNat 16) := (natLe2 g_6la g_6ha g_6lb)
    have vg_6_hm : (Int.toNat 16) ≤ c_1 := (Nat.le_trans (natLe g_6ha g_6hb) hc_t)
    have vg_6_mc : c_1 ≤ c_1 := (Nat.le_refl _)
    have vg_6_hl : (Int.toNat 16) ≤ t.length := (leLen g_6ha g_6hb rfl)
    refine ⟨g_6ha, (leCap g_6hb hc_t), g_6la, (leNat g_6ha g_6lb), ?_⟩
    refine pmp_get_ok (FL := cel b_2 36 [(Value.int .i64 0), (Value.int .i64 0), (Value.int .i64 0), (Value.int .i64 0), (Value.int .u64 0), (Value.int .i64 0), (Value.int .i64 0), (Value.int .u32 0)] :: cel b_1 38 [(Value.slice p_1 t.length c_1)] :: cel b_3 36 [(Value.int .i64 Ver), (Value.int .i64 Inside), (Value.int .i64 Port), (Value.int .i64 Secs), (Value.int .u64 Nonce), (Value.int .i64 Result_), (Value.int .i64 Epoch), (Value.int .u32 Host)] :: FL) (fun w h => (Rd.view (hF_t _ (h.drop 3)) (l := (Int.toNat 8)) (h := (Int.toNat 10)) (m := c_1) vg_4_hm)) (viewLen vg_4_hl) (Nat.sub_le_sub_right vg_4_hm _) h hp ?_
    intro r_6 w h hp
    refine ⟨_, rfl, ?_⟩
    refine ⟨(h.sel [1] 2), ?_⟩
    refine pmp_get_ok (FL := cel b_2 36 [(Value.int .i64 0), (Value.int .i64 0), (Value.int .i64 0), (Value.int .i64 0), (Value.int .u64 0), (Value.int .i64 0), (Value.int .i64 0), (Value.int .u32 0)] :: cel b_1 38 [(Value.slice p_1 t.length c_1)] :: cel b_3 36 [(Value.int .i64 Ver), (Value.int .i64 Inside), (Value.int .i64 Port), (Value.int .i64 Secs), (Value.int .u64 Nonce), (Value.int .i64 Result_), (Value.int .i64 Epoch), (Value.int .u32 Host)] :: FL) (fun w h => (Rd.view (hF_t _ (h.drop 3)) (l := (Int.toNat 10)) (h := (Int.toNat 12)) (m := c_1) vg_5_hm)) (viewLen vg_5_hl) (Nat.sub_le_sub_right vg_5_hm _) h hp ?_
    intro r_7 w h hp
    refine ⟨_, rfl, ?_⟩
    refine ⟨(h.sel [1] 2), ?_⟩
    refine pmp_get_ok (FL := cel b_2 36 [(Value.int .i64 0), (Value.int .i64 0), (Value.int .i64 0), (Value.int .i64 0), (Value.int .u64 0), (Value.int .i64 0), (Value.int .i64 0), (Value.int .u32 0)] :: cel b_1 38 [(Value.slice p_1 t.length c_1)] :: cel b_3 36 [(Value.int .i64 Ver), (Value.int .i64 Inside), (Value.int .i64 Port), (Value.int .i64 Secs), (Value.int .u64 Nonce), (Value.int .i64 Result_), (Value.int .i64 Epoch), (Value.int .u32 Host)] :: FL) (fun w h => (Rd.view (hF_t _ (h.drop 3)) (l := (Int.toNat 12)) (h := (Int.toNat 16)) (m := c_1) vg_6_hm)) (viewLen vg_6_hl) (Nat.sub_le_sub_right vg_6_hm _) h hp ?_
    intro r_8 w h hp
    refine ⟨_, rfl, ?_⟩
    refine storeL (ys := [(Value.int .i64 r_6)]) h 2 1 rfl rfl rfl sz3 rfl rfl ?_
    intro w h
    dsimp only [setH, setVs, setV] at h
    refine storeL (ys := [(Value.int .i64 r_7)]) h 2 2 rfl rfl rfl sz3 rfl rfl ?_
    intro w h
    dsimp only [setH, setVs, setV] at h
    refine storeL (ys := [(Value.int .i64 r_8)]) h 2 3 rfl rfl rfl sz3 rfl rfl ?_
    intro w h
    dsimp only [setH, setVs, setV] at h
    exact ⟨r_6, r_7, r_8, Host, rfl, rfl, hp, h⟩
  clear hq
  replace h := h.drew
  refine ⟨fun w => Mem (cel b_1 38 [(Value.slice p_1 t.length c_1)] :: FL) w, (h.sel [1] 1), ?_⟩
  refine ⟨_, _, _, cellL h 1 0 rfl rfl rfl, ?_⟩
  refine ⟨?_, ?_⟩
  · intro w h
    change Mem _ _ at h
    refine ⟨_, _, _, cellL h 0 0 rfl rfl rfl, ?_⟩
    exact ⟨rfl, rfl⟩
  obtain ⟨g_1ha, g_1hb, g_1la, g_1lb, hp⟩ := hp
  have vg_1_lh : (Int.toNat 2) ≤ (Int.toNat 4) := (natLe2 g_1la g_1ha g_1lb)
  have vg_1_hm : (Int.toNat 4) ≤ c_1 := (Nat.le_trans (natLe g_1ha g_1hb) hc_t)
  have vg_1_mc : c_1 ≤ c_1 := (Nat.le_refl _)
  have vg_1_hl : (Int.toNat 4) ≤ t.length := (leLen g_1ha g_1hb rfl)
  refine ⟨g_1ha, (leCap g_1hb hc_t), g_1la, (leNat g_1ha g_1lb), ?_⟩
  refine ⟨_, _, _, cellL h 1 0 rfl rfl rfl, ?_⟩
  refine ⟨?_, ?_⟩
  · intro w h
    change Mem _ _ at h
    refine ⟨_, _, _, cellL h 0 0 rfl rfl rfl, ?_⟩
    exact ⟨rfl, rfl⟩
  obtain ⟨g_2ha, g_2hb, g_2la, g_2lb, hp⟩ := hp
  have vg_2_lh : (Int.toNat 4) ≤ (Int.toNat 8) := (natLe2 g_2la g_2ha g_2lb)
  have vg_2_hm : (Int.toNat 8) ≤ c_1 := (Nat.le_trans (natLe g_2ha g_2hb) hc_t)
  have vg_2_mc : c_1 ≤ c_1 := (Nat.le_refl _)
  have vg_2_hl : (Int.toNat 8) ≤ t.length := (leLen g_2ha g_2hb rfl)
  refine ⟨g_2ha, (leCap g_2hb hc_t), g_2la, (leNat g_2ha g_2lb), ?_⟩
  refine ⟨?_, ?_⟩
  · replace hp := hp.1
    refine pmp_get_ok (FL := cel b_2 36 [(Value.int .i64 0), (Value.int .i64 0), (Value.int .i64 0), (Value.int .i64 0), (Value.int .u64 0), (Value.int .i64 0), (Value.int .i64 0), (Value.int .u32 0)] :: cel b_1 38 [(Value.slice p_1 t.length c_1)] :: FL) (fun w h => (Rd.view (hF_t _ (h.drop 2)) (l := (Int.toNat 2)) (h := (Int.toNat 4)) (m := c_1) vg_1_hm)) (viewLen vg_1_hl) (Nat.sub_le_sub_right vg_1_hm _) h hp ?_
    intro r w h hp
    refine ⟨_, rfl, ?_⟩
    refine ⟨(h.sel [1] 1), ?_⟩
    refine ⟨?_, ?_⟩
    · replace hp := hp.1
      refine pmp_get_ok (FL := cel b_2 36 [(Value.int .i64 0), (Value.int .i64 0), (Value.int .i64 0), (Value.int .i64 0), (Value.int .u64 0), (Value.int .i64 0), (Value.int .i64 0), (Value.int .u32 0)] :: cel b_1 38 [(Value.slice p_1 t.length c_1)] :: FL) (fun w h => (Rd.view (hF_t _ (h.drop 2)) (l := (Int.toNat 4)) (h := (Int.toNat 8)) (m := c_1) vg_2_hm)) (viewLen vg_2_hl) (Nat.sub_le_sub_right vg_2_hm _) h hp ?_
      intro r_1 w h hp
      refine ⟨_, rfl, ?_⟩
      refine newL (o := [(Value.int .i64 0), (Value.int .i64 0), (Value.int .i64 0), (Value.int .i64 0), (Value.int .u64 0), (Value.int .i64 0), (Value.int .i64 0), (Value.int .u32 0)]) h ?_
      intro b_4 w h
      refine ⟨(h.sel [2] 2), ?_⟩
      refine storeL (ys := [(Value.int .i64 0), (Value.int .i64 0), (Value.int .i64 0), (Value.int .i64 0), (Value.int .u64 0), (Value.int .i64 r), (Value.int .i64 r_1), (Value.int .u32 0)]) h 0 0 rfl rfl rfl sz36 rfl rfl ?_
      intro w h
      dsimp only [setH, setVs, setV] at h
      replace h := h.sel [1, 1, 0] 0
      dsimp only [pickL, pickR, nthH, delH, dropH, List.cons_append, List.nil_append] at h
      exact ⟨b_4, 0, 0, 0, 0, 0, r, r_1, 0, rfl, rfl, rfl, rfl, hp, h⟩
    replace hp := hp.2
    refine newL (o := [(Value.int .i64 0), (Value.int .i64 0), (Value.int .i64 0), (Value.int .i64 0), (Value.int .u64 0), (Value.int .i64 0), (Value.int .i64 0), (Value.int .u32 0)]) h ?_
    intro b_5 w h
    refine ⟨(h.sel [2] 2), ?_⟩
    refine pmp_get_ok (FL := cel b_5 36 [(Value.int .i64 0), (Value.int .i64 0), (Value.int .i64 0), (Value.int .i64 0), (Value.int .u64 0), (Value.int .i64 0), (Value.int .i64 0), (Value.int .u32 0)] :: cel b_2 36 [(Value.int .i64 0), (Value.int .i64 0), (Value.int .i64 0), (Value.int .i64 0), (Value.int .u64 0), (Value.int .i64 0), (Value.int .i64 0), (Value.int .u32 0)] :: cel b_1 38 [(Value.slice p_1 t.length c_1)] :: FL) (fun w h => (Rd.view (hF_t _ (h.drop 3)) (l := (Int.toNat 4)) (h := (Int.toNat 8)) (m := c_1) vg_2_hm)) (viewLen vg_2_hl) (Nat.sub_le_sub_right vg_2_hm _) h hp ?_
    intro r_2 w h hp
    refine ⟨_, rfl, ?_⟩
    refine storeL (ys := [(Value.int .i64 0), (Value.int .i64 0), (Value.int .i64 0), (Value.int .i64 0), (Value.int .u64 0), (Value.int .i64 r), (Value.int .i64 r_2), (Value.int .u32 0)]) h 0 0 rfl rfl rfl sz36 rfl rfl ?_
    intro w h
    dsimp only [setH, setVs, setV] at h
    replace h := h.sel [1, 1, 0] 0
    dsimp only [pickL, pickR, nthH, delH, dropH, List.cons_append, List.nil_append] at h
    exact ⟨b_5, 0, 0, 0, 0, 0, r, r_2, 0, rfl, rfl, rfl, rfl, hp, h⟩
  replace hp := hp.2
  refine newL (o := [(Value.int .i64 0), (Value.int .i64 0), (Value.int .i64 0), (Value.int .i64 0), (Value.int .u64 0), (Value.int .i64 0), (Value.int .i64 0), (Value.int .u32 0)]) h ?_
  intro b_6 w h
  refine ⟨(h.sel [2] 2), ?_⟩
  refine pmp_get_ok (FL := cel b_6 36 [(Value.int .i64 0), (Value.int .i64 0), (Value.int .i64 0), (Value.int .i64 0), (Value.int .u64 0), (Value.int .i64 0), (Value.int .i64 0), (Value.int .u32 0)] :: cel b_2 36 [(Value.int .i64 0), (Value.int .i64 0), (Value.int .i64 0), (Value.int .i64 0), (Value.int .u64 0), (Value.int .i64 0), (Value.int .i64 0), (Value.int .u32 0)] :: cel b_1 38 [(Value.slice p_1 t.length c_1)] :: FL) (fun w h => (Rd.view (hF_t _ (h.drop 3)) (l := (Int.toNat 2)) (h := (Int.toNat 4)) (m := c_1) vg_1_hm)) (viewLen vg_1_hl) (Nat.sub_le_sub_right vg_1_hm _) h hp ?_
  intro r_3 w h hp
  refine ⟨_, rfl, ?_⟩
  refine ⟨(h.sel [2] 2), ?_⟩
  refine pmp_get_ok (FL := cel b_6 36 [(Value.int .i64 0), (Value.int .i64 0), (Value.int .i64 0), (Value.int .i64 0), (Value.int .u64 0), (Value.int .i64 0), (Value.int .i64 0), (Value.int .u32 0)] :: cel b_2 36 [(Value.int .i64 0), (Value.int .i64 0), (Value.int .i64 0), (Value.int .i64 0), (Value.int .u64 0), (Value.int .i64 0), (Value.int .i64 0), (Value.int .u32 0)] :: cel b_1 38 [(Value.slice p_1 t.length c_1)] :: FL) (fun w h => (Rd.view (hF_t _ (h.drop 3)) (l := (Int.toNat 4)) (h := (Int.toNat 8)) (m := c_1) vg_2_hm)) (viewLen vg_2_hl) (Nat.sub_le_sub_right vg_2_hm _) h hp ?_
  intro r_4 w h hp
  refine ⟨_, rfl, ?_⟩
  refine storeL (ys := [(Value.int .i64 0), (Value.int .i64 0), (Value.int .i64 0), (Value.int .i64 0), (Value.int .u64 0), (Value.int .i64 r_3), (Value.int .i64 r_4), (Value.int .u32 0)]) h 0 0 rfl rfl rfl sz36 rfl rfl ?_
  intro w h
  dsimp only [setH, setVs, setV] at h
  replace h := h.sel [1, 1, 0] 0
  dsimp only [pickL, pickR, nthH, delH, dropH, List.cons_append, List.nil_append] at h
  exact ⟨b_6, 0, 0, 0, 0, 0, r_3, r_4, 0, rfl, rfl, rfl, rfl, hp, h⟩

/-! slices.Equal[[]byte,byte] (49) -/
def slices_Equal_sl_byte_byte_wp (s : List (Int)) (s_1 : List (Int)) (K : Bool → Prop) : Prop :=
  cond ((((s.length : Nat) : Int) : Int) != ((s_1.length : Nat) : Int)) (K false) (∃ (I : Nat → Int → Prop), (∃ (n_5 : Nat), I n_5 0) ∧ ∀ (n_3 : Nat) (t13 : Int), I n_3 t13 → (cond (decide ((t13 : Int) < ((s.length : Nat) : Int))) (0 ≤ (t13 : Int) ∧ (t13 : Int) < ((s.length : Nat) : Int) ∧ (∀ (x_1 : Int), s[Int.toNat t13]? = some x_1 → (0 ≤ (t13 : Int) ∧ (t13 : Int) < ((s_1.length : Nat) : Int) ∧ (∀ (x_2 : Int), s_1[Int.toNat t13]? = some x_2 → (cond ((x_1 : Int) != x_2) (K false) (∃ (n_4 : Nat), n_4 < n_3 ∧ I n_4 (IntKind.wrap .i64 (t13 + 1)))))))) (K true)))
theorem slices_Equal_sl_byte_byte_ok {p_1 : Option Addr} {n_1 : Nat} {c_1 : Nat} {p_2 : Option Addr} {n_2 : Nat} {c_2 : Nat} {s : List (Int)} {s_1 : List (Int)} {FL : List HP} {w : World} {K : Bool → Prop} {R : Value → World → Prop}
  (hF_s : ∀ w, Mem FL w → Rd w 1 p_1 enc5 s) (hl_s : n_1 = s.length) (hc_s : n_1 ≤ c_1)
  (hF_s_1 : ∀ w, Mem FL w → Rd w 1 p_2 enc5 s_1) (hl_s_1 : n_2 = s_1.length) (hc_s_1 : n_2 ≤ c_2)
  (h : Mem (FL) w) (hp : slices_Equal_sl_byte_byte_wp s s_1 K)
  (hR : ∀ (r : Bool) (w : World), Mem (FL) w → K r → R (Value.bool r) w) :
  CallV Try.prog 49 #[(Value.slice p_1 n_1 c_1), (Value.slice p_2 n_2 c_2)] w R := by
  refine slices_Equal_sl_byte_byte_call ?_
  unfold slices_Equal_sl_byte_byte
  unfold slices_Equal_sl_byte_byte_wp at hp
  subst hl_s
  subst hl_s_1
  refine cond_both hp (fun hp => ?_) (fun hp => ?_)
  · exact hR false _ h hp
  obtain ⟨I, ⟨n_5, h0⟩, hq⟩ := hp
  refine ⟨fun n_3 s10p s10l s10c s21p s21l s21c t12 t13 w => p_1 = s10p ∧ s.length = s10l ∧ c_1 = s10c ∧ p_2 = s21p ∧ s_1.length = s21l ∧ c_2 = s21c ∧ ((s.length : Nat) : Int) = t12 ∧ I n_3 t13 ∧ Mem (FL) w, ⟨n_5, rfl, rfl, rfl, rfl, rfl, rfl, rfl, h0, h⟩, ?_⟩
  clear h0 h
  rintro n_3 s10p s10l s10c s21p s21l s21c t12 t13 w ⟨rfl, rfl, rfl, rfl, rfl, rfl, rfl, hp, h⟩
  replace hp := hq n_3 t13 hp
  clear hq
  unfold slices_Equal_sl_byte_byte_l1
  refine cond_both' hp (fun hp => ?_) (fun hp => ?_)
  · exact hR true _ h hp
  replace h := h.drew
  obtain ⟨ia_1, ja_1, hp⟩ := hp
  obtain ⟨a_1, ha_1⟩ := rdAddr (hF_s _ (h.drop 0)) rfl ia_1 ja_1
  refine ⟨a_1, ha_1, ia_1, ja_1, ?_⟩
  obtain ⟨x_1, hx_1, hc⟩ := rdCell0 (hF_s _ (h.drop 0)) ha_1 rfl ia_1 ja_1
  replace hp := hp x_1 hx_1
  refine ⟨_, hc _ rfl, ?_⟩
  obtain ⟨ia_2, ja_2, hp⟩ := hp
  obtain ⟨a_2, ha_2⟩ := rdAddr (hF_s_1 _ (h.drop 0)) rfl ia_2 ja_2
  refine ⟨a_2, ha_2, ia_2, ja_2, ?_⟩
  obtain ⟨x_2, hx_2, hc⟩ := rdCell0 (hF_s_1 _ (h.drop 0)) ha_2 rfl ia_2 ja_2
  replace hp := hp x_2 hx_2
  refine ⟨_, hc _ rfl, ?_⟩
  refine cond_both hp (fun hp => ?_) (fun hp => ?_)
  · exact hR false _ h hp
  obtain ⟨n_4, hn, hp⟩ := hp
  exact ⟨n_4, hn, rfl, rfl, rfl, rfl, rfl, rfl, rfl, hp, h⟩

end Go.Proofs.Ytighenkbdiahpaa
