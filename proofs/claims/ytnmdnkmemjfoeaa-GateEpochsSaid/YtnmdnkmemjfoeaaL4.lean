/- Each function over plain data (printed by a program of this claim's author). -/
import Derived.Test.YtnmdnkmemjfoeaaL3
namespace Go.Proofs.Ytnmdnkmemjfoeaa
open Go Go.Eng Go.Proofs
set_option maxRecDepth 100000
set_option maxHeartbeats 2000000
def nat_Nat_Reboot_wp (box box_1 box_2 box_3 box_4 box_5 box_6 now : Int) (K : List (Option Nat) → Int → Prop) : Prop :=
  K ([] : List (Option Nat)) 0
theorem nat_Nat_Reboot_ok {b_1 : Nat} {p_1 : Option Addr} {n_1 c_1 : Nat} {box box_1 box_2 box_3 box_4 box_5 box_6 now : Int} {FL : List HP} {w : World} {K : List (Option Nat) → Int → Prop} {R : Value → World → Prop}
  (h : Mem (cel b_1 71 [Value.int .u32 box, Value.int .i64 box_1, Value.int .i64 box_2, Value.int .i64 box_3, Value.int .i64 box_4, Value.int .i64 box_5, Value.int .i64 box_6, Value.slice p_1 n_1 c_1, Value.int .i64 now] :: FL) w) (hp : nat_Nat_Reboot_wp box box_1 box_2 box_3 box_4 box_5 box_6 now K)
  (hR : ∀ (list : List (Option Nat)) (now_1 : Int) (p_2 : Option Addr) (n_2 c_2 : Nat) (w : World), n_2 = list.length → Mem (cel b_1 71 [Value.int .u32 box, Value.int .i64 box_1, Value.int .i64 box_2, Value.int .i64 box_3, Value.int .i64 box_4, Value.int .i64 box_5, Value.int .i64 box_6, Value.slice p_2 n_2 c_2, Value.int .i64 now_1] :: row enc82 82 1 p_2 c_2 list :: FL) w → K list now_1 → R undef w) :
  CallV Try.prog 49 #[Value.pointer (some (Addr.mk b_1 0 none))] w R := by
  refine nat_Nat_Reboot_call ?_
  unfold nat_Nat_Reboot
  unfold nat_Nat_Reboot_wp at hp
  refine ⟨_, rfl, ?_⟩
  replace h := rowNil enc82 82 1 h
  refine storeL (ys := [Value.slice none  0 0]) h 1 7 rfl rfl rfl sz69 rfl rfl ?_
  intro w h
  dsimp only [setH, setVs, setV] at h
  refine ⟨_, rfl, ?_⟩
  refine storeL (ys := [Value.int .i64 0]) h 1 8 rfl rfl rfl sz3 rfl rfl ?_
  intro w h
  dsimp only [setH, setVs, setV] at h
  replace h := h.sel [1, 0] 0
  dsimp only [pickL, pickR, nthH, delH, dropH, List.cons_append, List.nil_append] at h
  exact hR ([] : List (Option Nat)) 0 (none ) 0 0 _ rfl h hp
def gate_Gate_Reboot_wp (box box_1 box_2 box_3 box_4 box_5 box_6 now : Int) (g_1 g_2 : Bool) (g_3 boot now_1 : Int) (by_ : List ((Int × Int) × (Int × Int))) (now_2 : Int) (K : Int → List (Option Nat) → Int → List ((Int × Int) × (Int × Int)) → Prop) : Prop :=
  nat_Nat_Reboot_wp box box_1 box_2 box_3 box_4 box_5 box_6 now (fun (list_1 : List (Option Nat)) (now_4 : Int) => K now_2 list_1 now_4 ([] : List ((Int × Int) × (Int × Int))))
theorem gate_Gate_Reboot_ok {b_1 b_2 : Nat} {p_1 : Option Addr} {n_1 c_1 b_3 : Nat} {p_2 : List MapEntry × Nat} {box box_1 box_2 box_3 box_4 box_5 box_6 now : Int} {g_1 g_2 : Bool} {g_3 boot now_1 : Int} {by_ : List ((Int × Int) × (Int × Int))} {now_2 : Int} {FL : List HP} {w : World} {K : Int → List (Option Nat) → Int → List ((Int × Int) × (Int × Int)) → Prop} {R : Value → World → Prop}
  (h : Mem (cel b_1 75 [Value.pointer (some (Addr.mk b_2 0 none)), Value.bool g_1, Value.bool g_2, Value.int .i64 g_3, Value.int .i64 boot, Value.int .i64 now_1, Value.map (some b_3)] :: cel b_2 71 [Value.int .u32 box, Value.int .i64 box_1, Value.int .i64 box_2, Value.int .i64 box_3, Value.int .i64 box_4, Value.int .i64 box_5, Value.int .i64 box_6, Value.slice p_1 n_1 c_1, Value.int .i64 now] :: mapQ b_3 va25 va111 p_2 by_ :: FL) w) (hp : gate_Gate_Reboot_wp box box_1 box_2 box_3 box_4 box_5 box_6 now g_1 g_2 g_3 boot now_1 by_ now_2 K)
  (hR : ∀ (boot_1 : Int) (list : List (Option Nat)) (now_3 : Int) (m_1 : List ((Int × Int) × (Int × Int))) (p_3 : Option Addr) (n_2 c_2 : Nat) (p_4 : List MapEntry × Nat) (w : World), n_2 = list.length → Mem (cel b_1 75 [Value.pointer (some (Addr.mk b_2 0 none)), Value.bool g_1, Value.bool g_2, Value.int .i64 g_3, Value.int .i64 boot_1, Value.int .i64 now_1, Value.map (some b_3)] :: cel b_2 71 [Value.int .u32 box, Value.int .i64 box_1, Value.int .i64 box_2, Value.int .i64 box_3, Value.int .i64 box_4, Value.int .i64 box_5, Value.int .i64 box_6, Value.slice p_3 n_2 c_2, Value.int .i64 now_3] :: row enc82 82 1 p_3 c_2 list :: mapQ b_3 va25 va111 p_4 m_1 :: FL) w → K boot_1 list now_3 m_1 → R undef w) :
  CallV Try.prog 19 #[Value.pointer (some (Addr.mk b_1 0 none)), Value.int .i64 now_2] w R := by
  refine gate_Gate_Reboot_call ?_
  unfold gate_Gate_Reboot
  unfold gate_Gate_Reboot_wp at hp
  refine ⟨_, rfl, ?_⟩
  refine ⟨_, cellL h 0 0 rfl rfl rfl, ?_⟩
  replace h := h.pick [1]
  dsimp only [pickL, pickR, nthH, delH, dropH, List.cons_append, List.nil_append] at h
  refine nat_Nat_Reboot_ok h hp ?_
  rintro list_1 now_4 p_5 n_3 c_3 w rfl h hp
  have cpp_5 := rowCap h 1 rfl
  refine ⟨rfl, ?_⟩
  refine ⟨_, rfl, ?_⟩
  refine ⟨_, cellL h 2 6 rfl rfl rfl, ?_⟩
  refine mapClearG h 3 rfl mu73 ?_
  intro p_6 w h
  dsimp only [setH, setVs, setV] at h
  refine ⟨rfl, ?_⟩
  refine ⟨_, rfl, ?_⟩
  refine storeL (ys := [Value.int .i64 now_2]) h 2 4 rfl rfl rfl sz3 rfl rfl ?_
  intro w h
  dsimp only [setH, setVs, setV] at h
  replace h := h.sel [2, 0, 0, 0] 0
  dsimp only [pickL, pickR, nthH, delH, dropH, List.cons_append, List.nil_append] at h
  exact hR now_2 list_1 now_4 ([] : List ((Int × Int) × (Int × Int))) p_5 list_1.length c_3 p_6 _ rfl h hp
def pcp_ReadAnswer_wp (b_1 : List (Int)) (K : Int → Int → Int → Int → Int → Int → Int → Int → Int → Prop) : Prop :=
  cond ((((b_1.length : Nat) : Int) : Int) != 60) (K 0 0 0 0 0 0 0 0 3) (pcp_mapped_wp b_1 (fun (r r_1 r_2 r_3 r_4 r_5 r_6 r_7 : Int) => 0 ≤ (3 : Int) ∧ (3 : Int) < ((b_1.length : Nat) : Int) ∧ (∀ (x_2 : Int), b_1[Int.toNat 3]? = some x_2 → (0 ≤ (12 : Int) ∧ (12 : Int) ≤ ((b_1.length : Nat) : Int) ∧ 0 ≤ (8 : Int) ∧ (8 : Int) ≤ (12 : Int) ∧ (pcp_get_wp ((b_1.take (Int.toNat 12)).drop (Int.toNat 8)) (fun (r_8 : Int) => pcp_Answer_wp r r_1 r_2 r_3 r_4 (IntKind.wrap .i64 x_2) (IntKind.wrap .i64 r_8) r_7 (fun (rs : List (Int)) => bytes_Equal_wp rs b_1 (fun (r_9 : Bool) => cond (!r_9) (K 0 0 0 0 0 0 0 0 3) (K r r_1 r_2 r_3 r_4 (IntKind.wrap .i64 x_2) (IntKind.wrap .i64 r_8) r_7 0)))))))))
theorem pcp_ReadAnswer_ok {p_1 : Option Addr} {n_1 c_1 : Nat} {b_1 : List (Int)} {FL : List HP} {w : World} {K : Int → Int → Int → Int → Int → Int → Int → Int → Int → Prop} {R : Value → World → Prop}
  (hF_b_1 : ∀ w, Mem FL w → Rd w 1 p_1 enc5 b_1) (hl_b_1 : n_1 = b_1.length) (hc_b_1 : n_1 ≤ c_1)
  (h : Mem (FL) w) (hp : pcp_ReadAnswer_wp b_1 K)
  (hR : ∀ (r r_1 r_2 r_3 r_4 r_5 r_6 r_7 r_8 : Int) (w : World), Mem (FL) w → K r r_1 r_2 r_3 r_4 r_5 r_6 r_7 r_8 → R (Value.tuple #[(Value.agg #[Value.int .i64 r, Value.int .i64 r_1, Value.int .i64 r_2, Value.int .i64 r_3, Value.int .u64 r_4, Value.int .i64 r_5, Value.int .i64 r_6, Value.int .u32 r_7]), Value.int .i64 r_8]) w) :
  CallV Try.prog 16 #[Value.slice p_1 n_1 c_1] w R := by
  refine pcp_ReadAnswer_call ?_
  unfold pcp_ReadAnswer
  unfold pcp_ReadAnswer_wp at hp
  subst hl_b_1
  refine newL (o := [Value.int .i64 0, Value.int .i64 0, Value.int .i64 0, Value.int .i64 0, Value.int .u64 0, Value.int .i64 0, Value.int .i64 0, Value.int .u32 0]) h ?_
  intro b_2 w h
  refine cond_both hp (fun hp => ?_) (fun hp => ?_)
  · refine storeL (ys := [Value.int .i64 0, Value.int .i64 0, Value.int .i64 0, Value.int .i64 0, Value.int .u64 0, Value.int .i64 0, Value.int .i64 0, Value.int .u32 0]) h 0 0 rfl rfl rfl sz41 rfl rfl ?_
    intro w h
    dsimp only [setH, setVs, setV] at h
    refine ⟨_, cellL h 0 0 rfl rfl rfl, _, cellL h 0 1 rfl rfl rfl, _, cellL h 0 2 rfl rfl rfl, _, cellL h 0 3 rfl rfl rfl, _, cellL h 0 4 rfl rfl rfl, _, cellL h 0 5 rfl rfl rfl, _, cellL h 0 6 rfl rfl rfl, _, cellL h 0 7 rfl rfl rfl, ?_⟩
    replace h := h.sel [] 1
    dsimp only [pickL, pickR, nthH, delH, dropH, List.cons_append, List.nil_append] at h
    exact hR 0 0 0 0 0 0 0 0 3 _ h hp
  refine pcp_mapped_ok (FL := cel b_2 41 [Value.int .i64 0, Value.int .i64 0, Value.int .i64 0, Value.int .i64 0, Value.int .u64 0, Value.int .i64 0, Value.int .i64 0, Value.int .u32 0] :: FL) (fun w h => (hF_b_1 _ (h.drop 1))) rfl hc_b_1 h hp ?_
  intro r r_1 r_2 r_3 r_4 r_5 r_6 r_7 w h hp
  refine ⟨_, _, _, _, _, _, _, _, rfl, ?_⟩
  refine newL (o := [Value.int .i64 0, Value.int .i64 0, Value.int .i64 0, Value.int .i64 0, Value.int .u64 0, Value.int .i64 0, Value.int .i64 0, Value.int .u32 0]) h ?_
  intro b_3 w h
  refine storeL (ys := [Value.int .i64 r, Value.int .i64 r_1, Value.int .i64 r_2, Value.int .i64 r_3, Value.int .u64 r_4, Value.int .i64 r_5, Value.int .i64 r_6, Value.int .u32 r_7]) h 0 0 rfl rfl rfl sz41 rfl rfl ?_
  intro w h
  dsimp only [setH, setVs, setV] at h
  replace h := h.drew
  refine ⟨fun w => Mem (FL) w, (h.sel [] 2), ?_⟩
  obtain ⟨ia_1, ja_1, hp⟩ := hp
  obtain ⟨a_1, ha_1⟩ := rdAddr (hF_b_1 _ (h.drop 2)) rfl ia_1 ja_1
  refine ⟨a_1, ha_1, ia_1, ja_1, ?_⟩
  obtain ⟨x_2, hx_2, hc⟩ := rdCell0 (hF_b_1 _ (h.drop 2)) ha_1 rfl ia_1 ja_1
  replace hp := hp x_2 hx_2
  refine ⟨_, hc _ rfl, ?_⟩
  refine ⟨?_, ?_⟩
  · intro w h
    change Mem _ _ at h
    obtain ⟨x_1, hx_1, hcq⟩ := rdCell0 (hF_b_1 _ (h.drop 0)) ha_1 rfl ia_1 ja_1
    obtain rfl : x_1 = x_2 := Option.some.inj (hx_1.symm.trans hx_2)
    refine ⟨_, hcq _ rfl, ?_⟩
    exact ⟨rfl, rfl⟩
  obtain ⟨g_1ha, g_1hb, g_1la, g_1lb, hp⟩ := hp
  have vg_1_lh : (Int.toNat 8) ≤ (Int.toNat 12) := (natLe2 g_1la g_1ha g_1lb)
  have vg_1_hm : (Int.toNat 12) ≤ c_1 := (Nat.le_trans (natLe g_1ha g_1hb) hc_b_1)
  have vg_1_mc : c_1 ≤ c_1 := (Nat.le_refl _)
  have vg_1_hl : (Int.toNat 12) ≤ b_1.length := (leLen g_1ha g_1hb rfl)
  refine ⟨g_1ha, (leCap g_1hb hc_b_1), g_1la, (leNat g_1ha g_1lb), ?_⟩
  refine pcp_get_ok (FL := cel b_3 41 [Value.int .i64 r, Value.int .i64 r_1, Value.int .i64 r_2, Value.int .i64 r_3, Value.int .u64 r_4, Value.int .i64 r_5, Value.int .i64 r_6, Value.int .u32 r_7] :: cel b_2 41 [Value.int .i64 0, Value.int .i64 0, Value.int .i64 0, Value.int .i64 0, Value.int .u64 0, Value.int .i64 0, Value.int .i64 0, Value.int .u32 0] :: FL) (fun w h => (Rd.view (hF_b_1 _ (h.drop 2)) (l := (Int.toNat 8)) (h := (Int.toNat 12)) (m := c_1) vg_1_hm)) (viewLen vg_1_hl) (Nat.sub_le_sub_right vg_1_hm _) h hp ?_
  intro r_8 w h hp
  refine ⟨_, rfl, ?_⟩
  refine ⟨(h.sel [] 2), ?_⟩
  refine storeL (ys := [Value.int .i64 (IntKind.wrap .i64 x_2)]) h 0 5 rfl rfl rfl sz3 rfl rfl ?_
  intro w h
  dsimp only [setH, setVs, setV] at h
  refine storeL (ys := [Value.int .i64 (IntKind.wrap .i64 r_8)]) h 0 6 rfl rfl rfl sz3 rfl rfl ?_
  intro w h
  dsimp only [setH, setVs, setV] at h
  refine ⟨_, cellL h 0 0 rfl rfl rfl, _, cellL h 0 1 rfl rfl rfl, _, cellL h 0 2 rfl rfl rfl, _, cellL h 0 3 rfl rfl rfl, _, cellL h 0 4 rfl rfl rfl, _, cellL h 0 5 rfl rfl rfl, _, cellL h 0 6 rfl rfl rfl, _, cellL h 0 7 rfl rfl rfl, ?_⟩
  refine pcp_Answer_ok h hp ?_
  rintro rs p_2 n_2 c_2 w rfl h hp
  have cpp_2 := rowCap h 0 rfl
  refine ⟨_, _, _, rfl, ?_⟩
  refine bytes_Equal_ok (FL := row enc5 5 1 p_2 c_2 rs :: cel b_3 41 [Value.int .i64 r, Value.int .i64 r_1, Value.int .i64 r_2, Value.int .i64 r_3, Value.int .u64 r_4, Value.int .i64 (IntKind.wrap .i64 x_2), Value.int .i64 (IntKind.wrap .i64 r_8), Value.int .u32 r_7] :: cel b_2 41 [Value.int .i64 0, Value.int .i64 0, Value.int .i64 0, Value.int .i64 0, Value.int .u64 0, Value.int .i64 0, Value.int .i64 0, Value.int .u32 0] :: FL) (fun w h => (rowRd h 0 encL5 rfl)) rfl cpp_2 (fun w h => (hF_b_1 _ (h.drop 3))) rfl hc_b_1 h hp ?_
  intro r_9 w h hp
  refine ⟨_, rfl, ?_⟩
  refine cond_both hp (fun hp => ?_) (fun hp => ?_)
  · refine storeL (ys := [Value.int .i64 0, Value.int .i64 0, Value.int .i64 0, Value.int .i64 0, Value.int .u64 0, Value.int .i64 0, Value.int .i64 0, Value.int .u32 0]) h 2 0 rfl rfl rfl sz41 rfl rfl ?_
    intro w h
    dsimp only [setH, setVs, setV] at h
    refine ⟨_, cellL h 2 0 rfl rfl rfl, _, cellL h 2 1 rfl rfl rfl, _, cellL h 2 2 rfl rfl rfl, _, cellL h 2 3 rfl rfl rfl, _, cellL h 2 4 rfl rfl rfl, _, cellL h 2 5 rfl rfl rfl, _, cellL h 2 6 rfl rfl rfl, _, cellL h 2 7 rfl rfl rfl, ?_⟩
    replace h := h.sel [] 3
    dsimp only [pickL, pickR, nthH, delH, dropH, List.cons_append, List.nil_append] at h
    exact hR 0 0 0 0 0 0 0 0 3 _ h hp
  refine ⟨_, cellL h 1 0 rfl rfl rfl, _, cellL h 1 1 rfl rfl rfl, _, cellL h 1 2 rfl rfl rfl, _, cellL h 1 3 rfl rfl rfl, _, cellL h 1 4 rfl rfl rfl, _, cellL h 1 5 rfl rfl rfl, _, cellL h 1 6 rfl rfl rfl, _, cellL h 1 7 rfl rfl rfl, ?_⟩
  refine storeL (ys := [Value.int .i64 r, Value.int .i64 r_1, Value.int .i64 r_2, Value.int .i64 r_3, Value.int .u64 r_4, Value.int .i64 (IntKind.wrap .i64 x_2), Value.int .i64 (IntKind.wrap .i64 r_8), Value.int .u32 r_7]) h 2 0 rfl rfl rfl sz41 rfl rfl ?_
  intro w h
  dsimp only [setH, setVs, setV] at h
  refine ⟨_, cellL h 2 0 rfl rfl rfl, _, cellL h 2 1 rfl rfl rfl, _, cellL h 2 2 rfl rfl rfl, _, cellL h 2 3 rfl rfl rfl, _, cellL h 2 4 rfl rfl rfl, _, cellL h 2 5 rfl rfl rfl, _, cellL h 2 6 rfl rfl rfl, _, cellL h 2 7 rfl rfl rfl, ?_⟩
  replace h := h.sel [] 3
  dsimp only [pickL, pickR, nthH, delH, dropH, List.cons_append, List.nil_append] at h
  exact hR r r_1 r_2 r_3 r_4 (IntKind.wrap .i64 x_2) (IntKind.wrap .i64 r_8) r_7 0 _ h hp
def embrasurelaw11_GateEpochs_wp (times_x times_x_1 times_x_2 from_Host from_Port : Int) (K : Bool → Prop) : Prop :=
  embrasurelaw11_awake_wp (fun (r : Bool) => cond (!r) (K false) (embrasurelaw08_Box_wp 0 (fun (r_1 r_2 r_3 r_4 r_5 r_6 r_7 : Int) => nat_New_wp r_1 r_2 r_3 r_4 r_5 r_6 r_7 (fun (r_8 : Int) => joinP1 (fun (t45 : Bool) => cond t45 (K (false)) (False)) (fun (Q : Bool → Prop) => Q true)) (fun (r_9 box box_1 box_2 box_3 box_4 box_5 box_6 : Int) (list : List (Option Nat)) (now : Int) => joinP1 (fun (t45_1 : Bool) => cond t45_1 (K (true)) (gate_New_wp box box_1 box_2 box_3 box_4 box_5 box_6 now true true 1073741824 (IntKind.wrap .i64 times_x) (fun (r_10 : Int) => joinP1 (fun (t73 : Bool) => cond t73 (K false) ((pmp_Ask_wp 0 5 40003 536870912 0 0 0 0 false (fun (rs : List (Int)) => (False) ∧ (False))) ∧ (pmp_Ask_wp 0 5 40003 536870912 0 0 0 0 false (fun (rs_1 : List (Int)) => False)))) (fun (Q_2 : Bool → Prop) => Q_2 true)) (fun (r_11 : Int) (g_1 g_2 : Bool) (g_3 boot now_1 : Int) (by_ : List ((Int × Int) × (Int × Int))) => joinP1 (fun (t73_1 : Bool) => cond t73_1 (K false) (joinP14 (fun (now_2 : Int) (list_1 : List (Option Nat)) (now_3 Ver Inside Port Secs Nonce Result_ Epoch Host h14_1 : Int) (m_1 : List ((Int × Int) × (Int × Int))) (m_2 : List (Nat × (Int × Int × Int × Int × Int × Int × Bool × (List (Int × Int))))) => joinP4 (fun (list_5 : List (Option Nat)) (now_10 : Int) (t106 : Bool) (m_9 : List (Nat × (Int × Int × Int × Int × Int × Int × Bool × (List (Int × Int))))) => cond t106 (K false) (gate_Gate_Reboot_wp box box_1 box_2 box_3 box_4 box_5 box_6 now_10 g_1 g_2 g_3 boot now_2 m_1 (IntKind.wrap .i64 ((IntKind.wrap .i64 times_x) + (IntKind.wrap .i64 times_x_1))) (fun (boot_1 : Int) (list_7 : List (Option Nat)) (now_12 : Int) (m_11 : List ((Int × Int) × (Int × Int))) => joinP14 (fun (now_13 : Int) (list_8 : List (Option Nat)) (now_14 Ver_1 Inside_1 Port_1 Secs_1 Nonce_1 Result__1 Epoch_1 Host_1 i16 : Int) (m_12 : List ((Int × Int) × (Int × Int))) (m_13 : List (Nat × (Int × Int × Int × Int × Int × Int × Bool × (List (Int × Int))))) => nat_Nat_All_wp box box_1 box_2 box_3 box_4 box_5 box_6 list_8 now_14 (IntKind.wrap .i64 ((IntKind.wrap .i64 ((IntKind.wrap .i64 times_x) + (IntKind.wrap .i64 times_x_1))) + (IntKind.wrap .i64 times_x_2))) m_13 (fun (rs_13 : List (Int × Int × Int × Int × Int × Int × Bool)) (list_12 : List (Option Nat)) (now_21 : Int) (m_20 : List (Nat × (Int × Int × Int × Int × Int × Int × Bool × (List (Int × Int))))) => cond (i16 == 0) (cond (Epoch_1 == (IntKind.wrap .i64 ((IntKind.wrap .i64 ((IntKind.wrap .i64 ((IntKind.wrap .i64 times_x) + (IntKind.wrap .i64 times_x_1))) + (IntKind.wrap .i64 times_x_2))) - (IntKind.wrap .i64 ((IntKind.wrap .i64 times_x) + (IntKind.wrap .i64 times_x_1)))))) (cond ((((rs_13.length : Nat) : Int) : Int) == 1) (0 ≤ (0 : Int) ∧ (0 : Int) < ((rs_13.length : Nat) : Int) ∧ (∀ (x_1 : Int × Int × Int × Int × Int × Int × Bool), rs_13[Int.toNat 0]? = some x_1 → (K ((x_1.2.1 : Int) == 6)))) (K false)) (K false)) (K false))) (fun (Q_7 : Int → List (Option Nat) → Int → Int → Int → Int → Int → Int → Int → Int → Int → Int → List ((Int × Int) × (Int × Int)) → List (Nat × (Int × Int × Int × Int × Int × Int × Bool × (List (Int × Int)))) → Prop) => (pcp_Ask_wp 2 6 0 5 0 0 0 0 from_Host (fun (rs_8 : List (Int)) => (gate_Gate_Hear_wp box box_1 box_2 box_3 box_4 box_5 box_6 list_7 now_12 g_1 g_2 g_3 boot_1 now_2 m_11 (IntKind.wrap .i64 ((IntKind.wrap .i64 ((IntKind.wrap .i64 times_x) + (IntKind.wrap .i64 times_x_1))) + (IntKind.wrap .i64 times_x_2))) from_Host from_Port rs_8 m_9 (fun (rs_9 : List (Int)) (now_15 : Int) (list_9 : List (Option Nat)) (now_16 : Int) (m_14 : List ((Int × Int) × (Int × Int))) (m_15 : List (Nat × (Int × Int × Int × Int × Int × Int × Bool × (List (Int × Int))))) => (pcp_ReadAnswer_wp rs_9 (fun (r_52 r_53 r_54 r_55 r_56 r_57 r_58 r_59 r_60 : Int) => Q_7 now_15 list_9 now_16 r_52 r_53 r_54 r_55 r_56 r_57 r_58 r_59 r_60 m_14 m_15)) ∧ (pcp_ReadAnswer_wp rs_9 (fun (r_61 r_62 r_63 r_64 r_65 r_66 r_67 r_68 r_69 : Int) => Q_7 now_15 list_9 now_16 r_61 r_62 r_63 r_64 r_65 r_66 r_67 r_68 r_69 m_14 m_15)))) ∧ (gate_Gate_Hear_wp box box_1 box_2 box_3 box_4 box_5 box_6 list_7 now_12 g_1 g_2 g_3 boot_1 now_2 m_11 (IntKind.wrap .i64 ((IntKind.wrap .i64 ((IntKind.wrap .i64 times_x) + (IntKind.wrap .i64 times_x_1))) + (IntKind.wrap .i64 times_x_2))) from_Host from_Port rs_8 m_9 (fun (rs_10 : List (Int)) (now_17 : Int) (list_10 : List (Option Nat)) (now_18 : Int) (m_16 : List ((Int × Int) × (Int × Int))) (m_17 : List (Nat × (Int × Int × Int × Int × Int × Int × Bool × (List (Int × Int))))) => pcp_ReadAnswer_wp rs_10 (fun (r_70 r_71 r_72 r_73 r_74 r_75 r_76 r_77 r_78 : Int) => Q_7 now_17 list_10 now_18 r_70 r_71 r_72 r_73 r_74 r_75 r_76 r_77 r_78 m_16 m_17))))) ∧ (pcp_Ask_wp 2 6 0 5 0 0 0 0 from_Host (fun (rs_11 : List (Int)) => gate_Gate_Hear_wp box box_1 box_2 box_3 box_4 box_5 box_6 list_7 now_12 g_1 g_2 g_3 boot_1 now_2 m_11 (IntKind.wrap .i64 ((IntKind.wrap .i64 ((IntKind.wrap .i64 times_x) + (IntKind.wrap .i64 times_x_1))) + (IntKind.wrap .i64 times_x_2))) from_Host from_Port rs_11 m_9 (fun (rs_12 : List (Int)) (now_19 : Int) (list_11 : List (Option Nat)) (now_20 : Int) (m_18 : List ((Int × Int) × (Int × Int))) (m_19 : List (Nat × (Int × Int × Int × Int × Int × Int × Bool × (List (Int × Int))))) => pcp_ReadAnswer_wp rs_12 (fun (r_79 r_80 r_81 r_82 r_83 r_84 r_85 r_86 r_87 : Int) => Q_7 now_19 list_11 now_20 r_79 r_80 r_81 r_82 r_83 r_84 r_85 r_86 r_87 m_18 m_19)))))))) (fun (Q_6 : List (Option Nat) → Int → Bool → List (Nat × (Int × Int × Int × Int × Int × Int × Bool × (List (Int × Int)))) → Prop) => cond (h14_1 != 0) (Q_6 list_1 now_3 true m_2) (cond (Epoch != (IntKind.wrap .i64 ((IntKind.wrap .i64 ((IntKind.wrap .i64 times_x) + (IntKind.wrap .i64 times_x_1))) - (IntKind.wrap .i64 times_x)))) (Q_6 list_1 now_3 true m_2) (cond (Port != 40003) (Q_6 list_1 now_3 true m_2) (nat_Nat_All_wp box box_1 box_2 box_3 box_4 box_5 box_6 list_1 now_3 (IntKind.wrap .i64 ((IntKind.wrap .i64 times_x) + (IntKind.wrap .i64 times_x_1))) m_2 (fun (rs_7 : List (Int × Int × Int × Int × Int × Int × Bool)) (list_6 : List (Option Nat)) (now_11 : Int) (m_10 : List (Nat × (Int × Int × Int × Int × Int × Int × Bool × (List (Int × Int))))) => Q_6 list_6 now_11 ((((rs_7.length : Nat) : Int) : Int) != 1) m_10)))))) (fun (Q_5 : Int → List (Option Nat) → Int → Int → Int → Int → Int → Int → Int → Int → Int → Int → List ((Int × Int) × (Int × Int)) → List (Nat × (Int × Int × Int × Int × Int × Int × Bool × (List (Int × Int)))) → Prop) => (pmp_Ask_wp 0 5 40003 536870912 0 0 0 0 false (fun (rs_2 : List (Int)) => (gate_Gate_Hear_wp box box_1 box_2 box_3 box_4 box_5 box_6 list now g_1 g_2 g_3 boot now_1 by_ (IntKind.wrap .i64 ((IntKind.wrap .i64 times_x) + (IntKind.wrap .i64 times_x_1))) from_Host from_Port rs_2 ([] : List (Nat × (Int × Int × Int × Int × Int × Int × Bool × (List (Int × Int))))) (fun (rs_3 : List (Int)) (now_4 : Int) (list_2 : List (Option Nat)) (now_5 : Int) (m_3 : List ((Int × Int) × (Int × Int))) (m_4 : List (Nat × (Int × Int × Int × Int × Int × Int × Bool × (List (Int × Int))))) => (pmp_ReadAnswer_wp rs_3 (fun (r_12 r_13 r_14 r_15 r_16 r_17 r_18 r_19 : Int) (r_20 : Bool) (r_21 : Int) => Q_5 now_4 list_2 now_5 r_12 r_13 r_14 r_15 r_16 r_17 r_18 r_19 r_21 m_3 m_4)) ∧ (pmp_ReadAnswer_wp rs_3 (fun (r_22 r_23 r_24 r_25 r_26 r_27 r_28 r_29 : Int) (r_30 : Bool) (r_31 : Int) => Q_5 now_4 list_2 now_5 r_22 r_23 r_24 r_25 r_26 r_27 r_28 r_29 r_31 m_3 m_4)))) ∧ (gate_Gate_Hear_wp box box_1 box_2 box_3 box_4 box_5 box_6 list now g_1 g_2 g_3 boot now_1 by_ (IntKind.wrap .i64 ((IntKind.wrap .i64 times_x) + (IntKind.wrap .i64 times_x_1))) from_Host from_Port rs_2 ([] : List (Nat × (Int × Int × Int × Int × Int × Int × Bool × (List (Int × Int))))) (fun (rs_4 : List (Int)) (now_6 : Int) (list_3 : List (Option Nat)) (now_7 : Int) (m_5 : List ((Int × Int) × (Int × Int))) (m_6 : List (Nat × (Int × Int × Int × Int × Int × Int × Bool × (List (Int × Int))))) => pmp_ReadAnswer_wp rs_4 (fun (r_32 r_33 r_34 r_35 r_36 r_37 r_38 r_39 : Int) (r_40 : Bool) (r_41 : Int) => Q_5 now_6 list_3 now_7 r_32 r_33 r_34 r_35 r_36 r_37 r_38 r_39 r_41 m_5 m_6))))) ∧ (pmp_Ask_wp 0 5 40003 536870912 0 0 0 0 false (fun (rs_5 : List (Int)) => gate_Gate_Hear_wp box box_1 box_2 box_3 box_4 box_5 box_6 list now g_1 g_2 g_3 boot now_1 by_ (IntKind.wrap .i64 ((IntKind.wrap .i64 times_x) + (IntKind.wrap .i64 times_x_1))) from_Host from_Port rs_5 ([] : List (Nat × (Int × Int × Int × Int × Int × Int × Bool × (List (Int × Int))))) (fun (rs_6 : List (Int)) (now_8 : Int) (list_4 : List (Option Nat)) (now_9 : Int) (m_7 : List ((Int × Int) × (Int × Int))) (m_8 : List (Nat × (Int × Int × Int × Int × Int × Int × Bool × (List (Int × Int))))) => pmp_ReadAnswer_wp rs_6 (fun (r_42 r_43 r_44 r_45 r_46 r_47 r_48 r_49 : Int) (r_50 : Bool) (r_51 : Int) => Q_5 now_8 list_4 now_9 r_42 r_43 r_44 r_45 r_46 r_47 r_48 r_49 r_51 m_7 m_8))))))) (fun (Q_4 : Bool → Prop) => Q_4 (r_11 != 0))))) (fun (Q_1 : Bool → Prop) => cond (r_9 != 0) (Q_1 true) (cond (from_Host == 0) (Q_1 true) (cond (decide (from_Port < 1)) (Q_1 true) (Q_1 (decide (from_Port > 65535))))))))))
theorem embrasurelaw11_GateEpochs_ok {times_x times_x_1 times_x_2 from_Host from_Port : Int} {FL : List HP} {w : World} {K : Bool → Prop} {R : Value → World → Prop}
  (h : Mem (FL) w) (hp : embrasurelaw11_GateEpochs_wp times_x times_x_1 times_x_2 from_Host from_Port K)
  (hR : ∀ (r : Bool) (w : World), Mem (FL) w → K r → R (Value.bool r) w) :
  CallV Try.prog 5 #[(Value.agg #[Value.int .u16 times_x, Value.int .u16 times_x_1, Value.int .u16 times_x_2]), (Value.agg #[Value.int .u32 from_Host, Value.int .i64 from_Port])] w R := by
  refine embrasurelaw11_GateEpochs_call ?_
  unfold embrasurelaw11_GateEpochs
  unfold embrasurelaw11_GateEpochs_wp at hp
  replace h := stoNil stoE85 (fun _ => default) h
  refine newL (o := [Value.int .u16 times_x, Value.int .u16 times_x_1, Value.int .u16 times_x_2]) h ?_
  intro b_1 w h
  refine newL (o := [Value.int .u32 from_Host, Value.int .i64 from_Port]) h ?_
  intro b_2 w h
  refine embrasurelaw11_awake_ok h hp ?_
  intro r w h hp
  refine ⟨_, rfl, ?_⟩
  refine cond_both hp (fun hp => ?_) (fun hp => ?_)
  · replace h := h.sel [] 3
    dsimp only [pickL, pickR, nthH, delH, dropH, List.cons_append, List.nil_append] at h
    exact hR false _ h hp
  refine embrasurelaw08_Box_ok h hp ?_
  intro r_1 r_2 r_3 r_4 r_5 r_6 r_7 w h hp
  refine ⟨_, _, _, _, _, _, _, rfl, ?_⟩
  refine nat_New_ok h hp ?_ ?_
  · intro r_8 w h hp
    refine ⟨_, _, rfl, ?_⟩
    refine ⟨_, rfl, ?_⟩
    refine ⟨_, rfl, ?_⟩
    obtain ⟨Q, hq, hp⟩ := hp
    refine ⟨fun times2 from3 n5 t45 w => (Addr.mk b_1 0 none) = times2 ∧ (Addr.mk b_2 0 none) = from3 ∧ none = n5 ∧ Q t45 ∧ Mem (cel b_2 25 [Value.int .u32 from_Host, Value.int .i64 from_Port] :: cel b_1 57 [Value.int .u16 times_x, Value.int .u16 times_x_1, Value.int .u16 times_x_2] :: stoP stoE85 (fun _ => default) ([] : List (Nat × (Int × Int × Int × Int × Int × Int × Bool × (List (Int × Int))))) :: FL) w, ?_, ?_⟩
    · rintro times2 from3 n5 t45 w ⟨rfl, rfl, rfl, hp, h⟩
      replace hp := hq t45 hp
      unfold embrasurelaw11_GateEpochs_j1
      refine cond_both hp (fun hp => ?_) (fun hp => ?_)
      · refine neqPtrNN undP27 ?_
        refine ⟨_, rfl, ?_⟩
        replace h := h.sel [] 3
        dsimp only [pickL, pickR, nthH, delH, dropH, List.cons_append, List.nil_append] at h
        exact hR (false) _ h hp
      refine ⟨by decide, by decide, ?_⟩
      refine ⟨_, cellL h 1 0 rfl rfl rfl, ?_⟩
      refine ⟨by decide, by decide, ?_⟩
      refine ⟨_, cellL h 1 1 rfl rfl rfl, ?_⟩
      refine ⟨by decide, by decide, ?_⟩
      refine ⟨_, cellL h 1 2 rfl rfl rfl, ?_⟩
      exact hp.elim
    clear hq
    refine eqlPtrNN undP27 ?_
    refine ⟨_, rfl, ?_⟩
    refine cond_tt ?_
    exact ⟨rfl, rfl, rfl, hp, h⟩
  rintro r_9 box box_1 box_2 box_3 box_4 box_5 box_6 list now b_3 p_1 n_1 c_1 w rfl h hp
  have cpp_1 := rowCap h 1 rfl
  refine ⟨_, _, rfl, ?_⟩
  refine ⟨_, rfl, ?_⟩
  refine ⟨_, rfl, ?_⟩
  obtain ⟨Q_1, hq, hp⟩ := hp
  refine ⟨fun times2_1 from3_1 n5_1 t45_1 w => (Addr.mk b_1 0 none) = times2_1 ∧ (Addr.mk b_2 0 none) = from3_1 ∧ (some (Addr.mk b_3 0 none)) = n5_1 ∧ Q_1 t45_1 ∧ Mem (cel b_3 71 [Value.int .u32 box, Value.int .i64 box_1, Value.int .i64 box_2, Value.int .i64 box_3, Value.int .i64 box_4, Value.int .i64 box_5, Value.int .i64 box_6, Value.slice p_1 list.length c_1, Value.int .i64 now] :: row enc82 82 1 p_1 c_1 list :: cel b_2 25 [Value.int .u32 from_Host, Value.int .i64 from_Port] :: cel b_1 57 [Value.int .u16 times_x, Value.int .u16 times_x_1, Value.int .u16 times_x_2] :: stoP stoE85 (fun _ => default) ([] : List (Nat × (Int × Int × Int × Int × Int × Int × Bool × (List (Int × Int))))) :: FL) w, ?_, ?_⟩
  · rintro times2_1 from3_1 n5_1 t45_1 w ⟨rfl, rfl, rfl, hp, h⟩
    replace hp := hq t45_1 hp
    unfold embrasurelaw11_GateEpochs_j1
    refine cond_both hp (fun hp => ?_) (fun hp => ?_)
    · refine neqPtrNil undP27 ?_
      refine ⟨_, rfl, ?_⟩
      replace h := h.sel [] 5
      dsimp only [pickL, pickR, nthH, delH, dropH, List.cons_append, List.nil_append] at h
      exact hR (true) _ h hp
    refine ⟨by decide, by decide, ?_⟩
    refine ⟨_, cellL h 3 0 rfl rfl rfl, ?_⟩
    refine ⟨by decide, by decide, ?_⟩
    refine ⟨_, cellL h 3 1 rfl rfl rfl, ?_⟩
    refine ⟨by decide, by decide, ?_⟩
    refine ⟨_, cellL h 3 2 rfl rfl rfl, ?_⟩
    refine gate_New_ok h hp ?_ ?_
    · intro r_10 w h hp
      refine ⟨_, _, rfl, ?_⟩
      refine ⟨_, rfl, ?_⟩
      refine ⟨_, rfl, ?_⟩
      obtain ⟨Q_2, hq, hp⟩ := hp
      refine ⟨fun from3_2 n5_2 a7 b8 c9 g10 t73 w => (Addr.mk b_2 0 none) = from3_2 ∧ (some (Addr.mk b_3 0 none)) = n5_2 ∧ (IntKind.wrap .i64 times_x) = a7 ∧ (IntKind.wrap .i64 ((IntKind.wrap .i64 times_x) + (IntKind.wrap .i64 times_x_1))) = b8 ∧ (IntKind.wrap .i64 ((IntKind.wrap .i64 ((IntKind.wrap .i64 times_x) + (IntKind.wrap .i64 times_x_1))) + (IntKind.wrap .i64 times_x_2))) = c9 ∧ none = g10 ∧ Q_2 t73 ∧ Mem (cel b_3 71 [Value.int .u32 box, Value.int .i64 box_1, Value.int .i64 box_2, Value.int .i64 box_3, Value.int .i64 box_4, Value.int .i64 box_5, Value.int .i64 box_6, Value.slice p_1 list.length c_1, Value.int .i64 now] :: row enc82 82 1 p_1 c_1 list :: cel b_2 25 [Value.int .u32 from_Host, Value.int .i64 from_Port] :: cel b_1 57 [Value.int .u16 times_x, Value.int .u16 times_x_1, Value.int .u16 times_x_2] :: stoP stoE85 (fun _ => default) ([] : List (Nat × (Int × Int × Int × Int × Int × Int × Bool × (List (Int × Int))))) :: FL) w, ?_, ?_⟩
      · rintro from3_2 n5_2 a7 b8 c9 g10 t73 w ⟨rfl, rfl, rfl, rfl, rfl, rfl, hp, h⟩
        replace hp := hq t73 hp
        unfold embrasurelaw11_GateEpochs_j2
        refine cond_both hp (fun hp => ?_) (fun hp => ?_)
        · replace h := h.sel [] 5
          dsimp only [pickL, pickR, nthH, delH, dropH, List.cons_append, List.nil_append] at h
          exact hR false _ h hp
        refine ⟨fun from3_3 n5_3 a7_1 b8_1 c9_1 g10_1 x12 h14 w => (False), ?_, ?_⟩
        · rintro from3_3 n5_3 a7_1 b8_1 c9_1 g10_1 x12 h14 w (hF)
          · exact hF.elim
        replace h := h.drew
        refine ⟨fun w => Mem (cel b_2 25 [Value.int .u32 from_Host, Value.int .i64 from_Port] :: FL) w, (h.sel [2] 4), ?_⟩
        refine ⟨_, cellL h 2 0 rfl rfl rfl, _, cellL h 2 1 rfl rfl rfl, ?_⟩
        refine ⟨?_, ?_⟩
        · intro w h
          change Mem _ _ at h
          refine ⟨_, cellL h 0 0 rfl rfl rfl, _, cellL h 0 1 rfl rfl rfl, ?_⟩
          exact ⟨rfl, rfl⟩
        refine ⟨?_, ?_⟩
        · replace hp := hp.1
          refine pmp_Ask_ok h hp ?_
          rintro rs p_2 n_2 c_2 w rfl h hp
          have cpp_2 := rowCap h 0 rfl
          refine ⟨_, _, _, rfl, ?_⟩
          refine ⟨(h.sel [3] 5), ?_⟩
          refine ⟨?_, ?_⟩
          · replace hp := hp.1
            exact hp.elim
          replace hp := hp.2
          refine newL (o := [Value.int .i64 0, Value.int .i64 0, Value.int .i64 0, Value.int .i64 0, Value.int .u64 0, Value.int .i64 0, Value.int .i64 0, Value.int .u32 0]) h ?_
          intro b_4 w h
          refine ⟨(h.sel [4] 6), ?_⟩
          exact hp.elim
        replace hp := hp.2
        refine newL (o := [Value.int .i64 0, Value.int .i64 0, Value.int .i64 0, Value.int .i64 0, Value.int .u64 0, Value.int .i64 0, Value.int .i64 0, Value.int .u32 0]) h ?_
        intro b_5 w h
        refine ⟨(h.sel [3] 5), ?_⟩
        refine pmp_Ask_ok h hp ?_
        rintro rs_1 p_3 n_3 c_3 w rfl h hp
        have cpp_3 := rowCap h 0 rfl
        refine ⟨_, _, _, rfl, ?_⟩
        refine ⟨(h.sel [4] 6), ?_⟩
        exact hp.elim
      clear hq
      refine eqlPtrNN undP34 ?_
      refine ⟨_, rfl, ?_⟩
      refine cond_tt ?_
      exact ⟨rfl, rfl, rfl, rfl, rfl, rfl, hp, h⟩
    intro r_11 g_1 g_2 g_3 boot now_1 by_ b_6 b_7 p_4 w h hp
    refine ⟨_, _, rfl, ?_⟩
    refine ⟨_, rfl, ?_⟩
    refine ⟨_, rfl, ?_⟩
    obtain ⟨Q_4, hq, hp⟩ := hp
    refine ⟨fun from3_4 n5_4 a7_2 b8_2 c9_2 g10_2 t73_1 w => (Addr.mk b_2 0 none) = from3_4 ∧ (some (Addr.mk b_3 0 none)) = n5_4 ∧ (IntKind.wrap .i64 times_x) = a7_2 ∧ (IntKind.wrap .i64 ((IntKind.wrap .i64 times_x) + (IntKind.wrap .i64 times_x_1))) = b8_2 ∧ (IntKind.wrap .i64 ((IntKind.wrap .i64 ((IntKind.wrap .i64 times_x) + (IntKind.wrap .i64 times_x_1))) + (IntKind.wrap .i64 times_x_2))) = c9_2 ∧ (some (Addr.mk b_6 0 none)) = g10_2 ∧ Q_4 t73_1 ∧ Mem (cel b_6 75 [Value.pointer (some (Addr.mk b_3 0 none)), Value.bool g_1, Value.bool g_2, Value.int .i64 g_3, Value.int .i64 boot, Value.int .i64 now_1, Value.map (some b_7)] :: cel b_3 71 [Value.int .u32 box, Value.int .i64 box_1, Value.int .i64 box_2, Value.int .i64 box_3, Value.int .i64 box_4, Value.int .i64 box_5, Value.int .i64 box_6, Value.slice p_1 list.length c_1, Value.int .i64 now] :: row enc82 82 1 p_1 c_1 list :: cel b_2 25 [Value.int .u32 from_Host, Value.int .i64 from_Port] :: cel b_1 57 [Value.int .u16 times_x, Value.int .u16 times_x_1, Value.int .u16 times_x_2] :: mapQ b_7 va25 va111 p_4 by_ :: stoP stoE85 (fun _ => default) ([] : List (Nat × (Int × Int × Int × Int × Int × Int × Bool × (List (Int × Int))))) :: FL) w, ?_, ?_⟩
    · rintro from3_4 n5_4 a7_2 b8_2 c9_2 g10_2 t73_1 w ⟨rfl, rfl, rfl, rfl, rfl, rfl, hp, h⟩
      replace hp := hq t73_1 hp
      unfold embrasurelaw11_GateEpochs_j2
      refine cond_both hp (fun hp => ?_) (fun hp => ?_)
      · replace h := h.sel [] 7
        dsimp only [pickL, pickR, nthH, delH, dropH, List.cons_append, List.nil_append] at h
        exact hR false _ h hp
      obtain ⟨Q_5, hq, hp⟩ := hp
      refine ⟨fun from3_5 n5_5 a7_3 b8_3 c9_3 g10_3 x12_1 h14_1 w => ∃ (now_2 : Int), ∃ (list_1 : List (Option Nat)), ∃ (p_5 : Option Addr), ∃ (n_4 : Nat), ∃ (c_4 : Nat), ∃ (now_3 : Int), ∃ (b_8 : Nat), ∃ (Ver : Int), ∃ (Inside : Int), ∃ (Port : Int), ∃ (Secs : Int), ∃ (Nonce : Int), ∃ (Result_ : Int), ∃ (Epoch : Int), ∃ (Host : Int), ∃ (m_1 : List ((Int × Int) × (Int × Int))), ∃ (p_6 : List MapEntry × Nat), ∃ (m_2 : List (Nat × (Int × Int × Int × Int × Int × Int × Bool × (List (Int × Int))))), ∃ (hd : Nat → Option Addr × Nat), (Addr.mk b_2 0 none) = from3_5 ∧ (some (Addr.mk b_3 0 none)) = n5_5 ∧ (IntKind.wrap .i64 times_x) = a7_3 ∧ (IntKind.wrap .i64 ((IntKind.wrap .i64 times_x) + (IntKind.wrap .i64 times_x_1))) = b8_3 ∧ (IntKind.wrap .i64 ((IntKind.wrap .i64 ((IntKind.wrap .i64 times_x) + (IntKind.wrap .i64 times_x_1))) + (IntKind.wrap .i64 times_x_2))) = c9_3 ∧ (some (Addr.mk b_6 0 none)) = g10_3 ∧ (Addr.mk b_8 0 none) = x12_1 ∧ n_4 = list_1.length ∧ Q_5 now_2 list_1 now_3 Ver Inside Port Secs Nonce Result_ Epoch Host h14_1 m_1 m_2 ∧ Mem (cel b_6 75 [Value.pointer (some (Addr.mk b_3 0 none)), Value.bool g_1, Value.bool g_2, Value.int .i64 g_3, Value.int .i64 boot, Value.int .i64 now_2, Value.map (some b_7)] :: cel b_3 71 [Value.int .u32 box, Value.int .i64 box_1, Value.int .i64 box_2, Value.int .i64 box_3, Value.int .i64 box_4, Value.int .i64 box_5, Value.int .i64 box_6, Value.slice p_5 n_4 c_4, Value.int .i64 now_3] :: row enc82 82 1 p_5 c_4 list_1 :: cel b_2 25 [Value.int .u32 from_Host, Value.int .i64 from_Port] :: cel b_1 57 [Value.int .u16 times_x, Value.int .u16 times_x_1, Value.int .u16 times_x_2] :: mapQ b_7 va25 va111 p_6 m_1 :: stoP stoE85 hd m_2 :: cel b_8 41 [Value.int .i64 Ver, Value.int .i64 Inside, Value.int .i64 Port, Value.int .i64 Secs, Value.int .u64 Nonce, Value.int .i64 Result_, Value.int .i64 Epoch, Value.int .u32 Host] :: FL) w, ?_, ?_⟩
      · rintro from3_5 n5_5 a7_3 b8_3 c9_3 g10_3 x12_1 h14_1 w ⟨now_2, list_1, p_5, n_4, c_4, now_3, b_8, Ver, Inside, Port, Secs, Nonce, Result_, Epoch, Host, m_1, p_6, m_2, hd, rfl, rfl, rfl, rfl, rfl, rfl, rfl, rfl, hp, h⟩
        replace hp := hq now_2 list_1 now_3 Ver Inside Port Secs Nonce Result_ Epoch Host h14_1 m_1 m_2 hp
        unfold embrasurelaw11_GateEpochs_j3
        have cpp_5 := rowCap h 2 rfl
        obtain ⟨Q_6, hq, hp⟩ := hp
        refine ⟨fun from3_6 n5_6 b8_4 c9_4 g10_4 t106 w => ∃ (list_5 : List (Option Nat)), ∃ (p_18 : Option Addr), ∃ (n_13 : Nat), ∃ (c_13 : Nat), ∃ (now_10 : Int), ∃ (m_9 : List (Nat × (Int × Int × Int × Int × Int × Int × Bool × (List (Int × Int))))), ∃ (hd_4 : Nat → Option Addr × Nat), (Addr.mk b_2 0 none) = from3_6 ∧ (some (Addr.mk b_3 0 none)) = n5_6 ∧ (IntKind.wrap .i64 ((IntKind.wrap .i64 times_x) + (IntKind.wrap .i64 times_x_1))) = b8_4 ∧ (IntKind.wrap .i64 ((IntKind.wrap .i64 ((IntKind.wrap .i64 times_x) + (IntKind.wrap .i64 times_x_1))) + (IntKind.wrap .i64 times_x_2))) = c9_4 ∧ (some (Addr.mk b_6 0 none)) = g10_4 ∧ n_13 = list_5.length ∧ Q_6 list_5 now_10 t106 m_9 ∧ Mem (cel b_6 75 [Value.pointer (some (Addr.mk b_3 0 none)), Value.bool g_1, Value.bool g_2, Value.int .i64 g_3, Value.int .i64 boot, Value.int .i64 now_2, Value.map (some b_7)] :: cel b_3 71 [Value.int .u32 box, Value.int .i64 box_1, Value.int .i64 box_2, Value.int .i64 box_3, Value.int .i64 box_4, Value.int .i64 box_5, Value.int .i64 box_6, Value.slice p_18 n_13 c_13, Value.int .i64 now_10] :: row enc82 82 1 p_18 c_13 list_5 :: cel b_2 25 [Value.int .u32 from_Host, Value.int .i64 from_Port] :: cel b_1 57 [Value.int .u16 times_x, Value.int .u16 times_x_1, Value.int .u16 times_x_2] :: cel b_8 41 [Value.int .i64 Ver, Value.int .i64 Inside, Value.int .i64 Port, Value.int .i64 Secs, Value.int .u64 Nonce, Value.int .i64 Result_, Value.int .i64 Epoch, Value.int .u32 Host] :: mapQ b_7 va25 va111 p_6 m_1 :: stoP stoE85 hd_4 m_9 :: FL) w, ?_, ?_⟩
        · rintro from3_6 n5_6 b8_4 c9_4 g10_4 t106 w ⟨list_5, p_18, n_13, c_13, now_10, m_9, hd_4, rfl, rfl, rfl, rfl, rfl, rfl, hp, h⟩
          replace hp := hq list_5 now_10 t106 m_9 hp
          unfold embrasurelaw11_GateEpochs_j4
          have cpp_18 := rowCap h 2 rfl
          refine cond_both hp (fun hp => ?_) (fun hp => ?_)
          · replace h := h.sel [] 8
            dsimp only [pickL, pickR, nthH, delH, dropH, List.cons_append, List.nil_append] at h
            exact hR false _ h hp
          replace h := h.pick [0, 0, 4]
          dsimp only [pickL, pickR, nthH, delH, dropH, List.cons_append, List.nil_append] at h
          refine gate_Gate_Reboot_ok h hp ?_
          rintro boot_1 list_7 now_12 m_11 p_21 n_16 c_16 p_22 w rfl h hp
          have cpp_21 := rowCap h 2 rfl
          refine ⟨rfl, ?_⟩
          obtain ⟨Q_7, hq, hp⟩ := hp
          refine ⟨fun n5_7 b8_5 c9_5 y15 i16 w => ∃ (now_13 : Int), ∃ (list_8 : List (Option Nat)), ∃ (p_23 : Option Addr), ∃ (n_17 : Nat), ∃ (c_17 : Nat), ∃ (now_14 : Int), ∃ (b_13 : Nat), ∃ (Ver_1 : Int), ∃ (Inside_1 : Int), ∃ (Port_1 : Int), ∃ (Secs_1 : Int), ∃ (Nonce_1 : Int), ∃ (Result__1 : Int), ∃ (Epoch_1 : Int), ∃ (Host_1 : Int), ∃ (m_12 : List ((Int × Int) × (Int × Int))), ∃ (p_24 : List MapEntry × Nat), ∃ (m_13 : List (Nat × (Int × Int × Int × Int × Int × Int × Bool × (List (Int × Int))))), ∃ (hd_6 : Nat → Option Addr × Nat), (some (Addr.mk b_3 0 none)) = n5_7 ∧ (IntKind.wrap .i64 ((IntKind.wrap .i64 times_x) + (IntKind.wrap .i64 times_x_1))) = b8_5 ∧ (IntKind.wrap .i64 ((IntKind.wrap .i64 ((IntKind.wrap .i64 times_x) + (IntKind.wrap .i64 times_x_1))) + (IntKind.wrap .i64 times_x_2))) = c9_5 ∧ (Addr.mk b_13 0 none) = y15 ∧ n_17 = list_8.length ∧ Q_7 now_13 list_8 now_14 Ver_1 Inside_1 Port_1 Secs_1 Nonce_1 Result__1 Epoch_1 Host_1 i16 m_12 m_13 ∧ Mem (cel b_6 75 [Value.pointer (some (Addr.mk b_3 0 none)), Value.bool g_1, Value.bool g_2, Value.int .i64 g_3, Value.int .i64 boot_1, Value.int .i64 now_13, Value.map (some b_7)] :: cel b_3 71 [Value.int .u32 box, Value.int .i64 box_1, Value.int .i64 box_2, Value.int .i64 box_3, Value.int .i64 box_4, Value.int .i64 box_5, Value.int .i64 box_6, Value.slice p_23 n_17 c_17, Value.int .i64 now_14] :: row enc82 82 1 p_23 c_17 list_8 :: cel b_2 25 [Value.int .u32 from_Host, Value.int .i64 from_Port] :: cel b_1 57 [Value.int .u16 times_x, Value.int .u16 times_x_1, Value.int .u16 times_x_2] :: cel b_8 41 [Value.int .i64 Ver, Value.int .i64 Inside, Value.int .i64 Port, Value.int .i64 Secs, Value.int .u64 Nonce, Value.int .i64 Result_, Value.int .i64 Epoch, Value.int .u32 Host] :: mapQ b_7 va25 va111 p_24 m_12 :: stoP stoE85 hd_6 m_13 :: cel b_13 41 [Value.int .i64 Ver_1, Value.int .i64 Inside_1, Value.int .i64 Port_1, Value.int .i64 Secs_1, Value.int .u64 Nonce_1, Value.int .i64 Result__1, Value.int .i64 Epoch_1, Value.int .u32 Host_1] :: FL) w, ?_, ?_⟩
          · rintro n5_7 b8_5 c9_5 y15 i16 w ⟨now_13, list_8, p_23, n_17, c_17, now_14, b_13, Ver_1, Inside_1, Port_1, Secs_1, Nonce_1, Result__1, Epoch_1, Host_1, m_12, p_24, m_13, hd_6, rfl, rfl, rfl, rfl, rfl, hp, h⟩
            replace hp := hq now_13 list_8 now_14 Ver_1 Inside_1 Port_1 Secs_1 Nonce_1 Result__1 Epoch_1 Host_1 i16 m_12 m_13 hp
            unfold embrasurelaw11_GateEpochs_j5
            have cpp_23 := rowCap h 2 rfl
            replace h := h.pick [1, 1, 5]
            dsimp only [pickL, pickR, nthH, delH, dropH, List.cons_append, List.nil_append] at h
            refine nat_Nat_All_ok h hp ?_
            rintro rs_13 list_12 now_21 m_20 p_36 n_26 c_26 p_37 n_27 c_27 hd_10 w rfl rfl h hp
            have cpp_36 := rowCap h 0 rfl
            have cpp_37 := rowCap h 2 rfl
            refine ⟨_, _, _, rfl, ?_⟩
            refine cond_both' hp (fun hp => ?_) (fun hp => ?_)
            · replace h := h.sel [] 10
              dsimp only [pickL, pickR, nthH, delH, dropH, List.cons_append, List.nil_append] at h
              exact hR false _ h hp
            refine ⟨_, cellL h 9 6 rfl rfl rfl, ?_⟩
            refine cond_both' hp (fun hp => ?_) (fun hp => ?_)
            · replace h := h.sel [] 10
              dsimp only [pickL, pickR, nthH, delH, dropH, List.cons_append, List.nil_append] at h
              exact hR false _ h hp
            refine cond_both' hp (fun hp => ?_) (fun hp => ?_)
            · replace h := h.sel [] 10
              dsimp only [pickL, pickR, nthH, delH, dropH, List.cons_append, List.nil_append] at h
              exact hR false _ h hp
            obtain ⟨ia_1, ja_1, hp⟩ := hp
            obtain ⟨a_1, ha_1⟩ := rdAddr (rowRd h 0 encL55 rfl) rfl ia_1 ja_1
            refine ⟨a_1, ha_1, ia_1, ja_1, ?_⟩
            obtain ⟨x_1, hx_1, hc⟩ := rdCell2 (rowRd h 0 encL55 rfl) ha_1 rfl ia_1 ja_1
            replace hp := hp x_1 hx_1
            refine ⟨_, hc 0 1 _ rfl, ?_⟩
            replace h := h.sel [] 10
            dsimp only [pickL, pickR, nthH, delH, dropH, List.cons_append, List.nil_append] at h
            exact hR ((x_1.2.1 : Int) == 6) _ h hp
          clear hq
          replace h := h.drew
          refine ⟨fun w => Mem (cel b_2 25 [Value.int .u32 from_Host, Value.int .i64 from_Port] :: FL) w, (h.sel [5] 8), ?_⟩
          refine ⟨_, cellL h 5 0 rfl rfl rfl, _, cellL h 5 1 rfl rfl rfl, ?_⟩
          refine ⟨?_, ?_⟩
          · intro w h
            change Mem _ _ at h
            refine ⟨_, cellL h 0 0 rfl rfl rfl, _, cellL h 0 1 rfl rfl rfl, ?_⟩
            exact ⟨rfl, rfl⟩
          refine ⟨_, cellL h 5 0 rfl rfl rfl, ?_⟩
          refine ⟨?_, ?_⟩
          · intro w h
            change Mem _ _ at h
            refine ⟨_, cellL h 0 0 rfl rfl rfl, ?_⟩
            exact ⟨rfl, rfl⟩
          refine ⟨?_, ?_⟩
          · replace hp := hp.1
            refine pcp_Ask_ok h hp ?_
            rintro rs_8 p_25 n_18 c_18 w rfl h hp
            have cpp_25 := rowCap h 0 rfl
            refine ⟨_, _, _, rfl, ?_⟩
            refine ⟨(h.sel [6] 9), ?_⟩
            refine ⟨?_, ?_⟩
            · replace hp := hp.1
              replace h := h.pick [1, 1, 1, 1, 5]
              dsimp only [pickL, pickR, nthH, delH, dropH, List.cons_append, List.nil_append] at h
              refine gate_Gate_Hear_ok (FL := row enc5 5 1 p_25 c_18 rs_8 :: row enc82 82 1 p_18 c_13 list_5 :: cel b_2 25 [Value.int .u32 from_Host, Value.int .i64 from_Port] :: cel b_1 57 [Value.int .u16 times_x, Value.int .u16 times_x_1, Value.int .u16 times_x_2] :: cel b_8 41 [Value.int .i64 Ver, Value.int .i64 Inside, Value.int .i64 Port, Value.int .i64 Secs, Value.int .u64 Nonce, Value.int .i64 Result_, Value.int .i64 Epoch, Value.int .u32 Host] :: FL) (fun w h => (rowRd h 0 encL5 rfl)) rfl cpp_25 h hp ?_
              rintro rs_9 now_15 list_9 now_16 m_14 m_15 p_26 n_19 c_19 p_27 n_20 c_20 p_28 hd_7 w rfl rfl h hp
              have cpp_26 := rowCap h 0 rfl
              have cpp_27 := rowCap h 3 rfl
              refine ⟨_, _, _, rfl, ?_⟩
              refine ⟨?_, ?_⟩
              · replace hp := hp.1
                refine pcp_ReadAnswer_ok (FL := row enc5 5 1 p_26 c_19 rs_9 :: cel b_6 75 [Value.pointer (some (Addr.mk b_3 0 none)), Value.bool g_1, Value.bool g_2, Value.int .i64 g_3, Value.int .i64 boot_1, Value.int .i64 now_15, Value.map (some b_7)] :: cel b_3 71 [Value.int .u32 box, Value.int .i64 box_1, Value.int .i64 box_2, Value.int .i64 box_3, Value.int .i64 box_4, Value.int .i64 box_5, Value.int .i64 box_6, Value.slice p_27 list_9.length c_20, Value.int .i64 now_16] :: row enc82 82 1 p_27 c_20 list_9 :: mapQ b_7 va25 va111 p_28 m_14 :: stoP stoE85 hd_7 m_15 :: row enc5 5 1 p_25 c_18 rs_8 :: row enc82 82 1 p_18 c_13 list_5 :: cel b_2 25 [Value.int .u32 from_Host, Value.int .i64 from_Port] :: cel b_1 57 [Value.int .u16 times_x, Value.int .u16 times_x_1, Value.int .u16 times_x_2] :: cel b_8 41 [Value.int .i64 Ver, Value.int .i64 Inside, Value.int .i64 Port, Value.int .i64 Secs, Value.int .u64 Nonce, Value.int .i64 Result_, Value.int .i64 Epoch, Value.int .u32 Host] :: FL) (fun w h => (rowRd h 0 encL5 rfl)) rfl cpp_26 h hp ?_
                intro r_52 r_53 r_54 r_55 r_56 r_57 r_58 r_59 r_60 w h hp
                refine ⟨_, _, _, _, _, _, _, _, _, rfl, ?_⟩
                refine ⟨_, _, _, _, _, _, _, _, rfl, ?_⟩
                refine ⟨_, rfl, ?_⟩
                refine newL (o := [Value.int .i64 0, Value.int .i64 0, Value.int .i64 0, Value.int .i64 0, Value.int .u64 0, Value.int .i64 0, Value.int .i64 0, Value.int .u32 0]) h ?_
                intro b_14 w h
                refine ⟨(h.sel [9] 11), ?_⟩
                refine storeL (ys := [Value.int .i64 r_52, Value.int .i64 r_53, Value.int .i64 r_54, Value.int .i64 r_55, Value.int .u64 r_56, Value.int .i64 r_57, Value.int .i64 r_58, Value.int .u32 r_59]) h 0 0 rfl rfl rfl sz41 rfl rfl ?_
                intro w h
                dsimp only [setH, setVs, setV] at h
                replace h := h.sel [2, 2, 2, 6, 6, 6, 2, 2, 0] 3
                dsimp only [pickL, pickR, nthH, delH, dropH, List.cons_append, List.nil_append] at h
                exact ⟨now_15, list_9, p_27, list_9.length, c_20, now_16, b_14, r_52, r_53, r_54, r_55, r_56, r_57, r_58, r_59, m_14, p_28, m_15, hd_7, rfl, rfl, rfl, rfl, rfl, hp, h⟩
              replace hp := hp.2
              refine newL (o := [Value.int .i64 0, Value.int .i64 0, Value.int .i64 0, Value.int .i64 0, Value.int .u64 0, Value.int .i64 0, Value.int .i64 0, Value.int .u32 0]) h ?_
              intro b_15 w h
              refine ⟨(h.sel [9] 11), ?_⟩
              refine pcp_ReadAnswer_ok (FL := cel b_15 41 [Value.int .i64 0, Value.int .i64 0, Value.int .i64 0, Value.int .i64 0, Value.int .u64 0, Value.int .i64 0, Value.int .i64 0, Value.int .u32 0] :: row enc5 5 1 p_26 c_19 rs_9 :: cel b_6 75 [Value.pointer (some (Addr.mk b_3 0 none)), Value.bool g_1, Value.bool g_2, Value.int .i64 g_3, Value.int .i64 boot_1, Value.int .i64 now_15, Value.map (some b_7)] :: cel b_3 71 [Value.int .u32 box, Value.int .i64 box_1, Value.int .i64 box_2, Value.int .i64 box_3, Value.int .i64 box_4, Value.int .i64 box_5, Value.int .i64 box_6, Value.slice p_27 list_9.length c_20, Value.int .i64 now_16] :: row enc82 82 1 p_27 c_20 list_9 :: mapQ b_7 va25 va111 p_28 m_14 :: stoP stoE85 hd_7 m_15 :: row enc5 5 1 p_25 c_18 rs_8 :: row enc82 82 1 p_18 c_13 list_5 :: cel b_2 25 [Value.int .u32 from_Host, Value.int .i64 from_Port] :: cel b_1 57 [Value.int .u16 times_x, Value.int .u16 times_x_1, Value.int .u16 times_x_2] :: cel b_8 41 [Value.int .i64 Ver, Value.int .i64 Inside, Value.int .i64 Port, Value.int .i64 Secs, Value.int .u64 Nonce, Value.int .i64 Result_, Value.int .i64 Epoch, Value.int .u32 Host] :: FL) (fun w h => (rowRd h 1 encL5 rfl)) rfl cpp_26 h hp ?_
              intro r_61 r_62 r_63 r_64 r_65 r_66 r_67 r_68 r_69 w h hp
              refine ⟨_, _, _, _, _, _, _, _, _, rfl, ?_⟩
              refine ⟨_, _, _, _, _, _, _, _, rfl, ?_⟩
              refine ⟨_, rfl, ?_⟩
              refine storeL (ys := [Value.int .i64 r_61, Value.int .i64 r_62, Value.int .i64 r_63, Value.int .i64 r_64, Value.int .u64 r_65, Value.int .i64 r_66, Value.int .i64 r_67, Value.int .u32 r_68]) h 0 0 rfl rfl rfl sz41 rfl rfl ?_
              intro w h
              dsimp only [setH, setVs, setV] at h
              replace h := h.sel [2, 2, 2, 6, 6, 6, 2, 2, 0] 3
              dsimp only [pickL, pickR, nthH, delH, dropH, List.cons_append, List.nil_append] at h
              exact ⟨now_15, list_9, p_27, list_9.length, c_20, now_16, b_15, r_61, r_62, r_63, r_64, r_65, r_66, r_67, r_68, m_14, p_28, m_15, hd_7, rfl, rfl, rfl, rfl, rfl, hp, h⟩
            replace hp := hp.2
            refine newL (o := [Value.int .i64 0, Value.int .i64 0, Value.int .i64 0, Value.int .i64 0, Value.int .u64 0, Value.int .i64 0, Value.int .i64 0, Value.int .u32 0]) h ?_
            intro b_16 w h
            refine ⟨(h.sel [7] 10), ?_⟩
            replace h := h.pick [2, 2, 2, 2, 6]
            dsimp only [pickL, pickR, nthH, delH, dropH, List.cons_append, List.nil_append] at h
            refine gate_Gate_Hear_ok (FL := cel b_16 41 [Value.int .i64 0, Value.int .i64 0, Value.int .i64 0, Value.int .i64 0, Value.int .u64 0, Value.int .i64 0, Value.int .i64 0, Value.int .u32 0] :: row enc5 5 1 p_25 c_18 rs_8 :: row enc82 82 1 p_18 c_13 list_5 :: cel b_2 25 [Value.int .u32 from_Host, Value.int .i64 from_Port] :: cel b_1 57 [Value.int .u16 times_x, Value.int .u16 times_x_1, Value.int .u16 times_x_2] :: cel b_8 41 [Value.int .i64 Ver, Value.int .i64 Inside, Value.int .i64 Port, Value.int .i64 Secs, Value.int .u64 Nonce, Value.int .i64 Result_, Value.int .i64 Epoch, Value.int .u32 Host] :: FL) (fun w h => (rowRd h 1 encL5 rfl)) rfl cpp_25 h hp ?_
            rintro rs_10 now_17 list_10 now_18 m_16 m_17 p_29 n_21 c_21 p_30 n_22 c_22 p_31 hd_8 w rfl rfl h hp
            have cpp_29 := rowCap h 0 rfl
            have cpp_30 := rowCap h 3 rfl
            refine ⟨_, _, _, rfl, ?_⟩
            refine pcp_ReadAnswer_ok (FL := row enc5 5 1 p_29 c_21 rs_10 :: cel b_6 75 [Value.pointer (some (Addr.mk b_3 0 none)), Value.bool g_1, Value.bool g_2, Value.int .i64 g_3, Value.int .i64 boot_1, Value.int .i64 now_17, Value.map (some b_7)] :: cel b_3 71 [Value.int .u32 box, Value.int .i64 box_1, Value.int .i64 box_2, Value.int .i64 box_3, Value.int .i64 box_4, Value.int .i64 box_5, Value.int .i64 box_6, Value.slice p_30 list_10.length c_22, Value.int .i64 now_18] :: row enc82 82 1 p_30 c_22 list_10 :: mapQ b_7 va25 va111 p_31 m_16 :: stoP stoE85 hd_8 m_17 :: cel b_16 41 [Value.int .i64 0, Value.int .i64 0, Value.int .i64 0, Value.int .i64 0, Value.int .u64 0, Value.int .i64 0, Value.int .i64 0, Value.int .u32 0] :: row enc5 5 1 p_25 c_18 rs_8 :: row enc82 82 1 p_18 c_13 list_5 :: cel b_2 25 [Value.int .u32 from_Host, Value.int .i64 from_Port] :: cel b_1 57 [Value.int .u16 times_x, Value.int .u16 times_x_1, Value.int .u16 times_x_2] :: cel b_8 41 [Value.int .i64 Ver, Value.int .i64 Inside, Value.int .i64 Port, Value.int .i64 Secs, Value.int .u64 Nonce, Value.int .i64 Result_, Value.int .i64 Epoch, Value.int .u32 Host] :: FL) (fun w h => (rowRd h 0 encL5 rfl)) rfl cpp_29 h hp ?_
            intro r_70 r_71 r_72 r_73 r_74 r_75 r_76 r_77 r_78 w h hp
            refine ⟨_, _, _, _, _, _, _, _, _, rfl, ?_⟩
            refine ⟨_, _, _, _, _, _, _, _, rfl, ?_⟩
            refine ⟨_, rfl, ?_⟩
            refine storeL (ys := [Value.int .i64 r_70, Value.int .i64 r_71, Value.int .i64 r_72, Value.int .i64 r_73, Value.int .u64 r_74, Value.int .i64 r_75, Value.int .i64 r_76, Value.int .u32 r_77]) h 6 0 rfl rfl rfl sz41 rfl rfl ?_
            intro w h
            dsimp only [setH, setVs, setV] at h
            replace h := h.sel [1, 1, 1, 6, 6, 6, 1, 1, 1] 3
            dsimp only [pickL, pickR, nthH, delH, dropH, List.cons_append, List.nil_append] at h
            exact ⟨now_17, list_10, p_30, list_10.length, c_22, now_18, b_16, r_70, r_71, r_72, r_73, r_74, r_75, r_76, r_77, m_16, p_31, m_17, hd_8, rfl, rfl, rfl, rfl, rfl, hp, h⟩
          replace hp := hp.2
          refine newL (o := [Value.int .i64 0, Value.int .i64 0, Value.int .i64 0, Value.int .i64 0, Value.int .u64 0, Value.int .i64 0, Value.int .i64 0, Value.int .u32 0]) h ?_
          intro b_17 w h
          refine ⟨(h.sel [6] 9), ?_⟩
          refine pcp_Ask_ok h hp ?_
          rintro rs_11 p_32 n_23 c_23 w rfl h hp
          have cpp_32 := rowCap h 0 rfl
          refine ⟨_, _, _, rfl, ?_⟩
          refine ⟨(h.sel [7] 10), ?_⟩
          replace h := h.pick [2, 2, 2, 2, 6]
          dsimp only [pickL, pickR, nthH, delH, dropH, List.cons_append, List.nil_append] at h
          refine gate_Gate_Hear_ok (FL := row enc5 5 1 p_32 c_23 rs_11 :: cel b_17 41 [Value.int .i64 0, Value.int .i64 0, Value.int .i64 0, Value.int .i64 0, Value.int .u64 0, Value.int .i64 0, Value.int .i64 0, Value.int .u32 0] :: row enc82 82 1 p_18 c_13 list_5 :: cel b_2 25 [Value.int .u32 from_Host, Value.int .i64 from_Port] :: cel b_1 57 [Value.int .u16 times_x, Value.int .u16 times_x_1, Value.int .u16 times_x_2] :: cel b_8 41 [Value.int .i64 Ver, Value.int .i64 Inside, Value.int .i64 Port, Value.int .i64 Secs, Value.int .u64 Nonce, Value.int .i64 Result_, Value.int .i64 Epoch, Value.int .u32 Host] :: FL) (fun w h => (rowRd h 0 encL5 rfl)) rfl cpp_32 h hp ?_
          rintro rs_12 now_19 list_11 now_20 m_18 m_19 p_33 n_24 c_24 p_34 n_25 c_25 p_35 hd_9 w rfl rfl h hp
          have cpp_33 := rowCap h 0 rfl
          have cpp_34 := rowCap h 3 rfl
          refine ⟨_, _, _, rfl, ?_⟩
          refine pcp_ReadAnswer_ok (FL := row enc5 5 1 p_33 c_24 rs_12 :: cel b_6 75 [Value.pointer (some (Addr.mk b_3 0 none)), Value.bool g_1, Value.bool g_2, Value.int .i64 g_3, Value.int .i64 boot_1, Value.int .i64 now_19, Value.map (some b_7)] :: cel b_3 71 [Value.int .u32 box, Value.int .i64 box_1, Value.int .i64 box_2, Value.int .i64 box_3, Value.int .i64 box_4, Value.int .i64 box_5, Value.int .i64 box_6, Value.slice p_34 list_11.length c_25, Value.int .i64 now_20] :: row enc82 82 1 p_34 c_25 list_11 :: mapQ b_7 va25 va111 p_35 m_18 :: stoP stoE85 hd_9 m_19 :: row enc5 5 1 p_32 c_23 rs_11 :: cel b_17 41 [Value.int .i64 0, Value.int .i64 0, Value.int .i64 0, Value.int .i64 0, Value.int .u64 0, Value.int .i64 0, Value.int .i64 0, Value.int .u32 0] :: row enc82 82 1 p_18 c_13 list_5 :: cel b_2 25 [Value.int .u32 from_Host, Value.int .i64 from_Port] :: cel b_1 57 [Value.int .u16 times_x, Value.int .u16 times_x_1, Value.int .u16 times_x_2] :: cel b_8 41 [Value.int .i64 Ver, Value.int .i64 Inside, Value.int .i64 Port, Value.int .i64 Secs, Value.int .u64 Nonce, Value.int .i64 Result_, Value.int .i64 Epoch, Value.int .u32 Host] :: FL) (fun w h => (rowRd h 0 encL5 rfl)) rfl cpp_33 h hp ?_
          intro r_79 r_80 r_81 r_82 r_83 r_84 r_85 r_86 r_87 w h hp
          refine ⟨_, _, _, _, _, _, _, _, _, rfl, ?_⟩
          refine ⟨_, _, _, _, _, _, _, _, rfl, ?_⟩
          refine ⟨_, rfl, ?_⟩
          refine storeL (ys := [Value.int .i64 r_79, Value.int .i64 r_80, Value.int .i64 r_81, Value.int .i64 r_82, Value.int .u64 r_83, Value.int .i64 r_84, Value.int .i64 r_85, Value.int .u32 r_86]) h 7 0 rfl rfl rfl sz41 rfl rfl ?_
          intro w h
          dsimp only [setH, setVs, setV] at h
          replace h := h.sel [1, 1, 1, 6, 6, 6, 1, 1, 2] 3
          dsimp only [pickL, pickR, nthH, delH, dropH, List.cons_append, List.nil_append] at h
          exact ⟨now_19, list_11, p_34, list_11.length, c_25, now_20, b_17, r_79, r_80, r_81, r_82, r_83, r_84, r_85, r_86, m_18, p_35, m_19, hd_9, rfl, rfl, rfl, rfl, rfl, hp, h⟩
        clear hq
        refine cond_both hp (fun hp => ?_) (fun hp => ?_)
        · replace h := h.sel [0, 0, 0, 0, 0, 2, 0, 0] 0
          dsimp only [pickL, pickR, nthH, delH, dropH, List.cons_append, List.nil_append] at h
          exact ⟨list_1, p_5, list_1.length, c_4, now_3, m_2, hd, rfl, rfl, rfl, rfl, rfl, rfl, hp, h⟩
        refine ⟨_, cellL h 7 6 rfl rfl rfl, ?_⟩
        refine cond_both hp (fun hp => ?_) (fun hp => ?_)
        · replace h := h.sel [0, 0, 0, 0, 0, 2, 0, 0] 0
          dsimp only [pickL, pickR, nthH, delH, dropH, List.cons_append, List.nil_append] at h
          exact ⟨list_1, p_5, list_1.length, c_4, now_3, m_2, hd, rfl, rfl, rfl, rfl, rfl, rfl, hp, h⟩
        refine ⟨_, cellL h 7 2 rfl rfl rfl, ?_⟩
        refine cond_both hp (fun hp => ?_) (fun hp => ?_)
        · replace h := h.sel [0, 0, 0, 0, 0, 2, 0, 0] 0
          dsimp only [pickL, pickR, nthH, delH, dropH, List.cons_append, List.nil_append] at h
          exact ⟨list_1, p_5, list_1.length, c_4, now_3, m_2, hd, rfl, rfl, rfl, rfl, rfl, rfl, hp, h⟩
        replace h := h.pick [1, 1, 4]
        dsimp only [pickL, pickR, nthH, delH, dropH, List.cons_append, List.nil_append] at h
        refine nat_Nat_All_ok h hp ?_
        rintro rs_7 list_6 now_11 m_10 p_19 n_14 c_14 p_20 n_15 c_15 hd_5 w rfl rfl h hp
        have cpp_19 := rowCap h 0 rfl
        have cpp_20 := rowCap h 2 rfl
        refine ⟨_, _, _, rfl, ?_⟩
        replace h := h.sel [4, 1, 1, 2, 2, 3, 2, 1] 1
        dsimp only [pickL, pickR, nthH, delH, dropH, List.cons_append, List.nil_append] at h
        exact ⟨list_6, p_20, list_6.length, c_15, now_11, m_10, hd_5, rfl, rfl, rfl, rfl, rfl, rfl, hp, h⟩
      clear hq
      replace h := h.drew
      refine ⟨fun w => Mem (cel b_2 25 [Value.int .u32 from_Host, Value.int .i64 from_Port] :: FL) w, (h.sel [3] 6), ?_⟩
      refine ⟨_, cellL h 3 0 rfl rfl rfl, _, cellL h 3 1 rfl rfl rfl, ?_⟩
      refine ⟨?_, ?_⟩
      · intro w h
        change Mem _ _ at h
        refine ⟨_, cellL h 0 0 rfl rfl rfl, _, cellL h 0 1 rfl rfl rfl, ?_⟩
        exact ⟨rfl, rfl⟩
      refine ⟨?_, ?_⟩
      · replace hp := hp.1
        refine pmp_Ask_ok h hp ?_
        rintro rs_2 p_7 n_5 c_5 w rfl h hp
        have cpp_7 := rowCap h 0 rfl
        refine ⟨_, _, _, rfl, ?_⟩
        refine ⟨(h.sel [4] 7), ?_⟩
        refine ⟨?_, ?_⟩
        · replace hp := hp.1
          replace h := h.pick [1, 1, 1, 3, 3]
          dsimp only [pickL, pickR, nthH, delH, dropH, List.cons_append, List.nil_append] at h
          refine gate_Gate_Hear_ok (FL := row enc5 5 1 p_7 c_5 rs_2 :: cel b_2 25 [Value.int .u32 from_Host, Value.int .i64 from_Port] :: cel b_1 57 [Value.int .u16 times_x, Value.int .u16 times_x_1, Value.int .u16 times_x_2] :: FL) (fun w h => (rowRd h 0 encL5 rfl)) rfl cpp_7 h hp ?_
          rintro rs_3 now_4 list_2 now_5 m_3 m_4 p_8 n_6 c_6 p_9 n_7 c_7 p_10 hd_1 w rfl rfl h hp
          have cpp_8 := rowCap h 0 rfl
          have cpp_9 := rowCap h 3 rfl
          refine ⟨_, _, _, rfl, ?_⟩
          refine ⟨?_, ?_⟩
          · replace hp := hp.1
            refine pmp_ReadAnswer_ok (FL := row enc5 5 1 p_8 c_6 rs_3 :: cel b_6 75 [Value.pointer (some (Addr.mk b_3 0 none)), Value.bool g_1, Value.bool g_2, Value.int .i64 g_3, Value.int .i64 boot, Value.int .i64 now_4, Value.map (some b_7)] :: cel b_3 71 [Value.int .u32 box, Value.int .i64 box_1, Value.int .i64 box_2, Value.int .i64 box_3, Value.int .i64 box_4, Value.int .i64 box_5, Value.int .i64 box_6, Value.slice p_9 list_2.length c_7, Value.int .i64 now_5] :: row enc82 82 1 p_9 c_7 list_2 :: mapQ b_7 va25 va111 p_10 m_3 :: stoP stoE85 hd_1 m_4 :: row enc5 5 1 p_7 c_5 rs_2 :: cel b_2 25 [Value.int .u32 from_Host, Value.int .i64 from_Port] :: cel b_1 57 [Value.int .u16 times_x, Value.int .u16 times_x_1, Value.int .u16 times_x_2] :: FL) (fun w h => (rowRd h 0 encL5 rfl)) rfl cpp_8 h hp ?_
            intro r_12 r_13 r_14 r_15 r_16 r_17 r_18 r_19 r_20 r_21 w h hp
            refine ⟨_, _, _, _, _, _, _, _, _, _, rfl, ?_⟩
            refine ⟨_, _, _, _, _, _, _, _, rfl, ?_⟩
            refine ⟨_, rfl, ?_⟩
            refine newL (o := [Value.int .i64 0, Value.int .i64 0, Value.int .i64 0, Value.int .i64 0, Value.int .u64 0, Value.int .i64 0, Value.int .i64 0, Value.int .u32 0]) h ?_
            intro b_9 w h
            refine ⟨(h.sel [8] 9), ?_⟩
            refine storeL (ys := [Value.int .i64 r_12, Value.int .i64 r_13, Value.int .i64 r_14, Value.int .i64 r_15, Value.int .u64 r_16, Value.int .i64 r_17, Value.int .i64 r_18, Value.int .u32 r_19]) h 0 0 rfl rfl rfl sz41 rfl rfl ?_
            intro w h
            dsimp only [setH, setVs, setV] at h
            replace h := h.sel [2, 2, 2, 5, 5, 2, 2, 0] 2
            dsimp only [pickL, pickR, nthH, delH, dropH, List.cons_append, List.nil_append] at h
            exact ⟨now_4, list_2, p_9, list_2.length, c_7, now_5, b_9, r_12, r_13, r_14, r_15, r_16, r_17, r_18, r_19, m_3, p_10, m_4, hd_1, rfl, rfl, rfl, rfl, rfl, rfl, rfl, rfl, hp, h⟩
          replace hp := hp.2
          refine newL (o := [Value.int .i64 0, Value.int .i64 0, Value.int .i64 0, Value.int .i64 0, Value.int .u64 0, Value.int .i64 0, Value.int .i64 0, Value.int .u32 0]) h ?_
          intro b_10 w h
          refine ⟨(h.sel [8] 9), ?_⟩
          refine pmp_ReadAnswer_ok (FL := cel b_10 41 [Value.int .i64 0, Value.int .i64 0, Value.int .i64 0, Value.int .i64 0, Value.int .u64 0, Value.int .i64 0, Value.int .i64 0, Value.int .u32 0] :: row enc5 5 1 p_8 c_6 rs_3 :: cel b_6 75 [Value.pointer (some (Addr.mk b_3 0 none)), Value.bool g_1, Value.bool g_2, Value.int .i64 g_3, Value.int .i64 boot, Value.int .i64 now_4, Value.map (some b_7)] :: cel b_3 71 [Value.int .u32 box, Value.int .i64 box_1, Value.int .i64 box_2, Value.int .i64 box_3, Value.int .i64 box_4, Value.int .i64 box_5, Value.int .i64 box_6, Value.slice p_9 list_2.length c_7, Value.int .i64 now_5] :: row enc82 82 1 p_9 c_7 list_2 :: mapQ b_7 va25 va111 p_10 m_3 :: stoP stoE85 hd_1 m_4 :: row enc5 5 1 p_7 c_5 rs_2 :: cel b_2 25 [Value.int .u32 from_Host, Value.int .i64 from_Port] :: cel b_1 57 [Value.int .u16 times_x, Value.int .u16 times_x_1, Value.int .u16 times_x_2] :: FL) (fun w h => (rowRd h 1 encL5 rfl)) rfl cpp_8 h hp ?_
          intro r_22 r_23 r_24 r_25 r_26 r_27 r_28 r_29 r_30 r_31 w h hp
          refine ⟨_, _, _, _, _, _, _, _, _, _, rfl, ?_⟩
          refine ⟨_, _, _, _, _, _, _, _, rfl, ?_⟩
          refine ⟨_, rfl, ?_⟩
          refine storeL (ys := [Value.int .i64 r_22, Value.int .i64 r_23, Value.int .i64 r_24, Value.int .i64 r_25, Value.int .u64 r_26, Value.int .i64 r_27, Value.int .i64 r_28, Value.int .u32 r_29]) h 0 0 rfl rfl rfl sz41 rfl rfl ?_
          intro w h
          dsimp only [setH, setVs, setV] at h
          replace h := h.sel [2, 2, 2, 5, 5, 2, 2, 0] 2
          dsimp only [pickL, pickR, nthH, delH, dropH, List.cons_append, List.nil_append] at h
          exact ⟨now_4, list_2, p_9, list_2.length, c_7, now_5, b_10, r_22, r_23, r_24, r_25, r_26, r_27, r_28, r_29, m_3, p_10, m_4, hd_1, rfl, rfl, rfl, rfl, rfl, rfl, rfl, rfl, hp, h⟩
        replace hp := hp.2
        refine newL (o := [Value.int .i64 0, Value.int .i64 0, Value.int .i64 0, Value.int .i64 0, Value.int .u64 0, Value.int .i64 0, Value.int .i64 0, Value.int .u32 0]) h ?_
        intro b_11 w h
        refine ⟨(h.sel [5] 8), ?_⟩
        replace h := h.pick [2, 2, 2, 4, 4]
        dsimp only [pickL, pickR, nthH, delH, dropH, List.cons_append, List.nil_append] at h
        refine gate_Gate_Hear_ok (FL := cel b_11 41 [Value.int .i64 0, Value.int .i64 0, Value.int .i64 0, Value.int .i64 0, Value.int .u64 0, Value.int .i64 0, Value.int .i64 0, Value.int .u32 0] :: row enc5 5 1 p_7 c_5 rs_2 :: cel b_2 25 [Value.int .u32 from_Host, Value.int .i64 from_Port] :: cel b_1 57 [Value.int .u16 times_x, Value.int .u16 times_x_1, Value.int .u16 times_x_2] :: FL) (fun w h => (rowRd h 1 encL5 rfl)) rfl cpp_7 h hp ?_
        rintro rs_4 now_6 list_3 now_7 m_5 m_6 p_11 n_8 c_8 p_12 n_9 c_9 p_13 hd_2 w rfl rfl h hp
        have cpp_11 := rowCap h 0 rfl
        have cpp_12 := rowCap h 3 rfl
        refine ⟨_, _, _, rfl, ?_⟩
        refine pmp_ReadAnswer_ok (FL := row enc5 5 1 p_11 c_8 rs_4 :: cel b_6 75 [Value.pointer (some (Addr.mk b_3 0 none)), Value.bool g_1, Value.bool g_2, Value.int .i64 g_3, Value.int .i64 boot, Value.int .i64 now_6, Value.map (some b_7)] :: cel b_3 71 [Value.int .u32 box, Value.int .i64 box_1, Value.int .i64 box_2, Value.int .i64 box_3, Value.int .i64 box_4, Value.int .i64 box_5, Value.int .i64 box_6, Value.slice p_12 list_3.length c_9, Value.int .i64 now_7] :: row enc82 82 1 p_12 c_9 list_3 :: mapQ b_7 va25 va111 p_13 m_5 :: stoP stoE85 hd_2 m_6 :: cel b_11 41 [Value.int .i64 0, Value.int .i64 0, Value.int .i64 0, Value.int .i64 0, Value.int .u64 0, Value.int .i64 0, Value.int .i64 0, Value.int .u32 0] :: row enc5 5 1 p_7 c_5 rs_2 :: cel b_2 25 [Value.int .u32 from_Host, Value.int .i64 from_Port] :: cel b_1 57 [Value.int .u16 times_x, Value.int .u16 times_x_1, Value.int .u16 times_x_2] :: FL) (fun w h => (rowRd h 0 encL5 rfl)) rfl cpp_11 h hp ?_
        intro r_32 r_33 r_34 r_35 r_36 r_37 r_38 r_39 r_40 r_41 w h hp
        refine ⟨_, _, _, _, _, _, _, _, _, _, rfl, ?_⟩
        refine ⟨_, _, _, _, _, _, _, _, rfl, ?_⟩
        refine ⟨_, rfl, ?_⟩
        refine storeL (ys := [Value.int .i64 r_32, Value.int .i64 r_33, Value.int .i64 r_34, Value.int .i64 r_35, Value.int .u64 r_36, Value.int .i64 r_37, Value.int .i64 r_38, Value.int .u32 r_39]) h 6 0 rfl rfl rfl sz41 rfl rfl ?_
        intro w h
        dsimp only [setH, setVs, setV] at h
        replace h := h.sel [1, 1, 1, 5, 5, 1, 1, 1] 2
        dsimp only [pickL, pickR, nthH, delH, dropH, List.cons_append, List.nil_append] at h
        exact ⟨now_6, list_3, p_12, list_3.length, c_9, now_7, b_11, r_32, r_33, r_34, r_35, r_36, r_37, r_38, r_39, m_5, p_13, m_6, hd_2, rfl, rfl, rfl, rfl, rfl, rfl, rfl, rfl, hp, h⟩
      replace hp := hp.2
      refine newL (o := [Value.int .i64 0, Value.int .i64 0, Value.int .i64 0, Value.int .i64 0, Value.int .u64 0, Value.int .i64 0, Value.int .i64 0, Value.int .u32 0]) h ?_
      intro b_12 w h
      refine ⟨(h.sel [4] 7), ?_⟩
      refine pmp_Ask_ok h hp ?_
      rintro rs_5 p_14 n_10 c_10 w rfl h hp
      have cpp_14 := rowCap h 0 rfl
      refine ⟨_, _, _, rfl, ?_⟩
      refine ⟨(h.sel [5] 8), ?_⟩
      replace h := h.pick [2, 2, 2, 4, 4]
      dsimp only [pickL, pickR, nthH, delH, dropH, List.cons_append, List.nil_append] at h
      refine gate_Gate_Hear_ok (FL := row enc5 5 1 p_14 c_10 rs_5 :: cel b_12 41 [Value.int .i64 0, Value.int .i64 0, Value.int .i64 0, Value.int .i64 0, Value.int .u64 0, Value.int .i64 0, Value.int .i64 0, Value.int .u32 0] :: cel b_2 25 [Value.int .u32 from_Host, Value.int .i64 from_Port] :: cel b_1 57 [Value.int .u16 times_x, Value.int .u16 times_x_1, Value.int .u16 times_x_2] :: FL) (fun w h => (rowRd h 0 encL5 rfl)) rfl cpp_14 h hp ?_
      rintro rs_6 now_8 list_4 now_9 m_7 m_8 p_15 n_11 c_11 p_16 n_12 c_12 p_17 hd_3 w rfl rfl h hp
      have cpp_15 := rowCap h 0 rfl
      have cpp_16 := rowCap h 3 rfl
      refine ⟨_, _, _, rfl, ?_⟩
      refine pmp_ReadAnswer_ok (FL := row enc5 5 1 p_15 c_11 rs_6 :: cel b_6 75 [Value.pointer (some (Addr.mk b_3 0 none)), Value.bool g_1, Value.bool g_2, Value.int .i64 g_3, Value.int .i64 boot, Value.int .i64 now_8, Value.map (some b_7)] :: cel b_3 71 [Value.int .u32 box, Value.int .i64 box_1, Value.int .i64 box_2, Value.int .i64 box_3, Value.int .i64 box_4, Value.int .i64 box_5, Value.int .i64 box_6, Value.slice p_16 list_4.length c_12, Value.int .i64 now_9] :: row enc82 82 1 p_16 c_12 list_4 :: mapQ b_7 va25 va111 p_17 m_7 :: stoP stoE85 hd_3 m_8 :: row enc5 5 1 p_14 c_10 rs_5 :: cel b_12 41 [Value.int .i64 0, Value.int .i64 0, Value.int .i64 0, Value.int .i64 0, Value.int .u64 0, Value.int .i64 0, Value.int .i64 0, Value.int .u32 0] :: cel b_2 25 [Value.int .u32 from_Host, Value.int .i64 from_Port] :: cel b_1 57 [Value.int .u16 times_x, Value.int .u16 times_x_1, Value.int .u16 times_x_2] :: FL) (fun w h => (rowRd h 0 encL5 rfl)) rfl cpp_15 h hp ?_
      intro r_42 r_43 r_44 r_45 r_46 r_47 r_48 r_49 r_50 r_51 w h hp
      refine ⟨_, _, _, _, _, _, _, _, _, _, rfl, ?_⟩
      refine ⟨_, _, _, _, _, _, _, _, rfl, ?_⟩
      refine ⟨_, rfl, ?_⟩
      refine storeL (ys := [Value.int .i64 r_42, Value.int .i64 r_43, Value.int .i64 r_44, Value.int .i64 r_45, Value.int .u64 r_46, Value.int .i64 r_47, Value.int .i64 r_48, Value.int .u32 r_49]) h 7 0 rfl rfl rfl sz41 rfl rfl ?_
      intro w h
      dsimp only [setH, setVs, setV] at h
      replace h := h.sel [1, 1, 1, 5, 5, 1, 1, 2] 2
      dsimp only [pickL, pickR, nthH, delH, dropH, List.cons_append, List.nil_append] at h
      exact ⟨now_8, list_4, p_16, list_4.length, c_12, now_9, b_12, r_42, r_43, r_44, r_45, r_46, r_47, r_48, r_49, m_7, p_17, m_8, hd_3, rfl, rfl, rfl, rfl, rfl, rfl, rfl, rfl, hp, h⟩
    clear hq
    refine eqlPtrNil undP34 ?_
    refine ⟨_, rfl, ?_⟩
    refine cond_ff ?_
    replace h := h.sel [0, 1, 1, 1, 1, 0, 0] 0
    dsimp only [pickL, pickR, nthH, delH, dropH, List.cons_append, List.nil_append] at h
    exact ⟨rfl, rfl, rfl, rfl, rfl, rfl, hp, h⟩
  clear hq
  refine eqlPtrNil undP27 ?_
  refine ⟨_, rfl, ?_⟩
  refine cond_ff ?_
  refine cond_both hp (fun hp => ?_) (fun hp => ?_)
  · exact ⟨rfl, rfl, rfl, hp, h⟩
  refine ⟨_, cellL h 2 0 rfl rfl rfl, ?_⟩
  refine cond_both hp (fun hp => ?_) (fun hp => ?_)
  · exact ⟨rfl, rfl, rfl, hp, h⟩
  refine ⟨_, cellL h 2 1 rfl rfl rfl, ?_⟩
  refine cond_both hp (fun hp => ?_) (fun hp => ?_)
  · exact ⟨rfl, rfl, rfl, hp, h⟩
  refine ⟨_, cellL h 2 1 rfl rfl rfl, ?_⟩
  exact ⟨rfl, rfl, rfl, hp, h⟩
end Go.Proofs.Ytnmdnkmemjfoeaa
