/- Each function over plain data (printed by a program of this claim's author). -/
import Derived.Test.YtpppoicobkmlgaaD
namespace Go.Proofs.Ytpppoicobkmlgaa
open Go Go.Eng Go.Proofs
set_option maxRecDepth 100000
set_option maxHeartbeats 2000000

def enc3 (x : Int) : List Value := [(Value.int .i64 x)]
theorem encL3 : ∀ x, (enc3 x).length = 1 := fun _ => rfl
theorem encO3 : ∀ x, ∀ v ∈ enc3 x, v.oneCell' = true := by intro x v hv; simp only [enc3, List.mem_cons, List.not_mem_nil, or_false] at hv; rcases hv with rfl <;> rfl
def enc28 (x : Int) : List Value := [(Value.int .u32 x)]
theorem encL28 : ∀ x, (enc28 x).length = 1 := fun _ => rfl
theorem encO28 : ∀ x, ∀ v ∈ enc28 x, v.oneCell' = true := by intro x v hv; simp only [enc28, List.mem_cons, List.not_mem_nil, or_false] at hv; rcases hv with rfl <;> rfl
def enc33 (x : Int × Int) : List Value := [(Value.int .u32 x.1), (Value.int .i64 x.2)]
theorem encL33 : ∀ x, (enc33 x).length = 2 := fun _ => rfl
theorem encO33 : ∀ x, ∀ v ∈ enc33 x, v.oneCell' = true := by intro x v hv; simp only [enc33, List.mem_cons, List.not_mem_nil, or_false] at hv; rcases hv with rfl | rfl <;> rfl
def enc49 (x : Int × Int) : List Value := [(Value.int .u32 x.1), (Value.int .i64 x.2)]
theorem encL49 : ∀ x, (enc49 x).length = 2 := fun _ => rfl
theorem encO49 : ∀ x, ∀ v ∈ enc49 x, v.oneCell' = true := by intro x v hv; simp only [enc49, List.mem_cons, List.not_mem_nil, or_false] at hv; rcases hv with rfl | rfl <;> rfl
theorem sz3 : sizeT Try.prog 3 = some 1 := by kernel_rfl
theorem sz4 : sizeT Try.prog 4 = some 1 := by kernel_rfl
theorem sz31 : sizeT Try.prog 31 = some 4 := by kernel_rfl
theorem sz33 : sizeT Try.prog 33 = some 2 := by kernel_rfl
theorem sz41 : sizeT Try.prog 41 = some 1 := by kernel_rfl
theorem sz49 : sizeT Try.prog 49 = some 2 := by kernel_rfl
def encR31 (FL : List HP) (x : Int × Int × (List (Int × Int)) × Int) (cs : List Value) : Prop := ∃ (p2 : Option Addr) (n2 c2 : Nat), cs = [(Value.int .i64 x.1), (Value.int .u32 x.2.1), (Value.slice p2 n2 c2), (Value.int .i64 x.2.2.2)] ∧ n2 = x.2.2.1.length ∧ n2 ≤ c2 ∧ (∀ w, Mem FL w → Rd w 2 p2 enc33 x.2.2.1)
theorem encRm31 {FL FL2 : List HP} (hx : ∀ w, Mem FL2 w → Mem FL w) (x : Int × Int × (List (Int × Int)) × Int) (cs : List Value) : encR31 FL x cs → encR31 FL2 x cs := by
  rintro ⟨p2, n2, c2, rfl, l2, k2, F2⟩
  exact ⟨p2, n2, c2, rfl, l2, k2, (fun w h => F2 w (hx w h))⟩
theorem eqG33 : Try.prog.eqGuardType Try.prog.depth 33 = false := by kernel_rfl
theorem eqA33 : isAggB Try.prog 33 = true := by kernel_rfl
theorem eqT33 (a0 : Int) (a1 : Int) (b0 : Int) (b1 : Int) : eqT Try.prog 20 33 [(Value.int .u32 a0), (Value.int .i64 a1)] [(Value.int .u32 b0), (Value.int .i64 b1)] = some (((a0 : Int) == b0) && (((a1 : Int) == b1) && true)) := by kernel_rfl
theorem zr49 : zeroOf Try.prog 49 = some (Value.agg #[(Value.int .u32 0), (Value.int .i64 0)]) := by kernel_rfl
theorem slt26 : SlT Try.prog 26 3 (Value.int .i64 0) 1 8 := ⟨by kernel_rfl, by kernel_rfl, by kernel_rfl, by decide⟩
theorem slt27 : SlT Try.prog 27 28 (Value.int .u32 0) 1 4 := ⟨by kernel_rfl, by kernel_rfl, by kernel_rfl, by decide⟩
theorem slt41 : SlT Try.prog 41 49 (Value.agg #[(Value.int .u32 0), (Value.int .i64 0)]) 2 16 := ⟨by kernel_rfl, by kernel_rfl, by kernel_rfl, by decide⟩
theorem undP24 : Try.prog.underlying 24 = some (.pointer (Try.prog.pointee 24)) := by kernel_rfl
theorem undB4 : Try.prog.underlying 4 = some .bool := by kernel_rfl
theorem und26 : Try.prog.underlying 26 = some (.slice 3) := by kernel_rfl
theorem und27 : Try.prog.underlying 27 = some (.slice 28) := by kernel_rfl
theorem und41 : Try.prog.underlying 41 = some (.slice 49) := by kernel_rfl

/-! embrasure/dialer.New (7) -/
def dialer_New_wp  (K : List (Int × Int) → Int → Prop) : Prop :=
  K ([] : List (Int × Int)) 0
theorem dialer_New_ok  {FL : List HP} {w : World} {K : List (Int × Int) → Int → Prop} {R : Value → World → Prop}
  (h : Mem (FL) w) (hp : dialer_New_wp  K)
  (hR : ∀ (list : List (Int × Int)) (now : Int) (b_1 : Nat) (p_1 : Option Addr) (n_1 : Nat) (c_1 : Nat) (w : World), n_1 = list.length → Mem (cel b_1 43 [(Value.slice p_1 n_1 c_1), (Value.int .i64 now)] :: row enc49 49 2 p_1 c_1 list :: FL) w → K list now → R (Value.pointer (some (Addr.mk b_1 0 none))) w) :
  CallV Try.prog 7 #[] w R := by
  refine dialer_New_call ?_
  unfold dialer_New
  unfold dialer_New_wp at hp
  refine newL (o := [(Value.slice none 0 0), (Value.int .i64 0)]) h ?_
  intro b_1 w h
  replace h := rowNil enc49 49 2 h
  replace h := h.sel [1, 0] 0
  dsimp only [pickL, pickR, nthH, delH, dropH, List.cons_append, List.nil_append] at h
  exact hR ([] : List (Int × Int)) 0 b_1 (none ) 0 0 _ rfl h hp

/-! (*embrasure/dialer.Server).on$1 (14) -/
def dialer_Server_on_c1_wp (d_host : Int) (d_at : Int) (now : Int) (K : Bool → Prop) : Prop :=
  K (decide (((IntKind.wrap .i64 (d_at + 60)) : Int) ≤ now))
theorem dialer_Server_on_c1_ok {b_1 : Nat} {b_2 : Nat} {p_1 : Option Addr} {n_1 : Nat} {c_1 : Nat} {d_host : Int} {d_at : Int} {now : Int} {FL : List HP} {w : World} {K : Bool → Prop} {R : Value → World → Prop}
  (h : Mem (cel b_1 24 [(Value.pointer (some (Addr.mk b_2 0 none)))] :: cel b_2 43 [(Value.slice p_1 n_1 c_1), (Value.int .i64 now)] :: FL) w) (hp : dialer_Server_on_c1_wp d_host d_at now K)
  (hR : ∀ (r : Bool) (w : World), Mem (cel b_1 24 [(Value.pointer (some (Addr.mk b_2 0 none)))] :: cel b_2 43 [(Value.slice p_1 n_1 c_1), (Value.int .i64 now)] :: FL) w → K r → R (Value.bool r) w) :
  CallV Try.prog 14 #[(Value.agg #[(Value.int .u32 d_host), (Value.int .i64 d_at)]), (Value.pointer (some (Addr.mk b_1 0 none)))] w R := by
  refine dialer_Server_on_c1_call ?_
  unfold dialer_Server_on_c1
  unfold dialer_Server_on_c1_wp at hp
  refine newL (o := [(Value.int .u32 d_host), (Value.int .i64 d_at)]) h ?_
  intro b_3 w h
  replace h := h.drew
  refine ⟨_, cellL h 0 1 rfl rfl rfl, ?_⟩
  refine ⟨_, cellL h 1 0 rfl rfl rfl, ?_⟩
  refine ⟨_, rfl, ?_⟩
  refine ⟨_, cellL h 2 1 rfl rfl rfl, ?_⟩
  replace h := h.sel [1, 1] 1
  dsimp only [pickL, pickR, nthH, delH, dropH, List.cons_append, List.nil_append] at h
  exact hR (decide (((IntKind.wrap .i64 (d_at + 60)) : Int) ≤ now)) _ h hp

/-! slices.IndexFunc[[]embrasure/dialer.dial,embrasure/dialer.dial] (16) -/
def slices_IndexFunc_sl_dialer_dial_dialer_dial_wp {σ1 : Type} (s : List (Int × Int)) (s_1 : σ1) (Y1 : (Int × Int) → σ1 → (Bool → σ1 → Prop) → Prop) (K : Int → σ1 → Prop) : Prop :=
  ∃ (I : Nat → Int → σ1 → Prop), (∃ (n_4 : Nat), I n_4 0 s_1) ∧ ∀ (n_2 : Nat) (t8 : Int) (s_3 : σ1), I n_2 t8 s_3 → (cond (decide ((t8 : Int) < ((s.length : Nat) : Int))) (0 ≤ (t8 : Int) ∧ (t8 : Int) < ((s.length : Nat) : Int) ∧ (∀ (x_1 : Int × Int), s[Int.toNat t8]? = some x_1 → (Y1 x_1 s_3 (fun (t16 : Bool) (s_4 : σ1) => cond t16 (K t8 s_4) (∃ (n_3 : Nat), n_3 < n_2 ∧ I n_3 (IntKind.wrap .i64 (t8 + 1)) s_4))))) (K (-1) s_3))
theorem slices_IndexFunc_sl_dialer_dial_dialer_dial_ok {σ1 : Type} {A1 : σ1 → HP} {p_1 : Option Addr} {n_1 : Nat} {c_1 : Nat} {fv1 : Value} {s : List (Int × Int)} {s_1 : σ1} {Y1 : (Int × Int) → σ1 → (Bool → σ1 → Prop) → Prop} {FL : List HP} {w : World} {K : Int → σ1 → Prop} {R : Value → World → Prop}
  (hY1 : ∀ (x0 : Int × Int) (s : σ1) (K : Bool → σ1 → Prop) (FL2 : List HP) (w : World) (R : Value → World → Prop), (∀ w, Mem FL2 w → Mem FL w) → Mem (A1 s :: FL2) w → Y1 x0 s K → (∀ (r : Bool) (s : σ1) (w : World), Mem (A1 s :: FL2) w → K r s → R (Value.bool r) w) → CalleeV Try.prog fv1 #[(Value.agg #[(Value.int .u32 x0.1), (Value.int .i64 x0.2)])] w R)
  (hF_s : ∀ w, Mem FL w → Rd w 2 p_1 enc49 s) (hl_s : n_1 = s.length) (hc_s : n_1 ≤ c_1)
  (h : Mem (A1 s_1 :: FL) w) (hp : slices_IndexFunc_sl_dialer_dial_dialer_dial_wp s s_1 Y1 K)
  (hR : ∀ (r : Int) (s_2 : σ1) (w : World), Mem (A1 s_2 :: FL) w → K r s_2 → R (Value.int .i64 r) w) :
  CallV Try.prog 16 #[(Value.slice p_1 n_1 c_1), fv1] w R := by
  refine slices_IndexFunc_sl_dialer_dial_dialer_dial_call ?_
  unfold slices_IndexFunc_sl_dialer_dial_dialer_dial
  unfold slices_IndexFunc_sl_dialer_dial_dialer_dial_wp at hp
  subst hl_s
  obtain ⟨I, ⟨n_4, h0⟩, hq⟩ := hp
  refine ⟨fun n_2 s0p s0l s0c f1 t7 t8 w => ∃ (s_3 : σ1), p_1 = s0p ∧ s.length = s0l ∧ c_1 = s0c ∧ fv1 = f1 ∧ ((s.length : Nat) : Int) = t7 ∧ I n_2 t8 s_3 ∧ Mem (A1 s_3 :: FL) w, ⟨n_4, s_1, rfl, rfl, rfl, rfl, rfl, h0, h⟩, ?_⟩
  clear h0 h
  rintro n_2 s0p s0l s0c f1 t7 t8 w ⟨s_3, rfl, rfl, rfl, rfl, rfl, hp, h⟩
  replace hp := hq n_2 t8 s_3 hp
  clear hq
  unfold slices_IndexFunc_sl_dialer_dial_dialer_dial_l1
  refine cond_both' hp (fun hp => ?_) (fun hp => ?_)
  · exact hR (-1) s_3 _ h hp
  obtain ⟨ia_1, ja_1, hp⟩ := hp
  obtain ⟨a_1, ha_1⟩ := rdAddr (hF_s _ (h.drop 1)) rfl ia_1 ja_1
  refine ⟨a_1, ha_1, ia_1, ja_1, ?_⟩
  obtain ⟨x_1, hx_1, hc⟩ := rdCell (hF_s _ (h.drop 1)) ha_1 rfl ia_1 ja_1
  replace hp := hp x_1 hx_1
  refine ⟨_, hc 0 _ rfl, _, hc 1 _ rfl, ?_⟩
  refine hY1 x_1 _ _ (FL) _ _ (fun _ h => Mem.drop 0 h) h hp ?_
  intro t16 s_4 w h hp
  refine ⟨_, rfl, ?_⟩
  refine cond_both hp (fun hp => ?_) (fun hp => ?_)
  · exact hR t8 s_4 _ h hp
  obtain ⟨n_3, hn, hp⟩ := hp
  exact ⟨n_3, hn, s_4, rfl, rfl, rfl, rfl, rfl, hp, h⟩

/-! slices.DeleteFunc[[]embrasure/dialer.dial,embrasure/dialer.dial] (13) -/
def slices_DeleteFunc_sl_dialer_dial_dialer_dial_wp {σ1 : Type} (s : List (Int × Int)) (s_1 : σ1) (Y1 : (Int × Int) → σ1 → (Bool → σ1 → Prop) → Prop) (K : List (Int × Int) → σ1 → Prop) : Prop :=
  slices_IndexFunc_sl_dialer_dial_dialer_dial_wp s s_1 Y1 (fun (r : Int) (s_3 : σ1) => cond ((r : Int) == (-1)) (K s s_3) (joinP3 (fun (s_4 : List (Int × Int)) (i5 : Int) (s_5 : σ1) => 0 ≤ (i5 : Int) ∧ (i5 : Int) ≤ ((s.length : Nat) : Int) ∧ (0 ≤ (i5 : Int) ∧ (i5 : Int) ≤ ((s.length : Nat) : Int) ∧ (K ((((s_4.take (Int.toNat i5)) ++ List.replicate (s.length - (Int.toNat i5)) (0, 0) ++ (s_4.drop s.length)).take (Int.toNat i5)).drop 0) s_5))) (fun (Q : List (Int × Int) → Int → σ1 → Prop) => ∃ (I : Nat → List (Int × Int) → Int → Int → σ1 → Prop), (∃ (n_5 : Nat), I n_5 s r (IntKind.wrap .i64 (r + 1)) s_3) ∧ ∀ (n_2 : Nat) (s_6 : List (Int × Int)) (i5_1 : Int) (j6 : Int) (s_7 : σ1), I n_2 s_6 i5_1 j6 s_7 → (cond (decide ((j6 : Int) < ((s.length : Nat) : Int))) (0 ≤ (j6 : Int) ∧ (j6 : Int) < ((s.length : Nat) : Int) ∧ (∀ (x_1 : Int × Int), s_6[Int.toNat j6]? = some x_1 → (Y1 x_1 s_7 (fun (t28 : Bool) (s_8 : σ1) => cond (!t28) (0 ≤ (i5_1 : Int) ∧ (i5_1 : Int) < ((s.length : Nat) : Int) ∧ (∃ (n_3 : Nat), n_3 < n_2 ∧ I n_3 (List.set s_6 (Int.toNat i5_1) x_1) (IntKind.wrap .i64 (i5_1 + 1)) (IntKind.wrap .i64 (j6 + 1)) s_8)) (∃ (n_4 : Nat), n_4 < n_2 ∧ I n_4 s_6 i5_1 (IntKind.wrap .i64 (j6 + 1)) s_8))))) (Q s_6 i5_1 s_7)))))
theorem slices_DeleteFunc_sl_dialer_dial_dialer_dial_ok {σ1 : Type} {A1 : σ1 → HP} {p_1 : Option Addr} {c_1 : Nat} {n_1 : Nat} {fv1 : Value} {s : List (Int × Int)} {s_1 : σ1} {Y1 : (Int × Int) → σ1 → (Bool → σ1 → Prop) → Prop} {FL : List HP} {w : World} {K : List (Int × Int) → σ1 → Prop} {R : Value → World → Prop}
  (hY1 : ∀ (x0 : Int × Int) (s : σ1) (K : Bool → σ1 → Prop) (FL2 : List HP) (w : World) (R : Value → World → Prop), (∀ w, Mem FL2 w → Mem FL w) → Mem (A1 s :: FL2) w → Y1 x0 s K → (∀ (r : Bool) (s : σ1) (w : World), Mem (A1 s :: FL2) w → K r s → R (Value.bool r) w) → CalleeV Try.prog fv1 #[(Value.agg #[(Value.int .u32 x0.1), (Value.int .i64 x0.2)])] w R) (hn_p_1 : n_1 = s.length)
  (h : Mem (row enc49 49 2 p_1 c_1 s :: A1 s_1 :: FL) w) (hp : slices_DeleteFunc_sl_dialer_dial_dialer_dial_wp s s_1 Y1 K)
  (hR : ∀ (rs : List (Int × Int)) (s_2 : σ1) (p_2 : Option Addr) (n_2 : Nat) (c_2 : Nat) (w : World), n_2 = rs.length → Mem (row enc49 49 2 p_2 c_2 rs :: A1 s_2 :: FL) w → K rs s_2 → R (Value.slice p_2 n_2 c_2) w) :
  CallV Try.prog 13 #[(Value.slice p_1 n_1 c_1), fv1] w R := by
  refine slices_DeleteFunc_sl_dialer_dial_dialer_dial_call ?_
  unfold slices_DeleteFunc_sl_dialer_dial_dialer_dial
  unfold slices_DeleteFunc_sl_dialer_dial_dialer_dial_wp at hp
  subst hn_p_1
  have cpp_1 := rowCap h 0 rfl
  replace h := h.pick [1]
  dsimp only [pickL, pickR, nthH, delH, dropH, List.cons_append, List.nil_append] at h
  refine slices_IndexFunc_sl_dialer_dial_dialer_dial_ok (FL := row enc49 49 2 p_1 c_1 s :: FL) (A1 := A1) (Y1 := Y1) (σ1 := σ1) (s_1 := s_1) (fun _ _ _ FL2 w R hx => hY1 _ _ _ FL2 w R (fun w h => (Mem.drop 1 (hx w h)))) (fun w h => (rowRd h 0 encL49 rfl)) rfl cpp_1 h hp ?_
  intro r s_3 w h hp
  refine ⟨_, rfl, ?_⟩
  refine cond_both hp (fun hp => ?_) (fun hp => ?_)
  · replace h := h.sel [1, 0] 0
    dsimp only [pickL, pickR, nthH, delH, dropH, List.cons_append, List.nil_append] at h
    exact hR s s_3 p_1 s.length c_1 _ rfl h hp
  obtain ⟨Q, hq, hp⟩ := hp
  refine ⟨fun s0p s0l s0c i5 w => ∃ (s_4 : List (Int × Int)), ∃ (s_5 : σ1), p_1 = s0p ∧ s.length = s0l ∧ c_1 = s0c ∧ s.length = s_4.length ∧ Q s_4 i5 s_5 ∧ Mem (A1 s_5 :: row enc49 49 2 p_1 c_1 s_4 :: FL) w, ?_, ?_⟩
  · rintro s0p s0l s0c i5 w ⟨s_4, s_5, rfl, rfl, rfl, hl_s_4, hp, h⟩
    replace hp := hq s_4 i5 s_5 hp
    unfold slices_DeleteFunc_sl_dialer_dial_dialer_dial_j1
    obtain ⟨g_1la, g_1lb, hp⟩ := hp
    have vg_1_lh : (Int.toNat i5) ≤ s.length := (natLe g_1la g_1lb)
    have vg_1_hm : s.length ≤ c_1 := cpp_1
    have vg_1_mc : c_1 ≤ c_1 := (Nat.le_refl _)
    have vg_1_hl : s.length ≤ s_4.length := (Nat.le_of_eq hl_s_4)
    refine ⟨g_1la, g_1lb, ?_⟩
    refine clearL (x0 := (0, 0)) (lo := (Int.toNat i5)) (hi := s.length) (m := c_1) und41 zr49 h 1 encL49 rfl rfl rfl vg_1_lh vg_1_hm vg_1_hl rfl ?_
    intro w h
    dsimp only [setH, setVs, setV] at h
    refine ⟨rfl, ?_⟩
    obtain ⟨g_2ha, g_2hb, hp⟩ := hp
    have vg_2_lh : 0 ≤ (Int.toNat i5) := (Nat.zero_le _)
    have vg_2_hm : (Int.toNat i5) ≤ c_1 := (Nat.le_trans (natLe g_2ha g_2hb) cpp_1)
    have vg_2_mc : c_1 ≤ c_1 := (Nat.le_refl _)
    have vg_2_hl : (Int.toNat i5) ≤ ((s_4.take (Int.toNat i5)) ++ List.replicate (s.length - (Int.toNat i5)) (0, 0) ++ (s_4.drop s.length)).length := (leLen g_2ha g_2hb (lenClear hl_s_4 vg_1_lh vg_1_hl))
    refine ⟨g_2ha, (leCap g_2hb cpp_1), ?_⟩
    replace h := rowShrink h 1 encL49 rfl (l := 0) (hi := (Int.toNat i5)) (m := c_1) vg_2_lh vg_2_hm vg_2_mc vg_2_hl
    dsimp only [setH, setVs, setV] at h
    replace h := h.sel [1, 0] 0
    dsimp only [pickL, pickR, nthH, delH, dropH, List.cons_append, List.nil_append] at h
    exact hR ((((s_4.take (Int.toNat i5)) ++ List.replicate (s.length - (Int.toNat i5)) (0, 0) ++ (s_4.drop s.length)).take (Int.toNat i5)).drop 0) s_5 (slAddr p_1 2 0 c_1) ((Int.toNat i5) - 0) (c_1 - 0) _ (viewLen vg_2_hl) h hp
  clear hq
  obtain ⟨I, ⟨n_5, h0⟩, hq⟩ := hp
  refine ⟨fun n_2 s0_1p s0_1l s0_1c del1 i5_1 j6 w => ∃ (s_6 : List (Int × Int)), ∃ (s_7 : σ1), p_1 = s0_1p ∧ s.length = s0_1l ∧ c_1 = s0_1c ∧ fv1 = del1 ∧ s.length = s_6.length ∧ I n_2 s_6 i5_1 j6 s_7 ∧ Mem (A1 s_7 :: row enc49 49 2 p_1 c_1 s_6 :: FL) w, ⟨n_5, s, s_3, rfl, rfl, rfl, rfl, rfl, h0, h⟩, ?_⟩
  clear h0 h
  rintro n_2 s0_1p s0_1l s0_1c del1 i5_1 j6 w ⟨s_6, s_7, rfl, rfl, rfl, rfl, hl_s_6, hp, h⟩
  replace hp := hq n_2 s_6 i5_1 j6 s_7 hp
  clear hq
  unfold slices_DeleteFunc_sl_dialer_dial_dialer_dial_l2
  refine cond_both' hp (fun hp => ?_) (fun hp => ?_)
  · exact ⟨s_6, s_7, rfl, rfl, rfl, hl_s_6, hp, h⟩
  obtain ⟨ia_1, ja_1, hp⟩ := hp
  obtain ⟨a_1, ha_1⟩ := rdAddr (rowRd h 1 encL49 rfl) hl_s_6 ia_1 ja_1
  refine ⟨a_1, ha_1, ia_1, ja_1, ?_⟩
  obtain ⟨x_1, hx_1, hc⟩ := rdCell (rowRd h 1 encL49 rfl) ha_1 hl_s_6 ia_1 ja_1
  replace hp := hp x_1 hx_1
  refine ⟨_, hc 0 _ rfl, _, hc 1 _ rfl, ?_⟩
  refine newL (o := [(Value.int .u32 0), (Value.int .i64 0)]) h ?_
  intro b_1 w h
  refine storeL (ys := [(Value.int .u32 x_1.1), (Value.int .i64 x_1.2)]) h 0 0 rfl rfl rfl sz49 rfl rfl ?_
  intro w h
  dsimp only [setH, setVs, setV] at h
  refine ⟨_, cellL h 0 0 rfl rfl rfl, _, cellL h 0 1 rfl rfl rfl, ?_⟩
  replace h := h.pick [1]
  dsimp only [pickL, pickR, nthH, delH, dropH, List.cons_append, List.nil_append] at h
  refine hY1 x_1 _ _ (cel b_1 49 [(Value.int .u32 x_1.1), (Value.int .i64 x_1.2)] :: row enc49 49 2 p_1 c_1 s_6 :: FL) _ _ (fun _ h => Mem.drop 2 h) h hp ?_
  intro t28 s_8 w h hp
  refine ⟨_, rfl, ?_⟩
  refine cond_both' hp (fun hp => ?_) (fun hp => ?_)
  · replace h := h.sel [0, 1] 1
    dsimp only [pickL, pickR, nthH, delH, dropH, List.cons_append, List.nil_append] at h
    obtain ⟨n_4, hn, hp⟩ := hp
    exact ⟨n_4, hn, s_6, s_8, rfl, rfl, rfl, rfl, hl_s_6, hp, h⟩
  refine ⟨_, cellL h 1 0 rfl rfl rfl, _, cellL h 1 1 rfl rfl rfl, ?_⟩
  obtain ⟨ia_2, ja_2, hp⟩ := hp
  obtain ⟨a_2, ha_2⟩ := rdAddr (rowRd h 2 encL49 rfl) hl_s_6 ia_2 ja_2
  refine ⟨a_2, ha_2, ia_2, ja_2, ?_⟩
  refine rowSetW (ys := [(Value.int .u32 x_1.1), (Value.int .i64 x_1.2)]) (x := x_1) h 2 encL49 rfl ha_2 hl_s_6 ia_2 ja_2 sz49 rfl rfl rfl ?_
  intro w h
  dsimp only [setH, setVs, setV] at h
  replace h := h.sel [0, 1] 1
  dsimp only [pickL, pickR, nthH, delH, dropH, List.cons_append, List.nil_append] at h
  obtain ⟨n_3, hn, hp⟩ := hp
  exact ⟨n_3, hn, (List.set s_6 (Int.toNat i5_1) x_1), s_8, rfl, rfl, rfl, rfl, (lenSet hl_s_6), hp, h⟩

/-! (*embrasure/dialer.Server).on (10) -/
def dialer_Server_on_wp (list : List (Int × Int)) (now : Int) (now_1 : Int) (K : List (Int × Int) → Int → Prop) : Prop :=
  slices_DeleteFunc_sl_dialer_dial_dialer_dial_wp list () (fun x_1 s K_1 => dialer_Server_on_c1_wp x_1.1 x_1.2 (if ((if (1099511627776 : Int) < now_1 then 1099511627776 else now_1) : Int) > now then (if (1099511627776 : Int) < now_1 then 1099511627776 else now_1) else now) (fun (r : Bool) => K_1 r s)) (fun (rs : List (Int × Int)) (s_1 : (Unit)) => K rs (if ((if (1099511627776 : Int) < now_1 then 1099511627776 else now_1) : Int) > now then (if (1099511627776 : Int) < now_1 then 1099511627776 else now_1) else now))
theorem dialer_Server_on_ok {b_1 : Nat} {p_1 : Option Addr} {c_1 : Nat} {list : List (Int × Int)} {now : Int} {now_1 : Int} {FL : List HP} {w : World} {K : List (Int × Int) → Int → Prop} {R : Value → World → Prop}
  (h : Mem (cel b_1 43 [(Value.slice p_1 list.length c_1), (Value.int .i64 now)] :: row enc49 49 2 p_1 c_1 list :: FL) w) (hp : dialer_Server_on_wp list now now_1 K)
  (hR : ∀ (list_1 : List (Int × Int)) (now_2 : Int) (p_2 : Option Addr) (n_1 : Nat) (c_2 : Nat) (w : World), n_1 = list_1.length → Mem (cel b_1 43 [(Value.slice p_2 n_1 c_2), (Value.int .i64 now_2)] :: row enc49 49 2 p_2 c_2 list_1 :: FL) w → K list_1 now_2 → R undef w) :
  CallV Try.prog 10 #[(Value.pointer (some (Addr.mk b_1 0 none))), (Value.int .i64 now_1)] w R := by
  refine dialer_Server_on_call ?_
  unfold dialer_Server_on
  unfold dialer_Server_on_wp at hp
  have cpp_1 := rowCap h 1 rfl
  refine newL (o := [(Value.pointer (some (Addr.mk b_1 0 none)))]) h ?_
  intro b_2 w h
  replace h := h.drew
  refine ⟨_, cellL h 0 0 rfl rfl rfl, ?_⟩
  refine ⟨_, cellL h 0 0 rfl rfl rfl, ?_⟩
  refine ⟨_, rfl, ?_⟩
  refine ⟨_, cellL h 1 1 rfl rfl rfl, ?_⟩
  refine ⟨_, rfl, ?_⟩
  refine storeL (ys := [(Value.int .i64 (if ((if (1099511627776 : Int) < now_1 then 1099511627776 else now_1) : Int) > now then (if (1099511627776 : Int) < now_1 then 1099511627776 else now_1) else now))]) h 1 1 rfl rfl rfl sz3 rfl rfl ?_
  intro w h
  dsimp only [setH, setVs, setV] at h
  replace h := h.drew
  refine ⟨fun w => Mem (cel b_2 24 [(Value.pointer (some (Addr.mk b_1 0 none)))] :: FL) w, (h.sel [0] 2), ?_⟩
  refine ⟨_, cellL h 0 0 rfl rfl rfl, ?_⟩
  refine ⟨?_, ?_⟩
  · intro w h
    change Mem _ _ at h
    refine ⟨_, cellL h 0 0 rfl rfl rfl, ?_⟩
    exact ⟨rfl, rfl⟩
  refine ⟨_, cellL h 0 0 rfl rfl rfl, ?_⟩
  refine ⟨_, rfl, ?_⟩
  refine ⟨_, _, _, cellL h 1 0 rfl rfl rfl, ?_⟩
  replace h : Mem ((fun (_ : Unit) => HL [cel b_2 24 [(Value.pointer (some (Addr.mk b_1 0 none)))], cel b_1 43 [(Value.slice p_1 list.length c_1), (Value.int .i64 (if ((if (1099511627776 : Int) < now_1 then 1099511627776 else now_1) : Int) > now then (if (1099511627776 : Int) < now_1 then 1099511627776 else now_1) else now))]]) () :: row enc49 49 2 p_1 c_1 list :: FL) _ := h.pack 2 [cel b_2 24 [(Value.pointer (some (Addr.mk b_1 0 none)))], cel b_1 43 [(Value.slice p_1 list.length c_1), (Value.int .i64 (if ((if (1099511627776 : Int) < now_1 then 1099511627776 else now_1) : Int) > now then (if (1099511627776 : Int) < now_1 then 1099511627776 else now_1) else now))]] rfl
  replace h := h.pick [1, 0]
  dsimp only [pickL, pickR, nthH, delH, dropH, List.cons_append, List.nil_append] at h
  refine slices_DeleteFunc_sl_dialer_dial_dialer_dial_ok (FL := FL) (A1 := (fun (_ : Unit) => HL [cel b_2 24 [(Value.pointer (some (Addr.mk b_1 0 none)))], cel b_1 43 [(Value.slice p_1 list.length c_1), (Value.int .i64 (if ((if (1099511627776 : Int) < now_1 then 1099511627776 else now_1) : Int) > now then (if (1099511627776 : Int) < now_1 then 1099511627776 else now_1) else now))]])) (Y1 := (fun x_1 s K_1 => dialer_Server_on_c1_wp x_1.1 x_1.2 (if ((if (1099511627776 : Int) < now_1 then 1099511627776 else now_1) : Int) > now then (if (1099511627776 : Int) < now_1 then 1099511627776 else now_1) else now) (fun (r : Bool) => K_1 r s))) (σ1 := Unit) (s_1 := ()) ?_ rfl h hp ?_
  · intro x_1 s K FL2 w R hx h hp hR
    replace h := h.unpack
    dsimp only [pickL, pickR, nthH, delH, dropH, List.cons_append, List.nil_append] at h
    refine calleeFn (by kernel_rfl) ?_
    refine dialer_Server_on_c1_ok h hp ?_
    intro r w h hp
    exact hR r s _ (h.pack 2 [cel b_2 24 [(Value.pointer (some (Addr.mk b_1 0 none)))], cel b_1 43 [(Value.slice p_1 list.length c_1), (Value.int .i64 (if ((if (1099511627776 : Int) < now_1 then 1099511627776 else now_1) : Int) > now then (if (1099511627776 : Int) < now_1 then 1099511627776 else now_1) else now))]] rfl) hp
  rintro rs s_1 p_3 n_2 c_3 w rfl h hp
  have cpp_3 := rowCap h 0 rfl
  replace h := h.pick [1]
  dsimp only [pickL, pickR, nthH, delH, dropH, List.cons_append, List.nil_append] at h
  replace h := h.unpack
  dsimp only [pickL, pickR, nthH, delH, dropH, List.cons_append, List.nil_append] at h
  refine ⟨_, _, _, rfl, ?_⟩
  refine ⟨(h.sel [0] 2), ?_⟩
  refine ⟨_, rfl, ?_⟩
  refine storeL (ys := [(Value.slice p_3 rs.length c_3)]) h 1 0 rfl rfl rfl sz41 rfl rfl ?_
  intro w h
  dsimp only [setH, setVs, setV] at h
  replace h := h.sel [1, 1] 1
  dsimp only [pickL, pickR, nthH, delH, dropH, List.cons_append, List.nil_append] at h
  exact hR rs (if ((if (1099511627776 : Int) < now_1 then 1099511627776 else now_1) : Int) > now then (if (1099511627776 : Int) < now_1 then 1099511627776 else now_1) else now) p_3 rs.length c_3 _ rfl h hp

/-! embrasure/addr.May (18) -/
def addr_May_wp (a_Host : Int) (a_Port : Int) (K : Bool → Prop) : Prop :=
  cond ((a_Host : Int) != 0) (cond (decide ((a_Port : Int) ≥ 1)) (K (decide ((a_Port : Int) ≤ 65535))) (K false)) (K false)
theorem addr_May_ok {a_Host : Int} {a_Port : Int} {FL : List HP} {w : World} {K : Bool → Prop} {R : Value → World → Prop}
  (h : Mem (FL) w) (hp : addr_May_wp a_Host a_Port K)
  (hR : ∀ (r : Bool) (w : World), Mem (FL) w → K r → R (Value.bool r) w) :
  CallV Try.prog 18 #[(Value.agg #[(Value.int .u32 a_Host), (Value.int .i64 a_Port)])] w R := by
  refine addr_May_call ?_
  unfold addr_May
  unfold addr_May_wp at hp
  refine newL (o := [(Value.int .u32 a_Host), (Value.int .i64 a_Port)]) h ?_
  intro b_1 w h
  refine ⟨_, cellL h 0 0 rfl rfl rfl, ?_⟩
  refine cond_both' hp (fun hp => ?_) (fun hp => ?_)
  · replace h := h.sel [] 1
    dsimp only [pickL, pickR, nthH, delH, dropH, List.cons_append, List.nil_append] at h
    exact hR false _ h hp
  refine ⟨_, cellL h 0 1 rfl rfl rfl, ?_⟩
  refine cond_both' hp (fun hp => ?_) (fun hp => ?_)
  · replace h := h.sel [] 1
    dsimp only [pickL, pickR, nthH, delH, dropH, List.cons_append, List.nil_append] at h
    exact hR false _ h hp
  refine ⟨_, cellL h 0 1 rfl rfl rfl, ?_⟩
  replace h := h.sel [] 1
  dsimp only [pickL, pickR, nthH, delH, dropH, List.cons_append, List.nil_append] at h
  exact hR (decide ((a_Port : Int) ≤ 65535)) _ h hp

/-! embrasure/dialer.fitting$1 (17) -/
def dialer_fitting_c1_wp {σ0 : Type} (s : σ0) (Y0 : (Int × Int) → σ0 → (Bool → σ0 → Prop) → Prop) (t : List (Int × Int)) (t_1 : Int) (K : σ0 → Prop) : Prop :=
  ∃ (I : Nat → Int → σ0 → Prop), (∃ (n_4 : Nat), I n_4 0 s) ∧ ∀ (n_2 : Nat) (t8 : Int) (s_2 : σ0), I n_2 t8 s_2 → (cond (decide ((t8 : Int) < ((t.length : Nat) : Int))) (0 ≤ (t8 : Int) ∧ (t8 : Int) < ((t.length : Nat) : Int) ∧ (∀ (x_1 : Int × Int), t[Int.toNat t8]? = some x_1 → (joinP2 (fun (t25 : Bool) (s_3 : σ0) => cond t25 (K s_3) (∃ (n_3 : Nat), n_3 < n_2 ∧ I n_3 (IntKind.wrap .i64 (t8 + 1)) s_3)) (fun (Q : Bool → σ0 → Prop) => addr_May_wp x_1.1 x_1.2 (fun (r : Bool) => cond r (cond ((x_1.1 : Int) == t_1) (Y0 x_1 s_2 (fun (t23 : Bool) (s_4 : σ0) => Q (!t23) s_4)) (Q false s_2)) (Q false s_2)))))) (K s_2))
theorem dialer_fitting_c1_ok {σ0 : Type} {A0 : σ0 → HP} {fv0 : Value} {b_1 : Nat} {p_1 : Option Addr} {n_1 : Nat} {c_1 : Nat} {b_2 : Nat} {s : σ0} {Y0 : (Int × Int) → σ0 → (Bool → σ0 → Prop) → Prop} {t : List (Int × Int)} {t_1 : Int} {FL : List HP} {w : World} {K : σ0 → Prop} {R : Value → World → Prop}
  (hY0 : ∀ (x0 : Int × Int) (s : σ0) (K : Bool → σ0 → Prop) (FL2 : List HP) (w : World) (R : Value → World → Prop), (∀ w, Mem FL2 w → Mem FL w) → Mem (A0 s :: FL2) w → Y0 x0 s K → (∀ (r : Bool) (s : σ0) (w : World), Mem (A0 s :: FL2) w → K r s → R (Value.bool r) w) → CalleeV Try.prog fv0 #[(Value.agg #[(Value.int .u32 x0.1), (Value.int .i64 x0.2)])] w R)
  (hF_t : ∀ w, Mem FL w → Rd w 2 p_1 enc33 t) (hl_t : n_1 = t.length) (hc_t : n_1 ≤ c_1)
  (h : Mem (cel b_1 29 [(Value.slice p_1 n_1 c_1)] :: cel b_2 28 [(Value.int .u32 t_1)] :: A0 s :: FL) w) (hp : dialer_fitting_c1_wp s Y0 t t_1 K)
  (hR : ∀ (s_1 : σ0) (w : World), Mem (cel b_1 29 [(Value.slice p_1 t.length c_1)] :: cel b_2 28 [(Value.int .u32 t_1)] :: A0 s_1 :: FL) w → K s_1 → R undef w) :
  CallV Try.prog 17 #[fv0, (Value.pointer (some (Addr.mk b_1 0 none))), (Value.pointer (some (Addr.mk b_2 0 none)))] w R := by
  refine dialer_fitting_c1_call ?_
  unfold dialer_fitting_c1
  unfold dialer_fitting_c1_wp at hp
  subst hl_t
  refine ⟨_, _, _, cellL h 0 0 rfl rfl rfl, ?_⟩
  obtain ⟨I, ⟨n_4, h0⟩, hq⟩ := hp
  refine ⟨fun n_2 yield0 t2 t6p t6l t6c t7 t8 w => ∃ (s_2 : σ0), fv0 = yield0 ∧ (Addr.mk b_2 0 none) = t2 ∧ p_1 = t6p ∧ t.length = t6l ∧ c_1 = t6c ∧ ((t.length : Nat) : Int) = t7 ∧ I n_2 t8 s_2 ∧ Mem (cel b_1 29 [(Value.slice p_1 t.length c_1)] :: cel b_2 28 [(Value.int .u32 t_1)] :: A0 s_2 :: FL) w, ⟨n_4, s, rfl, rfl, rfl, rfl, rfl, rfl, h0, h⟩, ?_⟩
  clear h0 h
  rintro n_2 yield0 t2 t6p t6l t6c t7 t8 w ⟨s_2, rfl, rfl, rfl, rfl, rfl, rfl, hp, h⟩
  replace hp := hq n_2 t8 s_2 hp
  clear hq
  unfold dialer_fitting_c1_l1
  refine cond_both' hp (fun hp => ?_) (fun hp => ?_)
  · exact hR s_2 _ h hp
  obtain ⟨ia_1, ja_1, hp⟩ := hp
  obtain ⟨a_1, ha_1⟩ := rdAddr (hF_t _ (h.drop 3)) rfl ia_1 ja_1
  refine ⟨a_1, ha_1, ia_1, ja_1, ?_⟩
  obtain ⟨x_1, hx_1, hc⟩ := rdCell (hF_t _ (h.drop 3)) ha_1 rfl ia_1 ja_1
  replace hp := hp x_1 hx_1
  refine ⟨_, hc 0 _ rfl, _, hc 1 _ rfl, ?_⟩
  refine newL (o := [(Value.int .u32 0), (Value.int .i64 0)]) h ?_
  intro b_3 w h
  refine storeL (ys := [(Value.int .u32 x_1.1), (Value.int .i64 x_1.2)]) h 0 0 rfl rfl rfl sz33 rfl rfl ?_
  intro w h
  dsimp only [setH, setVs, setV] at h
  obtain ⟨Q, hq, hp⟩ := hp
  refine ⟨fun yield0_1 t2_1 t6_1p t6_1l t6_1c t7_1 t8_1 t25 w => ∃ (s_3 : σ0), fv0 = yield0_1 ∧ (Addr.mk b_2 0 none) = t2_1 ∧ p_1 = t6_1p ∧ t.length = t6_1l ∧ c_1 = t6_1c ∧ ((t.length : Nat) : Int) = t7_1 ∧ t8 = t8_1 ∧ Q t25 s_3 ∧ Mem (cel b_3 33 [(Value.int .u32 x_1.1), (Value.int .i64 x_1.2)] :: cel b_1 29 [(Value.slice p_1 t.length c_1)] :: cel b_2 28 [(Value.int .u32 t_1)] :: A0 s_3 :: FL) w, ?_, ?_⟩
  · rintro yield0_1 t2_1 t6_1p t6_1l t6_1c t7_1 t8_1 t25 w ⟨s_3, rfl, rfl, rfl, rfl, rfl, rfl, rfl, hp, h⟩
    replace hp := hq t25 s_3 hp
    unfold dialer_fitting_c1_j2
    refine cond_both hp (fun hp => ?_) (fun hp => ?_)
    · replace h := h.sel [1, 1, 1] 1
      dsimp only [pickL, pickR, nthH, delH, dropH, List.cons_append, List.nil_append] at h
      exact hR s_3 _ h hp
    replace h := h.sel [1, 1, 1] 1
    dsimp only [pickL, pickR, nthH, delH, dropH, List.cons_append, List.nil_append] at h
    obtain ⟨n_3, hn, hp⟩ := hp
    exact ⟨n_3, hn, s_3, rfl, rfl, rfl, rfl, rfl, rfl, hp, h⟩
  clear hq
  refine ⟨_, cellL h 0 0 rfl rfl rfl, _, cellL h 0 1 rfl rfl rfl, ?_⟩
  refine addr_May_ok h hp ?_
  intro r w h hp
  refine ⟨_, rfl, ?_⟩
  refine cond_both' hp (fun hp => ?_) (fun hp => ?_)
  · exact ⟨s_2, rfl, rfl, rfl, rfl, rfl, rfl, rfl, hp, h⟩
  refine ⟨_, cellL h 0 0 rfl rfl rfl, ?_⟩
  refine ⟨_, cellL h 2 0 rfl rfl rfl, ?_⟩
  refine cond_both' hp (fun hp => ?_) (fun hp => ?_)
  · exact ⟨s_2, rfl, rfl, rfl, rfl, rfl, rfl, rfl, hp, h⟩
  refine ⟨_, cellL h 0 0 rfl rfl rfl, _, cellL h 0 1 rfl rfl rfl, ?_⟩
  replace h := h.pick [3]
  dsimp only [pickL, pickR, nthH, delH, dropH, List.cons_append, List.nil_append] at h
  refine hY0 x_1 _ _ (cel b_3 33 [(Value.int .u32 x_1.1), (Value.int .i64 x_1.2)] :: cel b_1 29 [(Value.slice p_1 t.length c_1)] :: cel b_2 28 [(Value.int .u32 t_1)] :: FL) _ _ (fun _ h => Mem.drop 3 h) h hp ?_
  intro t23 s_4 w h hp
  refine ⟨_, rfl, ?_⟩
  replace h := h.sel [1, 1, 1, 0] 0
  dsimp only [pickL, pickR, nthH, delH, dropH, List.cons_append, List.nil_append] at h
  exact ⟨s_4, rfl, rfl, rfl, rfl, rfl, rfl, rfl, hp, h⟩

/-! embrasure/dialer.fitting (15) -/
def dialer_fitting_wp (host : Int) (addrs : List (Int × Int)) (K : Int → Prop) : Prop :=
  K host
theorem dialer_fitting_ok {p_1 : Option Addr} {n_1 : Nat} {c_1 : Nat} {host : Int} {addrs : List (Int × Int)} {FL : List HP} {w : World} {K : Int → Prop} {R : Value → World → Prop}
  (hF_addrs : ∀ w, Mem FL w → Rd w 2 p_1 enc33 addrs) (hl_addrs : n_1 = addrs.length) (hc_addrs : n_1 ≤ c_1)
  (h : Mem (FL) w) (hp : dialer_fitting_wp host addrs K)
  (hR : ∀ (x_1 : Int) (b_1 : Nat) (b_2 : Nat) (w : World), Mem (cel b_1 29 [(Value.slice p_1 addrs.length c_1)] :: cel b_2 28 [(Value.int .u32 x_1)] :: FL) w → K x_1 → R (Value.func (Fn.func 17) #[] #[(Value.pointer (some (Addr.mk b_1 0 none))), (Value.pointer (some (Addr.mk b_2 0 none)))]) w) :
  CallV Try.prog 15 #[(Value.int .u32 host), (Value.slice p_1 n_1 c_1)] w R := by
  refine dialer_fitting_call ?_
  unfold dialer_fitting
  unfold dialer_fitting_wp at hp
  subst hl_addrs
  refine newL (o := [(Value.int .u32 host)]) h ?_
  intro b_1 w h
  refine newL (o := [(Value.slice p_1 addrs.length c_1)]) h ?_
  intro b_2 w h
  exact hR host b_2 b_1 _ h hp

/-! embrasure/dialer.first (11) -/
def dialer_first_wp (host : Int) (addrs : List (Int × Int)) (K : Int → Int → Bool → Prop) : Prop :=
  joinP3 (fun (x_1 : Bool) (Host : Int) (Port : Int) => K 0 0 (false)) (fun (Q : Bool → Int → Int → Prop) => dialer_fitting_wp host addrs (fun (x_2 : Int) => dialer_fitting_c1_wp (0, false, 0, 0) (fun x_4 (s : Nat × Bool × Int × Int) K_1 => s.1 = 0 ∧ (K_1 false (1, true, x_4.1, x_4.2))) addrs x_2 (fun (s_1 : (Nat × Bool × Int × Int)) => (s_1.1 = 0 ∧ (Q s_1.2.1 s_1.2.2.1 s_1.2.2.2)) ∨ (s_1.1 ≠ 0 ∧ (K s_1.2.2.1 s_1.2.2.2 s_1.2.1)))))
theorem dialer_first_ok {p_1 : Option Addr} {n_1 : Nat} {c_1 : Nat} {host : Int} {addrs : List (Int × Int)} {FL : List HP} {w : World} {K : Int → Int → Bool → Prop} {R : Value → World → Prop}
  (hF_addrs : ∀ w, Mem FL w → Rd w 2 p_1 enc33 addrs) (hl_addrs : n_1 = addrs.length) (hc_addrs : n_1 ≤ c_1)
  (h : Mem (FL) w) (hp : dialer_first_wp host addrs K)
  (hR : ∀ (r : Int) (r_1 : Int) (r_2 : Bool) (w : World), Mem (FL) w → K r r_1 r_2 → R (Value.tuple #[(Value.agg #[(Value.int .u32 r), (Value.int .i64 r_1)]), (Value.bool r_2)]) w) :
  CallV Try.prog 11 #[(Value.int .u32 host), (Value.slice p_1 n_1 c_1)] w R := by
  refine dialer_first_call ?_
  unfold dialer_first
  unfold dialer_first_wp at hp
  subst hl_addrs
  replace h := marksNil h
  refine newL (o := [(Value.int .u32 0), (Value.int .i64 0)]) h ?_
  intro b_1 w h
  refine newL (o := [(Value.bool false)]) h ?_
  intro b_2 w h
  obtain ⟨Q, hq, hp⟩ := hp
  refine ⟨fun t4 t5 m_1 w => ∃ (x_1 : Bool), ∃ (Host : Int), ∃ (Port : Int), (Addr.mk b_1 0 none) = t4 ∧ (Addr.mk b_2 0 none) = t5 ∧ Q x_1 Host Port ∧ Mem (cel b_2 4 [(Value.bool x_1)] :: cel b_1 33 [(Value.int .u32 Host), (Value.int .i64 Port)] :: marksP m_1 :: FL) w, ?_, ?_⟩
  · rintro t4 t5 m_1 w ⟨x_1, Host, Port, rfl, rfl, hp, h⟩
    replace hp := hq x_1 Host Port hp
    unfold dialer_first_j1
    refine storeL (ys := [(Value.int .u32 0), (Value.int .i64 0)]) h 1 0 rfl rfl rfl sz33 rfl rfl ?_
    intro w h
    dsimp only [setH, setVs, setV] at h
    refine storeL (ys := [(Value.bool false)]) h 0 0 rfl rfl rfl sz4 rfl rfl ?_
    intro w h
    dsimp only [setH, setVs, setV] at h
    replace h := h.pick [2]
    dsimp only [pickL, pickR, nthH, delH, dropH, List.cons_append, List.nil_append] at h
    refine finishMarks _ h ?_
    intro w h
    refine ⟨_, cellL h 1 0 rfl rfl rfl, _, cellL h 1 1 rfl rfl rfl, ?_⟩
    refine ⟨_, cellL h 0 0 rfl rfl rfl, ?_⟩
    replace h := h.sel [] 2
    dsimp only [pickL, pickR, nthH, delH, dropH, List.cons_append, List.nil_append] at h
    exact hR 0 0 (false) _ h hp
  clear hq
  refine dialer_fitting_ok (FL := cel b_2 4 [(Value.bool false)] :: cel b_1 33 [(Value.int .u32 0), (Value.int .i64 0)] :: marksP [] :: FL) (fun w h => (hF_addrs _ (h.drop 3))) rfl hc_addrs h hp ?_
  intro x_2 b_3 b_4 w h hp
  intro e_1 fn_e_1 he_e_1 hr_e_1
  refine newO h ?_
  intro d w h
  refine newO h ?_
  intro l_1 w h
  replace h := h.pick [1, 5]
  dsimp only [pickL, pickR, nthH, delH, dropH, List.cons_append, List.nil_append] at h
  replace h := marksPush h
  show rangeCallW _ (Value.func (Fn.func 17) _ _) _ _ _
  refine rangeCallFn (by kernel_rfl) ?_
  replace h := h.pick [1, 3, 3]
  dsimp only [pickL, pickR, nthH, delH, dropH, List.cons_append, List.nil_append] at h
  replace h : Mem ((fun (s : Nat × Bool × Int × Int) => HL [pt l_1 (loopS (dialer_first_lo1 fn_e_1 e_1 d) s.1 (fun (n : Nat) => ((if n = 0 then none else (some .ret)) : Option Code))), cel b_2 4 [(Value.bool s.2.1)], cel b_1 33 [(Value.int .u32 s.2.2.1), (Value.int .i64 s.2.2.2)]]) (0, false, 0, 0) :: marksP (d :: []) :: cel b_3 29 [(Value.slice p_1 addrs.length c_1)] :: cel b_4 28 [(Value.int .u32 x_2)] :: FL) _ := h.pack 3 [pt l_1 (loopS (dialer_first_lo1 fn_e_1 e_1 d) 0 (fun (n : Nat) => ((if n = 0 then none else (some .ret)) : Option Code))), cel b_2 4 [(Value.bool false)], cel b_1 33 [(Value.int .u32 0), (Value.int .i64 0)]] rfl
  replace h := h.pick [2, 2, 0]
  dsimp only [pickL, pickR, nthH, delH, dropH, List.cons_append, List.nil_append] at h
  refine dialer_fitting_c1_ok (FL := marksP (d :: []) :: FL) (A0 := (fun (s : Nat × Bool × Int × Int) => HL [pt l_1 (loopS (dialer_first_lo1 fn_e_1 e_1 d) s.1 (fun (n : Nat) => ((if n = 0 then none else (some .ret)) : Option Code))), cel b_2 4 [(Value.bool s.2.1)], cel b_1 33 [(Value.int .u32 s.2.2.1), (Value.int .i64 s.2.2.2)]])) (Y0 := (fun x_4 (s : Nat × Bool × Int × Int) K_1 => s.1 = 0 ∧ (K_1 false (1, true, x_4.1, x_4.2)))) (σ0 := Nat × Bool × Int × Int) (s := (0, false, 0, 0)) ?_ (fun w h => (hF_addrs _ (h.drop 1))) rfl hc_addrs h hp ?_
  · intro x_4 s K_1 FL2 w R hx h hp hR
    replace h := h.unpack
    dsimp only [pickL, pickR, nthH, delH, dropH, List.cons_append, List.nil_append] at h
    obtain ⟨hst, hp⟩ := hp
    refine dialer_first_r1_yield (by have := objAt h 0 rfl; rw [hst] at this; exact this) he_e_1 hr_e_1 ?_
    unfold dialer_first_r1
    refine newL (o := [(Value.int .u32 0), (Value.int .i64 0)]) h ?_
    intro b_5 w h
    refine storeL (ys := [(Value.int .u32 x_4.1), (Value.int .i64 x_4.2)]) h 0 0 rfl rfl rfl sz33 rfl rfl ?_
    intro w h
    dsimp only [setH, setVs, setV] at h
    refine ⟨_, (by have := objAt h 1 rfl; rw [hst] at this; exact this : _ = some (Obj.loop (dialer_first_lo1 fn_e_1 e_1 d))), rfl, ?_⟩
    replace h := h.putK 1 rfl (.loop { dialer_first_lo1 fn_e_1 e_1 d with state := .busy })
    dsimp only [setH] at h
    refine ⟨_, cellL h 0 0 rfl rfl rfl, _, cellL h 0 1 rfl rfl rfl, ?_⟩
    refine storeL (ys := [(Value.int .u32 x_4.1), (Value.int .i64 x_4.2)]) h 3 0 rfl rfl rfl sz33 rfl rfl ?_
    intro w h
    dsimp only [setH, setVs, setV] at h
    refine storeL (ys := [(Value.bool true)]) h 2 0 rfl rfl rfl sz4 rfl rfl ?_
    intro w h
    dsimp only [setH, setVs, setV] at h
    refine ⟨_, objAt h 1 rfl, ?_⟩
    replace h := h.putK 1 rfl (loopS (dialer_first_lo1 fn_e_1 e_1 d) 1 (fun (n : Nat) => ((if n = 0 then none else (some .ret)) : Option Code)))
    dsimp only [setH] at h
    replace h := h.pick [1]
    dsimp only [pickL, pickR, nthH, delH, dropH, List.cons_append, List.nil_append] at h
    replace h := h.sel [0, 1, 1] 1
    dsimp only [pickL, pickR, nthH, delH, dropH, List.cons_append, List.nil_append] at h
    exact hR false (1, true, x_4.1, x_4.2) _ (h.pack 3 [pt l_1 (loopS (dialer_first_lo1 fn_e_1 e_1 d) 1 (fun (n : Nat) => ((if n = 0 then none else (some .ret)) : Option Code))), cel b_2 4 [(Value.bool true)], cel b_1 33 [(Value.int .u32 x_4.1), (Value.int .i64 x_4.2)]] rfl) hp
  intro s_1 w h hp
  replace h := h.pick [2]
  dsimp only [pickL, pickR, nthH, delH, dropH, List.cons_append, List.nil_append] at h
  replace h := h.unpack
  dsimp only [pickL, pickR, nthH, delH, dropH, List.cons_append, List.nil_append] at h
  refine ⟨_, objAt h 0 rfl, loopS_ns _, ?_⟩
  replace h := h.putK 0 rfl (.loop { dialer_first_lo1 fn_e_1 e_1 d with state := .exhausted, pending := (fun (n : Nat) => ((if n = 0 then none else (some .ret)) : Option Code)) s_1.1 })
  dsimp only [setH] at h
  rcases hp with ⟨hst, hp⟩ | ⟨hst, hp⟩
  · refine Or.inl ?_
    refine ⟨congrArg (fun (n : Nat) => ((if n = 0 then none else (some .ret)) : Option Code)) hst, ?_⟩
    replace h := h.sel [1, 1, 3] 3
    dsimp only [pickL, pickR, nthH, delH, dropH, List.cons_append, List.nil_append] at h
    exact ⟨s_1.2.1, s_1.2.2.1, s_1.2.2.2, rfl, rfl, hp, h⟩
  · refine Or.inr (?_)
    refine ⟨show (fun (n : Nat) => ((if n = 0 then none else (some .ret)) : Option Code)) s_1.1 = _ from if_neg hst, ?_⟩
    replace h := h.pick [5]
    dsimp only [pickL, pickR, nthH, delH, dropH, List.cons_append, List.nil_append] at h
    refine ⟨(marksPop h).1, ?_⟩
    replace h := (marksPop h).2
    refine ⟨_, cellL h 3 0 rfl rfl rfl, _, cellL h 3 1 rfl rfl rfl, ?_⟩
    refine ⟨_, cellL h 2 0 rfl rfl rfl, ?_⟩
    replace h := h.sel [] 6
    dsimp only [pickL, pickR, nthH, delH, dropH, List.cons_append, List.nil_append] at h
    exact hR s_1.2.2.1 s_1.2.2.2 s_1.2.1 _ h hp

/-! (*embrasure/dialer.Server).count (12) -/
def dialer_Server_count_wp (list : List (Int × Int)) (now : Int) (host : Int) (K : Int → Prop) : Prop :=
  ∃ (I : Nat → Int → Int → Prop), (∃ (n_4 : Nat), I n_4 0 0) ∧ ∀ (n_1 : Nat) (n5 : Int) (t13 : Int), I n_1 n5 t13 → (cond (decide ((t13 : Int) < ((list.length : Nat) : Int))) (0 ≤ (t13 : Int) ∧ (t13 : Int) < ((list.length : Nat) : Int) ∧ (∀ (x_1 : Int × Int), list[Int.toNat t13]? = some x_1 → (joinP1 (fun (t24 : Bool) => cond t24 (∃ (n_2 : Nat), n_2 < n_1 ∧ I n_2 (IntKind.wrap .i64 (n5 + 1)) (IntKind.wrap .i64 (t13 + 1))) (∃ (n_3 : Nat), n_3 < n_1 ∧ I n_3 n5 (IntKind.wrap .i64 (t13 + 1)))) (fun (Q : Bool → Prop) => cond ((host : Int) == 0) (Q true) (Q ((x_1.1 : Int) == host)))))) (K n5))
theorem dialer_Server_count_ok {b_1 : Nat} {p_1 : Option Addr} {c_1 : Nat} {list : List (Int × Int)} {now : Int} {host : Int} {FL : List HP} {w : World} {K : Int → Prop} {R : Value → World → Prop}
  (h : Mem (cel b_1 43 [(Value.slice p_1 list.length c_1), (Value.int .i64 now)] :: row enc49 49 2 p_1 c_1 list :: FL) w) (hp : dialer_Server_count_wp list now host K)
  (hR : ∀ (r : Int) (w : World), Mem (cel b_1 43 [(Value.slice p_1 list.length c_1), (Value.int .i64 now)] :: row enc49 49 2 p_1 c_1 list :: FL) w → K r → R (Value.int .i64 r) w) :
  CallV Try.prog 12 #[(Value.pointer (some (Addr.mk b_1 0 none))), (Value.int .u32 host)] w R := by
  refine dialer_Server_count_call ?_
  unfold dialer_Server_count
  unfold dialer_Server_count_wp at hp
  have cpp_1 := rowCap h 1 rfl
  refine ⟨_, rfl, ?_⟩
  refine ⟨_, _, _, cellL h 0 0 rfl rfl rfl, ?_⟩
  obtain ⟨I, ⟨n_4, h0⟩, hq⟩ := hp
  refine ⟨fun n_1 host1 n5 t11p t11l t11c t12 t13 w => host = host1 ∧ p_1 = t11p ∧ list.length = t11l ∧ c_1 = t11c ∧ ((list.length : Nat) : Int) = t12 ∧ I n_1 n5 t13 ∧ Mem (cel b_1 43 [(Value.slice p_1 list.length c_1), (Value.int .i64 now)] :: row enc49 49 2 p_1 c_1 list :: FL) w, ⟨n_4, rfl, rfl, rfl, rfl, rfl, h0, h⟩, ?_⟩
  clear h0 h
  rintro n_1 host1 n5 t11p t11l t11c t12 t13 w ⟨rfl, rfl, rfl, rfl, rfl, hp, h⟩
  replace hp := hq n_1 n5 t13 hp
  clear hq
  unfold dialer_Server_count_l1
  refine cond_both' hp (fun hp => ?_) (fun hp => ?_)
  · exact hR n5 _ h hp
  obtain ⟨ia_1, ja_1, hp⟩ := hp
  obtain ⟨a_1, ha_1⟩ := rdAddr (rowRd h 1 encL49 rfl) rfl ia_1 ja_1
  refine ⟨a_1, ha_1, ia_1, ja_1, ?_⟩
  obtain ⟨x_1, hx_1, hc⟩ := rdCell (rowRd h 1 encL49 rfl) ha_1 rfl ia_1 ja_1
  replace hp := hp x_1 hx_1
  refine ⟨_, hc 0 _ rfl, _, hc 1 _ rfl, ?_⟩
  refine newL (o := [(Value.int .u32 0), (Value.int .i64 0)]) h ?_
  intro b_2 w h
  refine storeL (ys := [(Value.int .u32 x_1.1), (Value.int .i64 x_1.2)]) h 0 0 rfl rfl rfl sz49 rfl rfl ?_
  intro w h
  dsimp only [setH, setVs, setV] at h
  obtain ⟨Q, hq, hp⟩ := hp
  refine ⟨fun host1_1 n5_1 t11_1p t11_1l t11_1c t12_1 t13_1 t24 w => host = host1_1 ∧ n5 = n5_1 ∧ p_1 = t11_1p ∧ list.length = t11_1l ∧ c_1 = t11_1c ∧ ((list.length : Nat) : Int) = t12_1 ∧ t13 = t13_1 ∧ Q t24 ∧ Mem (cel b_2 49 [(Value.int .u32 x_1.1), (Value.int .i64 x_1.2)] :: cel b_1 43 [(Value.slice p_1 list.length c_1), (Value.int .i64 now)] :: row enc49 49 2 p_1 c_1 list :: FL) w, ?_, ?_⟩
  · rintro host1_1 n5_1 t11_1p t11_1l t11_1c t12_1 t13_1 t24 w ⟨rfl, rfl, rfl, rfl, rfl, rfl, rfl, hp, h⟩
    replace hp := hq t24 hp
    unfold dialer_Server_count_j2
    refine cond_both hp (fun hp => ?_) (fun hp => ?_)
    · replace h := h.sel [1, 1] 1
      dsimp only [pickL, pickR, nthH, delH, dropH, List.cons_append, List.nil_append] at h
      obtain ⟨n_2, hn, hp⟩ := hp
      exact ⟨n_2, hn, rfl, rfl, rfl, rfl, rfl, hp, h⟩
    replace h := h.sel [1, 1] 1
    dsimp only [pickL, pickR, nthH, delH, dropH, List.cons_append, List.nil_append] at h
    obtain ⟨n_3, hn, hp⟩ := hp
    exact ⟨n_3, hn, rfl, rfl, rfl, rfl, rfl, hp, h⟩
  clear hq
  refine cond_both hp (fun hp => ?_) (fun hp => ?_)
  · exact ⟨rfl, rfl, rfl, rfl, rfl, rfl, rfl, hp, h⟩
  refine ⟨_, cellL h 0 0 rfl rfl rfl, ?_⟩
  exact ⟨rfl, rfl, rfl, rfl, rfl, rfl, rfl, hp, h⟩

/-! (*embrasure/dialer.Server).Ask (8) -/
def dialer_Server_Ask_wp (list : List (Int × Int)) (now : Int) (now_1 : Int) (from_ : Int) (addrs : List (Int × Int)) (cost : Int) (K : Int → Int → Int → Int → List (Int × Int) → Int → Prop) : Prop :=
  joinP1 (fun (t37 : Bool) => cond t37 (K 0 0 0 1 list now) (dialer_Server_on_wp list now now_1 (fun (list_2 : List (Int × Int)) (now_3 : Int) => dialer_first_wp from_ addrs (fun (r : Int) (r_1 : Int) (r_2 : Bool) => cond (!r_2) (K 0 0 0 13 list_2 now_3) (joinP1 (fun (t52 : Bool) => cond t52 (K 0 0 0 7 list_2 now_3) ((list_2.length + [(from_, now_1)].length) * 16 ≤ 140737488355328 ∧ (K r r_1 (if (1200 : Int) < cost then 1200 else cost) 0 (list_2 ++ [(from_, now_1)]) now_3))) (fun (Q_1 : Bool → Prop) => dialer_Server_count_wp list_2 now_3 from_ (fun (r_3 : Int) => cond (decide ((r_3 : Int) ≥ 3)) (Q_1 true) (dialer_Server_count_wp list_2 now_3 0 (fun (r_4 : Int) => Q_1 (decide ((r_4 : Int) ≥ 30))))))))))) (fun (Q : Bool → Prop) => cond ((from_ : Int) == 0) (Q true) (cond (decide ((now_1 : Int) < now)) (Q true) (cond (decide ((now_1 : Int) > 1099511627776)) (Q true) (cond (decide ((cost : Int) < 0)) (Q true) (Q (decide ((((addrs.length : Nat) : Int) : Int) > 8)))))))
theorem dialer_Server_Ask_ok {b_1 : Nat} {p_1 : Option Addr} {c_1 : Nat} {p_2 : Option Addr} {n_1 : Nat} {c_2 : Nat} {list : List (Int × Int)} {now : Int} {now_1 : Int} {from_ : Int} {addrs : List (Int × Int)} {cost : Int} {FL : List HP} {w : World} {K : Int → Int → Int → Int → List (Int × Int) → Int → Prop} {R : Value → World → Prop}
  (hF_addrs : ∀ w, Mem FL w → Rd w 2 p_2 enc33 addrs) (hl_addrs : n_1 = addrs.length) (hc_addrs : n_1 ≤ c_2)
  (h : Mem (cel b_1 43 [(Value.slice p_1 list.length c_1), (Value.int .i64 now)] :: row enc49 49 2 p_1 c_1 list :: FL) w) (hp : dialer_Server_Ask_wp list now now_1 from_ addrs cost K)
  (hR : ∀ (r : Int) (r_1 : Int) (r_2 : Int) (r_3 : Int) (list_1 : List (Int × Int)) (now_2 : Int) (p_3 : Option Addr) (n_2 : Nat) (c_3 : Nat) (w : World), n_2 = list_1.length → Mem (cel b_1 43 [(Value.slice p_3 n_2 c_3), (Value.int .i64 now_2)] :: row enc49 49 2 p_3 c_3 list_1 :: FL) w → K r r_1 r_2 r_3 list_1 now_2 → R (Value.tuple #[(Value.agg #[(Value.int .u32 r), (Value.int .i64 r_1)]), (Value.int .i64 r_2), (Value.int .i64 r_3)]) w) :
  CallV Try.prog 8 #[(Value.pointer (some (Addr.mk b_1 0 none))), (Value.int .i64 now_1), (Value.int .u32 from_), (Value.slice p_2 n_1 c_2), (Value.int .i64 cost)] w R := by
  refine dialer_Server_Ask_call ?_
  unfold dialer_Server_Ask
  unfold dialer_Server_Ask_wp at hp
  subst hl_addrs
  have cpp_1 := rowCap h 1 rfl
  refine newL (o := [(Value.int .u32 0), (Value.int .i64 0)]) h ?_
  intro b_2 w h
  obtain ⟨Q, hq, hp⟩ := hp
  refine ⟨fun s0 now1 from2 addrs3p addrs3l addrs3c cost4 t10 t37 w => (some (Addr.mk b_1 0 none)) = s0 ∧ now_1 = now1 ∧ from_ = from2 ∧ p_2 = addrs3p ∧ addrs.length = addrs3l ∧ c_2 = addrs3c ∧ cost = cost4 ∧ (Addr.mk b_2 0 none) = t10 ∧ Q t37 ∧ Mem (cel b_2 33 [(Value.int .u32 0), (Value.int .i64 0)] :: cel b_1 43 [(Value.slice p_1 list.length c_1), (Value.int .i64 now)] :: row enc49 49 2 p_1 c_1 list :: FL) w, ?_, ?_⟩
  · rintro s0 now1 from2 addrs3p addrs3l addrs3c cost4 t10 t37 w ⟨rfl, rfl, rfl, rfl, rfl, rfl, rfl, rfl, hp, h⟩
    replace hp := hq t37 hp
    unfold dialer_Server_Ask_j1
    refine cond_both hp (fun hp => ?_) (fun hp => ?_)
    · refine storeL (ys := [(Value.int .u32 0), (Value.int .i64 0)]) h 0 0 rfl rfl rfl sz33 rfl rfl ?_
      intro w h
      dsimp only [setH, setVs, setV] at h
      refine ⟨_, cellL h 0 0 rfl rfl rfl, _, cellL h 0 1 rfl rfl rfl, ?_⟩
      replace h := h.sel [1, 1] 1
      dsimp only [pickL, pickR, nthH, delH, dropH, List.cons_append, List.nil_append] at h
      exact hR 0 0 0 1 list now p_1 list.length c_1 _ rfl h hp
    replace h := h.pick [1, 1]
    dsimp only [pickL, pickR, nthH, delH, dropH, List.cons_append, List.nil_append] at h
    refine dialer_Server_on_ok h hp ?_
    rintro list_2 now_3 p_4 n_3 c_4 w rfl h hp
    have cpp_4 := rowCap h 1 rfl
    refine ⟨rfl, ?_⟩
    refine dialer_first_ok (FL := cel b_1 43 [(Value.slice p_4 list_2.length c_4), (Value.int .i64 now_3)] :: row enc49 49 2 p_4 c_4 list_2 :: cel b_2 33 [(Value.int .u32 0), (Value.int .i64 0)] :: FL) (fun w h => (hF_addrs _ (h.drop 3))) rfl hc_addrs h hp ?_
    intro r r_1 r_2 w h hp
    refine ⟨_, _, _, rfl, ?_⟩
    refine newL (o := [(Value.int .u32 0), (Value.int .i64 0)]) h ?_
    intro b_3 w h
    refine storeL (ys := [(Value.int .u32 r), (Value.int .i64 r_1)]) h 0 0 rfl rfl rfl sz33 rfl rfl ?_
    intro w h
    dsimp only [setH, setVs, setV] at h
    refine cond_both hp (fun hp => ?_) (fun hp => ?_)
    · refine storeL (ys := [(Value.int .u32 0), (Value.int .i64 0)]) h 3 0 rfl rfl rfl sz33 rfl rfl ?_
      intro w h
      dsimp only [setH, setVs, setV] at h
      refine ⟨_, cellL h 3 0 rfl rfl rfl, _, cellL h 3 1 rfl rfl rfl, ?_⟩
      replace h := h.sel [1, 1] 2
      dsimp only [pickL, pickR, nthH, delH, dropH, List.cons_append, List.nil_append] at h
      exact hR 0 0 0 13 list_2 now_3 p_4 list_2.length c_4 _ rfl h hp
    obtain ⟨Q_1, hq, hp⟩ := hp
    refine ⟨fun s0_1 now1_1 from2_1 cost4_1 t10_1 a13 t52 w => (some (Addr.mk b_1 0 none)) = s0_1 ∧ now_1 = now1_1 ∧ from_ = from2_1 ∧ cost = cost4_1 ∧ (Addr.mk b_2 0 none) = t10_1 ∧ (Addr.mk b_3 0 none) = a13 ∧ Q_1 t52 ∧ Mem (cel b_3 33 [(Value.int .u32 r), (Value.int .i64 r_1)] :: cel b_1 43 [(Value.slice p_4 list_2.length c_4), (Value.int .i64 now_3)] :: row enc49 49 2 p_4 c_4 list_2 :: cel b_2 33 [(Value.int .u32 0), (Value.int .i64 0)] :: FL) w, ?_, ?_⟩
    · rintro s0_1 now1_1 from2_1 cost4_1 t10_1 a13 t52 w ⟨rfl, rfl, rfl, rfl, rfl, rfl, hp, h⟩
      replace hp := hq t52 hp
      unfold dialer_Server_Ask_j2
      refine cond_both hp (fun hp => ?_) (fun hp => ?_)
      · refine storeL (ys := [(Value.int .u32 0), (Value.int .i64 0)]) h 3 0 rfl rfl rfl sz33 rfl rfl ?_
        intro w h
        dsimp only [setH, setVs, setV] at h
        refine ⟨_, cellL h 3 0 rfl rfl rfl, _, cellL h 3 1 rfl rfl rfl, ?_⟩
        replace h := h.sel [1, 1] 2
        dsimp only [pickL, pickR, nthH, delH, dropH, List.cons_append, List.nil_append] at h
        exact hR 0 0 0 7 list_2 now_3 p_4 list_2.length c_4 _ rfl h hp
      refine ⟨_, rfl, ?_⟩
      refine ⟨_, _, _, cellL h 1 0 rfl rfl rfl, ?_⟩
      refine newL (o := [(Value.int .u32 from_), (Value.int .i64 now_1)]) h ?_
      intro b_4 w h
      have sr := (celRd h 0 encL49 rfl [(from_, now_1)] rfl)
      obtain ⟨hb, hp⟩ := hp
      refine appendL slt41 und41 encL49 encO49 h 3 rfl rfl sr rfl hb ?_
      intro p_5 c_5 w h
      dsimp only [setH, setVs, setV] at h
      have cpp_5 := rowCap h 3 rfl
      refine ⟨_, _, _, rfl, ?_⟩
      refine ⟨_, rfl, ?_⟩
      refine storeL (ys := [(Value.slice p_5 (list_2 ++ [(from_, now_1)]).length c_5)]) h 2 0 rfl rfl rfl sz41 rfl rfl ?_
      intro w h
      dsimp only [setH, setVs, setV] at h
      refine ⟨_, cellL h 1 0 rfl rfl rfl, _, cellL h 1 1 rfl rfl rfl, ?_⟩
      refine storeL (ys := [(Value.int .u32 r), (Value.int .i64 r_1)]) h 4 0 rfl rfl rfl sz33 rfl rfl ?_
      intro w h
      dsimp only [setH, setVs, setV] at h
      refine ⟨_, cellL h 4 0 rfl rfl rfl, _, cellL h 4 1 rfl rfl rfl, ?_⟩
      replace h := h.sel [2, 2] 3
      dsimp only [pickL, pickR, nthH, delH, dropH, List.cons_append, List.nil_append] at h
      exact hR r r_1 (if (1200 : Int) < cost then 1200 else cost) 0 (list_2 ++ [(from_, now_1)]) now_3 p_5 ((list_2 ++ [(from_, now_1)]).length) c_5 _ rfl h hp
    clear hq
    replace h := h.pick [1, 1]
    dsimp only [pickL, pickR, nthH, delH, dropH, List.cons_append, List.nil_append] at h
    refine dialer_Server_count_ok h hp ?_
    intro r_3 w h hp
    have cpp_4 := rowCap h 1 rfl
    refine ⟨_, rfl, ?_⟩
    refine cond_both hp (fun hp => ?_) (fun hp => ?_)
    · replace h := h.sel [2, 0, 0, 0] 0
      dsimp only [pickL, pickR, nthH, delH, dropH, List.cons_append, List.nil_append] at h
      exact ⟨rfl, rfl, rfl, rfl, rfl, rfl, hp, h⟩
    refine dialer_Server_count_ok h hp ?_
    intro r_4 w h hp
    have cpp_4 := rowCap h 1 rfl
    refine ⟨_, rfl, ?_⟩
    replace h := h.sel [2, 0, 0, 0] 0
    dsimp only [pickL, pickR, nthH, delH, dropH, List.cons_append, List.nil_append] at h
    exact ⟨rfl, rfl, rfl, rfl, rfl, rfl, hp, h⟩
  clear hq
  refine cond_both hp (fun hp => ?_) (fun hp => ?_)
  · exact ⟨rfl, rfl, rfl, rfl, rfl, rfl, rfl, rfl, hp, h⟩
  refine ⟨_, rfl, ?_⟩
  refine ⟨_, cellL h 1 1 rfl rfl rfl, ?_⟩
  refine cond_both hp (fun hp => ?_) (fun hp => ?_)
  · exact ⟨rfl, rfl, rfl, rfl, rfl, rfl, rfl, rfl, hp, h⟩
  refine cond_both hp (fun hp => ?_) (fun hp => ?_)
  · exact ⟨rfl, rfl, rfl, rfl, rfl, rfl, rfl, rfl, hp, h⟩
  refine cond_both hp (fun hp => ?_) (fun hp => ?_)
  · exact ⟨rfl, rfl, rfl, rfl, rfl, rfl, rfl, rfl, hp, h⟩
  exact ⟨rfl, rfl, rfl, rfl, rfl, rfl, rfl, rfl, hp, h⟩

/-! (*embrasure/dialer.Server).Count (9) -/
def dialer_Server_Count_wp (list : List (Int × Int)) (now : Int) (now_1 : Int) (host : Int) (K : Int → List (Int × Int) → Int → Prop) : Prop :=
  dialer_Server_on_wp list now now_1 (fun (list_2 : List (Int × Int)) (now_3 : Int) => dialer_Server_count_wp list_2 now_3 host (fun (r : Int) => K r list_2 now_3))
theorem dialer_Server_Count_ok {b_1 : Nat} {p_1 : Option Addr} {c_1 : Nat} {list : List (Int × Int)} {now : Int} {now_1 : Int} {host : Int} {FL : List HP} {w : World} {K : Int → List (Int × Int) → Int → Prop} {R : Value → World → Prop}
  (h : Mem (cel b_1 43 [(Value.slice p_1 list.length c_1), (Value.int .i64 now)] :: row enc49 49 2 p_1 c_1 list :: FL) w) (hp : dialer_Server_Count_wp list now now_1 host K)
  (hR : ∀ (r : Int) (list_1 : List (Int × Int)) (now_2 : Int) (p_2 : Option Addr) (n_1 : Nat) (c_2 : Nat) (w : World), n_1 = list_1.length → Mem (cel b_1 43 [(Value.slice p_2 n_1 c_2), (Value.int .i64 now_2)] :: row enc49 49 2 p_2 c_2 list_1 :: FL) w → K r list_1 now_2 → R (Value.int .i64 r) w) :
  CallV Try.prog 9 #[(Value.pointer (some (Addr.mk b_1 0 none))), (Value.int .i64 now_1), (Value.int .u32 host)] w R := by
  refine dialer_Server_Count_call ?_
  unfold dialer_Server_Count
  unfold dialer_Server_Count_wp at hp
  have cpp_1 := rowCap h 1 rfl
  refine dialer_Server_on_ok h hp ?_
  rintro list_2 now_3 p_3 n_2 c_3 w rfl h hp
  have cpp_3 := rowCap h 1 rfl
  refine ⟨rfl, ?_⟩
  refine dialer_Server_count_ok h hp ?_
  intro r w h hp
  have cpp_3 := rowCap h 1 rfl
  refine ⟨_, rfl, ?_⟩
  exact hR r list_2 now_3 p_3 list_2.length c_3 _ rfl h hp

/-! embrasure/embrasurelaw20.awake (6) -/
def embrasurelaw20_awake_wp  (K : Bool → Prop) : Prop :=
  dialer_New_wp (fun (list : List (Int × Int)) (now : Int) => cond (false) (K false) (dialer_Server_Ask_wp list now 1 9 [(8, 1), (9, 5)] 50 (fun (r : Int) (r_1 : Int) (r_2 : Int) (r_3 : Int) (list_1 : List (Int × Int)) (now_1 : Int) => dialer_Server_Ask_wp list_1 now_1 1 9 [(8, 1)] 50 (fun (r_4 : Int) (r_5 : Int) (r_6 : Int) (r_7 : Int) (list_2 : List (Int × Int)) (now_2 : Int) => cond ((r_3 : Int) == 0) (cond (((r : Int) == 9) && (((r_1 : Int) == 5) && true)) (cond ((r_2 : Int) == 50) (cond ((r_7 : Int) == 13) (dialer_Server_Count_wp list_2 now_2 60 9 (fun (r_8 : Int) (list_3 : List (Int × Int)) (now_3 : Int) => cond ((r_8 : Int) == 1) (dialer_Server_Count_wp list_3 now_3 61 9 (fun (r_9 : Int) (list_4 : List (Int × Int)) (now_4 : Int) => K ((r_9 : Int) == 0))) (K false))) (K false)) (K false)) (K false)) (K false)))))
theorem embrasurelaw20_awake_ok  {FL : List HP} {w : World} {K : Bool → Prop} {R : Value → World → Prop}
  (h : Mem (FL) w) (hp : embrasurelaw20_awake_wp  K)
  (hR : ∀ (r : Bool) (w : World), Mem (FL) w → K r → R (Value.bool r) w) :
  CallV Try.prog 6 #[] w R := by
  refine embrasurelaw20_awake_call ?_
  unfold embrasurelaw20_awake
  unfold embrasurelaw20_awake_wp at hp
  refine dialer_New_ok h hp ?_
  rintro list now b_1 p_1 n_1 c_1 w rfl h hp
  have cpp_1 := rowCap h 1 rfl
  refine ⟨_, rfl, ?_⟩
  refine eqlPtrNil undP24 ?_
  refine ⟨_, rfl, ?_⟩
  refine cond_both hp (fun hp => ?_) (fun hp => ?_)
  · replace h := h.sel [] 2
    dsimp only [pickL, pickR, nthH, delH, dropH, List.cons_append, List.nil_append] at h
    exact hR false _ h hp
  refine newL (o := [(Value.int .u32 8), (Value.int .i64 1), (Value.int .u32 9), (Value.int .i64 5)]) h ?_
  intro b_2 w h
  replace h := h.pick [1, 1]
  dsimp only [pickL, pickR, nthH, delH, dropH, List.cons_append, List.nil_append] at h
  refine dialer_Server_Ask_ok (FL := cel b_2 33 [(Value.int .u32 8), (Value.int .i64 1), (Value.int .u32 9), (Value.int .i64 5)] :: FL) (fun w h => (celRd h 0 encL33 rfl [(8, 1), (9, 5)] rfl)) rfl (Nat.le_refl _) h hp ?_
  rintro r r_1 r_2 r_3 list_1 now_1 p_2 n_2 c_2 w rfl h hp
  have cpp_2 := rowCap h 1 rfl
  refine ⟨_, _, _, _, rfl, ?_⟩
  refine newL (o := [(Value.int .u32 0), (Value.int .i64 0)]) h ?_
  intro b_3 w h
  refine storeL (ys := [(Value.int .u32 r), (Value.int .i64 r_1)]) h 0 0 rfl rfl rfl sz33 rfl rfl ?_
  intro w h
  dsimp only [setH, setVs, setV] at h
  refine newL (o := [(Value.int .u32 8), (Value.int .i64 1)]) h ?_
  intro b_4 w h
  replace h := h.pick [2, 2]
  dsimp only [pickL, pickR, nthH, delH, dropH, List.cons_append, List.nil_append] at h
  refine dialer_Server_Ask_ok (FL := cel b_4 33 [(Value.int .u32 8), (Value.int .i64 1)] :: cel b_3 33 [(Value.int .u32 r), (Value.int .i64 r_1)] :: cel b_2 33 [(Value.int .u32 8), (Value.int .i64 1), (Value.int .u32 9), (Value.int .i64 5)] :: FL) (fun w h => (celRd h 0 encL33 rfl [(8, 1)] rfl)) rfl (Nat.le_refl _) h hp ?_
  rintro r_4 r_5 r_6 r_7 list_2 now_2 p_3 n_3 c_3 w rfl h hp
  have cpp_3 := rowCap h 1 rfl
  refine ⟨_, _, _, _, rfl, ?_⟩
  refine newL (o := [(Value.int .u32 0), (Value.int .i64 0)]) h ?_
  intro b_5 w h
  refine storeL (ys := [(Value.int .u32 r_4), (Value.int .i64 r_5)]) h 0 0 rfl rfl rfl sz33 rfl rfl ?_
  intro w h
  dsimp only [setH, setVs, setV] at h
  refine cond_both' hp (fun hp => ?_) (fun hp => ?_)
  · replace h := h.sel [] 6
    dsimp only [pickL, pickR, nthH, delH, dropH, List.cons_append, List.nil_append] at h
    exact hR false _ h hp
  refine ⟨_, cellL h 4 0 rfl rfl rfl, _, cellL h 4 1 rfl rfl rfl, ?_⟩
  refine eqlAgg (xs := [(Value.int .u32 r), (Value.int .i64 r_1)]) (ys := [(Value.int .u32 9), (Value.int .i64 5)]) eqG33 eqA33 (eqT33 r r_1 9 5) ?_
  refine ⟨_, rfl, ?_⟩
  refine cond_both' hp (fun hp => ?_) (fun hp => ?_)
  · replace h := h.sel [] 6
    dsimp only [pickL, pickR, nthH, delH, dropH, List.cons_append, List.nil_append] at h
    exact hR false _ h hp
  refine cond_both' hp (fun hp => ?_) (fun hp => ?_)
  · replace h := h.sel [] 6
    dsimp only [pickL, pickR, nthH, delH, dropH, List.cons_append, List.nil_append] at h
    exact hR false _ h hp
  refine cond_both' hp (fun hp => ?_) (fun hp => ?_)
  · replace h := h.sel [] 6
    dsimp only [pickL, pickR, nthH, delH, dropH, List.cons_append, List.nil_append] at h
    exact hR false _ h hp
  replace h := h.pick [1, 1]
  dsimp only [pickL, pickR, nthH, delH, dropH, List.cons_append, List.nil_append] at h
  refine dialer_Server_Count_ok h hp ?_
  rintro r_8 list_3 now_3 p_4 n_4 c_4 w rfl h hp
  have cpp_4 := rowCap h 1 rfl
  refine ⟨_, rfl, ?_⟩
  refine cond_both' hp (fun hp => ?_) (fun hp => ?_)
  · replace h := h.sel [] 6
    dsimp only [pickL, pickR, nthH, delH, dropH, List.cons_append, List.nil_append] at h
    exact hR false _ h hp
  refine dialer_Server_Count_ok h hp ?_
  rintro r_9 list_4 now_4 p_5 n_5 c_5 w rfl h hp
  have cpp_5 := rowCap h 1 rfl
  refine ⟨_, rfl, ?_⟩
  replace h := h.sel [] 6
  dsimp only [pickL, pickR, nthH, delH, dropH, List.cons_append, List.nil_append] at h
  exact hR ((r_9 : Int) == 0) _ h hp

/-! embrasure/embrasurelaw20.DialerGuards (3) -/
def embrasurelaw20_DialerGuards_wp (script : List (Int × Int × (List (Int × Int)) × Int)) (K : Bool → Prop) : Prop :=
  embrasurelaw20_awake_wp (fun (r : Bool) => cond (!r) (K false) (dialer_New_wp (fun (list : List (Int × Int)) (now : Int) => ∃ (I : Nat → List (Int × Int) → Int → Int → List (Int) → List (Int) → Int → Prop), (∃ (n_13 : Nat), I n_13 list now 0 ([] : List (Int)) ([] : List (Int)) 0) ∧ ∀ (n_4 : Nat) (list_1 : List (Int × Int)) (now_1 : Int) (now4 : Int) (at_ : List (Int)) (to : List (Int)) (i7 : Int), I n_4 list_1 now_1 now4 at_ to i7 → (joinP1 (fun (t25 : Bool) => cond t25 (0 ≤ (i7 : Int) ∧ (i7 : Int) < ((script.length : Nat) : Int) ∧ (∀ (x_1 : Int × Int × (List (Int × Int)) × Int), script[Int.toNat i7]? = some x_1 → (cond (decide ((((x_1.2.2.1.length : Nat) : Int) : Int) > 40)) (K true) (joinP1 (fun (now4_2 : Int) => dialer_Server_Ask_wp list_1 now_1 now4_2 x_1.2.1 x_1.2.2.1 x_1.2.2.2 (fun (r_1 : Int) (r_2 : Int) (r_3 : Int) (r_4 : Int) (list_2 : List (Int × Int)) (now_2 : Int) => cond ((r_4 : Int) != 0) (∃ (n_6 : Nat), n_6 < n_4 ∧ I n_6 list_2 now_2 now4_2 at_ to (IntKind.wrap .i64 (i7 + 1))) (joinP1 (fun (t81 : Bool) => cond t81 (K false) ((at_.length + [now4_2].length) * 8 ≤ 140737488355328 ∧ ((to.length + [r_1].length) * 4 ≤ 140737488355328 ∧ (joinP2 (fun (mine12 : Int) (all13 : Int) => joinP1 (fun (t120 : Bool) => cond t120 (K false) (∃ (n_7 : Nat), n_7 < n_4 ∧ I n_7 list_2 now_2 now4_2 (at_ ++ [now4_2]) (to ++ [r_1]) (IntKind.wrap .i64 (i7 + 1)))) (fun (Q_4 : Bool → Prop) => cond (decide ((mine12 : Int) > 3)) (Q_4 true) (Q_4 (decide ((all13 : Int) > 30))))) (fun (Q_3 : Int → Int → Prop) => ∃ (I_1 : Nat → Int → Int → Int → Prop), (∃ (n_12 : Nat), I_1 n_12 0 0 0) ∧ ∀ (n_8 : Nat) (mine12_1 : Int) (all13_1 : Int) (k14 : Int), I_1 n_8 mine12_1 all13_1 k14 → (cond (decide ((k14 : Int) < (((at_ ++ [now4_2]).length : Nat) : Int))) (0 ≤ (k14 : Int) ∧ (k14 : Int) < (((at_ ++ [now4_2]).length : Nat) : Int) ∧ (∀ (x_2 : Int), (at_ ++ [now4_2])[Int.toNat k14]? = some x_2 → (cond (decide (((IntKind.wrap .i64 (x_2 + 60)) : Int) > now4_2)) (0 ≤ (k14 : Int) ∧ (k14 : Int) < (((to ++ [r_1]).length : Nat) : Int) ∧ (∀ (x_3 : Int), (to ++ [r_1])[Int.toNat k14]? = some x_3 → (cond ((x_3 : Int) == r_1) (∃ (n_9 : Nat), n_9 < n_8 ∧ I_1 n_9 (IntKind.wrap .i64 (mine12_1 + 1)) (IntKind.wrap .i64 (all13_1 + 1)) (IntKind.wrap .i64 (k14 + 1))) (∃ (n_10 : Nat), n_10 < n_8 ∧ I_1 n_10 mine12_1 (IntKind.wrap .i64 (all13_1 + 1)) (IntKind.wrap .i64 (k14 + 1)))))) (∃ (n_11 : Nat), n_11 < n_8 ∧ I_1 n_11 mine12_1 all13_1 (IntKind.wrap .i64 (k14 + 1)))))) (Q_3 mine12_1 all13_1))))))) (fun (Q_2 : Bool → Prop) => cond ((r_1 : Int) != x_1.2.1) (Q_2 true) (cond (decide ((r_3 : Int) > x_1.2.2.2)) (Q_2 true) (cond (decide ((r_3 : Int) > 1200)) (Q_2 true) (Q_2 (decide ((r_3 : Int) < 0))))))))) (fun (Q_1 : Int → Prop) => joinP1 (fun (t43 : Bool) => cond t43 (Q_1 (IntKind.wrap .i64 (now4 + x_1.1))) (Q_1 now4)) (fun (Q_5 : Bool → Prop) => cond (decide ((x_1.1 : Int) > 0)) (Q_5 (decide ((x_1.1 : Int) < 1000))) (Q_5 false))))))) (K true)) (fun (Q : Bool → Prop) => cond (decide ((i7 : Int) < ((script.length : Nat) : Int))) (Q (decide ((i7 : Int) < 150))) (Q false))))))
theorem embrasurelaw20_DialerGuards_ok {p_1 : Option Addr} {n_1 : Nat} {c_1 : Nat} {script : List (Int × Int × (List (Int × Int)) × Int)} {FL : List HP} {w : World} {K : Bool → Prop} {R : Value → World → Prop}
  (hF_script : ∀ w, Mem FL w → RdD w 4 p_1 (encR31 FL) script) (hl_script : n_1 = script.length) (hc_script : n_1 ≤ c_1)
  (h : Mem (FL) w) (hp : embrasurelaw20_DialerGuards_wp script K)
  (hR : ∀ (r : Bool) (w : World), Mem (FL) w → K r → R (Value.bool r) w) :
  CallV Try.prog 3 #[(Value.slice p_1 n_1 c_1)] w R := by
  refine embrasurelaw20_DialerGuards_call ?_
  unfold embrasurelaw20_DialerGuards
  unfold embrasurelaw20_DialerGuards_wp at hp
  subst hl_script
  refine embrasurelaw20_awake_ok h hp ?_
  intro r w h hp
  refine ⟨_, rfl, ?_⟩
  refine cond_both hp (fun hp => ?_) (fun hp => ?_)
  · exact hR false _ h hp
  refine dialer_New_ok h hp ?_
  rintro list now b_1 p_2 n_2 c_2 w rfl h hp
  have cpp_2 := rowCap h 1 rfl
  refine ⟨_, rfl, ?_⟩
  obtain ⟨I, ⟨n_13, h0⟩, hq⟩ := hp
  replace h := rowNil enc3 3 1 h
  replace h := rowNil enc28 28 1 h
  replace h := h.sel [2, 2, 1, 0] 0
  dsimp only [pickL, pickR, nthH, delH, dropH, List.cons_append, List.nil_append] at h
  refine ⟨fun n_4 script0p script0l script0c s3 now4 at5p at5l at5c to6p to6l to6c i7 w => ∃ (list_1 : List (Int × Int)), ∃ (p_3 : Option Addr), ∃ (n_3 : Nat), ∃ (c_3 : Nat), ∃ (now_1 : Int), ∃ (at_ : List (Int)), ∃ (to : List (Int)), p_1 = script0p ∧ script.length = script0l ∧ c_1 = script0c ∧ (some (Addr.mk b_1 0 none)) = s3 ∧ n_3 = list_1.length ∧ at5l = at_.length ∧ to6l = to.length ∧ I n_4 list_1 now_1 now4 at_ to i7 ∧ Mem (cel b_1 43 [(Value.slice p_3 n_3 c_3), (Value.int .i64 now_1)] :: row enc49 49 2 p_3 c_3 list_1 :: row enc3 3 1 at5p at5c at_ :: row enc28 28 1 to6p to6c to :: FL) w, ⟨n_13, list, p_2, list.length, c_2, now, ([] : List (Int)), ([] : List (Int)), rfl, rfl, rfl, rfl, rfl, rfl, rfl, h0, h⟩, ?_⟩
  clear h0 h
  rintro n_4 script0p script0l script0c s3 now4 at5p at5l at5c to6p to6l to6c i7 w ⟨list_1, p_3, n_3, c_3, now_1, at_, to, rfl, rfl, rfl, rfl, rfl, rfl, rfl, hp, h⟩
  replace hp := hq n_4 list_1 now_1 now4 at_ to i7 hp
  clear hq
  unfold embrasurelaw20_DialerGuards_l1
  have cpp_3 := rowCap h 1 rfl
  have cpat5p := rowCap h 2 rfl
  have cpto6p := rowCap h 3 rfl
  obtain ⟨Q, hq, hp⟩ := hp
  refine ⟨fun script0_1p script0_1l script0_1c s3_1 now4_1 at5_1p at5_1l at5_1c to6_1p to6_1l to6_1c i7_1 t25 w => p_1 = script0_1p ∧ script.length = script0_1l ∧ c_1 = script0_1c ∧ (some (Addr.mk b_1 0 none)) = s3_1 ∧ now4 = now4_1 ∧ at5p = at5_1p ∧ at_.length = at5_1l ∧ at5c = at5_1c ∧ to6p = to6_1p ∧ to.length = to6_1l ∧ to6c = to6_1c ∧ i7 = i7_1 ∧ Q t25 ∧ Mem (cel b_1 43 [(Value.slice p_3 list_1.length c_3), (Value.int .i64 now_1)] :: row enc49 49 2 p_3 c_3 list_1 :: row enc3 3 1 at5p at5c at_ :: row enc28 28 1 to6p to6c to :: FL) w, ?_, ?_⟩
  · rintro script0_1p script0_1l script0_1c s3_1 now4_1 at5_1p at5_1l at5_1c to6_1p to6_1l to6_1c i7_1 t25 w ⟨rfl, rfl, rfl, rfl, rfl, rfl, rfl, rfl, rfl, rfl, rfl, rfl, hp, h⟩
    replace hp := hq t25 hp
    unfold embrasurelaw20_DialerGuards_j2
    refine cond_both' hp (fun hp => ?_) (fun hp => ?_)
    · replace h := h.sel [] 4
      dsimp only [pickL, pickR, nthH, delH, dropH, List.cons_append, List.nil_append] at h
      exact hR true _ h hp
    obtain ⟨ia_1, ja_1, hp⟩ := hp
    obtain ⟨a_1, ha_1⟩ := rdAddrD (hF_script _ (h.drop 4)) rfl ia_1 ja_1
    refine ⟨a_1, ha_1, ia_1, ja_1, ?_⟩
    obtain ⟨x_1, hx_1, cs, hR, hc0, hc1, hc2⟩ := rdCellD (hF_script _ (h.drop 4)) ha_1 rfl ia_1 ja_1
    replace hp := hp x_1 hx_1
    obtain ⟨qp2, qn2, qc2, rfl, rfl, hc_qp2, hF_qp2⟩ := hR
    refine ⟨_, hc1 0 _ rfl, _, hc1 1 _ rfl, _, _, _, hc1 2 _ rfl, _, hc1 3 _ rfl, ?_⟩
    refine newL (o := [(Value.int .i64 0), (Value.int .u32 0), (Value.slice none 0 0), (Value.int .i64 0)]) h ?_
    intro b_2 w h
    refine storeL (ys := [(Value.int .i64 x_1.1), (Value.int .u32 x_1.2.1), (Value.slice qp2 x_1.2.2.1.length qc2), (Value.int .i64 x_1.2.2.2)]) h 0 0 rfl rfl rfl sz31 rfl rfl ?_
    intro w h
    dsimp only [setH, setVs, setV] at h
    refine ⟨_, _, _, cellL h 0 2 rfl rfl rfl, ?_⟩
    refine cond_both hp (fun hp => ?_) (fun hp => ?_)
    · replace h := h.sel [] 5
      dsimp only [pickL, pickR, nthH, delH, dropH, List.cons_append, List.nil_append] at h
      exact hR true _ h hp
    obtain ⟨Q_1, hq, hp⟩ := hp
    refine ⟨fun script0_2p script0_2l script0_2c s3_2 now4_2 at5_2p at5_2l at5_2c to6_2p to6_2l to6_2c i7_2 d8 w => p_1 = script0_2p ∧ script.length = script0_2l ∧ c_1 = script0_2c ∧ (some (Addr.mk b_1 0 none)) = s3_2 ∧ at5p = at5_2p ∧ at_.length = at5_2l ∧ at5c = at5_2c ∧ to6p = to6_2p ∧ to.length = to6_2l ∧ to6c = to6_2c ∧ i7 = i7_2 ∧ (Addr.mk b_2 0 none) = d8 ∧ Q_1 now4_2 ∧ Mem (cel b_2 31 [(Value.int .i64 x_1.1), (Value.int .u32 x_1.2.1), (Value.slice qp2 x_1.2.2.1.length qc2), (Value.int .i64 x_1.2.2.2)] :: cel b_1 43 [(Value.slice p_3 list_1.length c_3), (Value.int .i64 now_1)] :: row enc49 49 2 p_3 c_3 list_1 :: row enc3 3 1 at5p at5c at_ :: row enc28 28 1 to6p to6c to :: FL) w, ?_, ?_⟩
    · rintro script0_2p script0_2l script0_2c s3_2 now4_2 at5_2p at5_2l at5_2c to6_2p to6_2l to6_2c i7_2 d8 w ⟨rfl, rfl, rfl, rfl, rfl, rfl, rfl, rfl, rfl, rfl, rfl, rfl, hp, h⟩
      replace hp := hq now4_2 hp
      unfold embrasurelaw20_DialerGuards_j3
      refine ⟨_, cellL h 0 1 rfl rfl rfl, ?_⟩
      refine ⟨_, _, _, cellL h 0 2 rfl rfl rfl, ?_⟩
      refine ⟨_, cellL h 0 3 rfl rfl rfl, ?_⟩
      replace h := h.pick [1, 1]
      dsimp only [pickL, pickR, nthH, delH, dropH, List.cons_append, List.nil_append] at h
      refine dialer_Server_Ask_ok (FL := cel b_2 31 [(Value.int .i64 x_1.1), (Value.int .u32 x_1.2.1), (Value.slice qp2 x_1.2.2.1.length qc2), (Value.int .i64 x_1.2.2.2)] :: row enc3 3 1 at5p at5c at_ :: row enc28 28 1 to6p to6c to :: FL) (fun w h => (hF_qp2 _ (h.drop 3))) rfl hc_qp2 h hp ?_
      rintro r_1 r_2 r_3 r_4 list_2 now_2 p_4 n_5 c_4 w rfl h hp
      have cpp_4 := rowCap h 1 rfl
      refine ⟨_, _, _, _, rfl, ?_⟩
      refine newL (o := [(Value.int .u32 0), (Value.int .i64 0)]) h ?_
      intro b_3 w h
      refine storeL (ys := [(Value.int .u32 r_1), (Value.int .i64 r_2)]) h 0 0 rfl rfl rfl sz33 rfl rfl ?_
      intro w h
      dsimp only [setH, setVs, setV] at h
      refine cond_both hp (fun hp => ?_) (fun hp => ?_)
      · replace h := h.sel [1, 1, 2, 2] 2
        dsimp only [pickL, pickR, nthH, delH, dropH, List.cons_append, List.nil_append] at h
        obtain ⟨n_6, hn, hp⟩ := hp
        exact ⟨n_6, hn, list_2, p_4, list_2.length, c_4, now_2, at_, to, rfl, rfl, rfl, rfl, rfl, rfl, rfl, hp, h⟩
      obtain ⟨Q_2, hq, hp⟩ := hp
      refine ⟨fun script0_3p script0_3l script0_3c s3_3 now4_3 at5_3p at5_3l at5_3c to6_3p to6_3l to6_3c i7_3 a9 t81 w => p_1 = script0_3p ∧ script.length = script0_3l ∧ c_1 = script0_3c ∧ (some (Addr.mk b_1 0 none)) = s3_3 ∧ now4_2 = now4_3 ∧ at5p = at5_3p ∧ at_.length = at5_3l ∧ at5c = at5_3c ∧ to6p = to6_3p ∧ to.length = to6_3l ∧ to6c = to6_3c ∧ i7 = i7_3 ∧ (Addr.mk b_3 0 none) = a9 ∧ Q_2 t81 ∧ Mem (cel b_3 33 [(Value.int .u32 r_1), (Value.int .i64 r_2)] :: cel b_1 43 [(Value.slice p_4 list_2.length c_4), (Value.int .i64 now_2)] :: row enc49 49 2 p_4 c_4 list_2 :: cel b_2 31 [(Value.int .i64 x_1.1), (Value.int .u32 x_1.2.1), (Value.slice qp2 x_1.2.2.1.length qc2), (Value.int .i64 x_1.2.2.2)] :: row enc3 3 1 at5p at5c at_ :: row enc28 28 1 to6p to6c to :: FL) w, ?_, ?_⟩
      · rintro script0_3p script0_3l script0_3c s3_3 now4_3 at5_3p at5_3l at5_3c to6_3p to6_3l to6_3c i7_3 a9 t81 w ⟨rfl, rfl, rfl, rfl, rfl, rfl, rfl, rfl, rfl, rfl, rfl, rfl, rfl, hp, h⟩
        replace hp := hq t81 hp
        unfold embrasurelaw20_DialerGuards_j4
        refine cond_both hp (fun hp => ?_) (fun hp => ?_)
        · replace h := h.sel [] 6
          dsimp only [pickL, pickR, nthH, delH, dropH, List.cons_append, List.nil_append] at h
          exact hR false _ h hp
        refine newL (o := [(Value.int .i64 now4_2)]) h ?_
        intro b_4 w h
        have sr := (celRd h 0 encL3 rfl [now4_2] rfl)
        obtain ⟨hb, hp⟩ := hp
        refine appendL slt26 und26 encL3 encO3 h 5 rfl rfl sr rfl hb ?_
        intro p_5 c_5 w h
        dsimp only [setH, setVs, setV] at h
        have cpp_5 := rowCap h 5 rfl
        refine ⟨_, _, _, rfl, ?_⟩
        refine ⟨_, cellL h 1 0 rfl rfl rfl, ?_⟩
        refine newL (o := [(Value.int .u32 r_1)]) h ?_
        intro b_5 w h
        have sr_1 := (celRd h 0 encL28 rfl [r_1] rfl)
        obtain ⟨hb, hp⟩ := hp
        refine appendL slt27 und27 encL28 encO28 h 7 rfl rfl sr_1 rfl hb ?_
        intro p_6 c_6 w h
        dsimp only [setH, setVs, setV] at h
        have cpp_6 := rowCap h 7 rfl
        refine ⟨_, _, _, rfl, ?_⟩
        obtain ⟨Q_3, hq, hp⟩ := hp
        refine ⟨fun script0_4p script0_4l script0_4c s3_4 now4_4 at5_4p at5_4l at5_4c to6_4p to6_4l to6_4c i7_4 mine12 all13 w => p_1 = script0_4p ∧ script.length = script0_4l ∧ c_1 = script0_4c ∧ (some (Addr.mk b_1 0 none)) = s3_4 ∧ now4_2 = now4_4 ∧ p_5 = at5_4p ∧ (at_ ++ [now4_2]).length = at5_4l ∧ c_5 = at5_4c ∧ p_6 = to6_4p ∧ (to ++ [r_1]).length = to6_4l ∧ c_6 = to6_4c ∧ i7 = i7_4 ∧ Q_3 mine12 all13 ∧ Mem (cel b_5 28 [(Value.int .u32 r_1)] :: cel b_4 3 [(Value.int .i64 now4_2)] :: cel b_3 33 [(Value.int .u32 r_1), (Value.int .i64 r_2)] :: cel b_1 43 [(Value.slice p_4 list_2.length c_4), (Value.int .i64 now_2)] :: row enc49 49 2 p_4 c_4 list_2 :: cel b_2 31 [(Value.int .i64 x_1.1), (Value.int .u32 x_1.2.1), (Value.slice qp2 x_1.2.2.1.length qc2), (Value.int .i64 x_1.2.2.2)] :: row enc3 3 1 p_5 c_5 (at_ ++ [now4_2]) :: row enc28 28 1 p_6 c_6 (to ++ [r_1]) :: FL) w, ?_, ?_⟩
        · rintro script0_4p script0_4l script0_4c s3_4 now4_4 at5_4p at5_4l at5_4c to6_4p to6_4l to6_4c i7_4 mine12 all13 w ⟨rfl, rfl, rfl, rfl, rfl, rfl, rfl, rfl, rfl, rfl, rfl, rfl, hp, h⟩
          replace hp := hq mine12 all13 hp
          unfold embrasurelaw20_DialerGuards_j5
          obtain ⟨Q_4, hq, hp⟩ := hp
          refine ⟨fun script0_5p script0_5l script0_5c s3_5 now4_5 at5_5p at5_5l at5_5c to6_5p to6_5l to6_5c i7_5 t120 w => p_1 = script0_5p ∧ script.length = script0_5l ∧ c_1 = script0_5c ∧ (some (Addr.mk b_1 0 none)) = s3_5 ∧ now4_2 = now4_5 ∧ p_5 = at5_5p ∧ (at_ ++ [now4_2]).length = at5_5l ∧ c_5 = at5_5c ∧ p_6 = to6_5p ∧ (to ++ [r_1]).length = to6_5l ∧ c_6 = to6_5c ∧ i7 = i7_5 ∧ Q_4 t120 ∧ Mem (cel b_5 28 [(Value.int .u32 r_1)] :: cel b_4 3 [(Value.int .i64 now4_2)] :: cel b_3 33 [(Value.int .u32 r_1), (Value.int .i64 r_2)] :: cel b_1 43 [(Value.slice p_4 list_2.length c_4), (Value.int .i64 now_2)] :: row enc49 49 2 p_4 c_4 list_2 :: cel b_2 31 [(Value.int .i64 x_1.1), (Value.int .u32 x_1.2.1), (Value.slice qp2 x_1.2.2.1.length qc2), (Value.int .i64 x_1.2.2.2)] :: row enc3 3 1 p_5 c_5 (at_ ++ [now4_2]) :: row enc28 28 1 p_6 c_6 (to ++ [r_1]) :: FL) w, ?_, ?_⟩
          · rintro script0_5p script0_5l script0_5c s3_5 now4_5 at5_5p at5_5l at5_5c to6_5p to6_5l to6_5c i7_5 t120 w ⟨rfl, rfl, rfl, rfl, rfl, rfl, rfl, rfl, rfl, rfl, rfl, rfl, hp, h⟩
            replace hp := hq t120 hp
            unfold embrasurelaw20_DialerGuards_j6
            refine cond_both hp (fun hp => ?_) (fun hp => ?_)
            · replace h := h.sel [] 8
              dsimp only [pickL, pickR, nthH, delH, dropH, List.cons_append, List.nil_append] at h
              exact hR false _ h hp
            replace h := h.sel [3, 3, 4, 4] 4
            dsimp only [pickL, pickR, nthH, delH, dropH, List.cons_append, List.nil_append] at h
            obtain ⟨n_7, hn, hp⟩ := hp
            exact ⟨n_7, hn, list_2, p_4, list_2.length, c_4, now_2, (at_ ++ [now4_2]), (to ++ [r_1]), rfl, rfl, rfl, rfl, rfl, rfl, rfl, hp, h⟩
          clear hq
          refine cond_both hp (fun hp => ?_) (fun hp => ?_)
          · exact ⟨rfl, rfl, rfl, rfl, rfl, rfl, rfl, rfl, rfl, rfl, rfl, rfl, hp, h⟩
          exact ⟨rfl, rfl, rfl, rfl, rfl, rfl, rfl, rfl, rfl, rfl, rfl, rfl, hp, h⟩
        clear hq
        obtain ⟨I_1, ⟨n_12, h0⟩, hq⟩ := hp
        refine ⟨fun n_8 script0_6p script0_6l script0_6c s3_6 now4_6 at5_6p at5_6l at5_6c to6_6p to6_6l to6_6c i7_6 a9_1 mine12_1 all13_1 k14 w => p_1 = script0_6p ∧ script.length = script0_6l ∧ c_1 = script0_6c ∧ (some (Addr.mk b_1 0 none)) = s3_6 ∧ now4_2 = now4_6 ∧ p_5 = at5_6p ∧ (at_ ++ [now4_2]).length = at5_6l ∧ c_5 = at5_6c ∧ p_6 = to6_6p ∧ (to ++ [r_1]).length = to6_6l ∧ c_6 = to6_6c ∧ i7 = i7_6 ∧ (Addr.mk b_3 0 none) = a9_1 ∧ I_1 n_8 mine12_1 all13_1 k14 ∧ Mem (cel b_5 28 [(Value.int .u32 r_1)] :: cel b_4 3 [(Value.int .i64 now4_2)] :: cel b_3 33 [(Value.int .u32 r_1), (Value.int .i64 r_2)] :: cel b_1 43 [(Value.slice p_4 list_2.length c_4), (Value.int .i64 now_2)] :: row enc49 49 2 p_4 c_4 list_2 :: cel b_2 31 [(Value.int .i64 x_1.1), (Value.int .u32 x_1.2.1), (Value.slice qp2 x_1.2.2.1.length qc2), (Value.int .i64 x_1.2.2.2)] :: row enc3 3 1 p_5 c_5 (at_ ++ [now4_2]) :: row enc28 28 1 p_6 c_6 (to ++ [r_1]) :: FL) w, ⟨n_12, rfl, rfl, rfl, rfl, rfl, rfl, rfl, rfl, rfl, rfl, rfl, rfl, rfl, h0, h⟩, ?_⟩
        clear h0 h
        rintro n_8 script0_6p script0_6l script0_6c s3_6 now4_6 at5_6p at5_6l at5_6c to6_6p to6_6l to6_6c i7_6 a9_1 mine12_1 all13_1 k14 w ⟨rfl, rfl, rfl, rfl, rfl, rfl, rfl, rfl, rfl, rfl, rfl, rfl, rfl, hp, h⟩
        replace hp := hq n_8 mine12_1 all13_1 k14 hp
        clear hq
        unfold embrasurelaw20_DialerGuards_l7
        refine cond_both' hp (fun hp => ?_) (fun hp => ?_)
        · exact ⟨rfl, rfl, rfl, rfl, rfl, rfl, rfl, rfl, rfl, rfl, rfl, rfl, hp, h⟩
        obtain ⟨ia_2, ja_2, hp⟩ := hp
        obtain ⟨a_2, ha_2⟩ := rdAddr (rowRd h 6 encL3 rfl) rfl ia_2 ja_2
        refine ⟨a_2, ha_2, ia_2, ja_2, ?_⟩
        obtain ⟨x_2, hx_2, hc⟩ := rdCell0 (rowRd h 6 encL3 rfl) ha_2 rfl ia_2 ja_2
        replace hp := hp x_2 hx_2
        refine ⟨_, hc _ rfl, ?_⟩
        refine cond_both' hp (fun hp => ?_) (fun hp => ?_)
        · obtain ⟨n_11, hn, hp⟩ := hp
          exact ⟨n_11, hn, rfl, rfl, rfl, rfl, rfl, rfl, rfl, rfl, rfl, rfl, rfl, rfl, rfl, hp, h⟩
        replace h := h.drew
        obtain ⟨ia_3, ja_3, hp⟩ := hp
        obtain ⟨a_3, ha_3⟩ := rdAddr (rowRd h 7 encL28 rfl) rfl ia_3 ja_3
        refine ⟨a_3, ha_3, ia_3, ja_3, ?_⟩
        obtain ⟨x_3, hx_3, hc⟩ := rdCell0 (rowRd h 7 encL28 rfl) ha_3 rfl ia_3 ja_3
        replace hp := hp x_3 hx_3
        refine ⟨_, hc _ rfl, ?_⟩
        refine ⟨_, cellL h 2 0 rfl rfl rfl, ?_⟩
        refine cond_both hp (fun hp => ?_) (fun hp => ?_)
        · obtain ⟨n_9, hn, hp⟩ := hp
          exact ⟨n_9, hn, rfl, rfl, rfl, rfl, rfl, rfl, rfl, rfl, rfl, rfl, rfl, rfl, rfl, hp, h⟩
        obtain ⟨n_10, hn, hp⟩ := hp
        exact ⟨n_10, hn, rfl, rfl, rfl, rfl, rfl, rfl, rfl, rfl, rfl, rfl, rfl, rfl, rfl, hp, h⟩
      clear hq
      refine ⟨_, cellL h 0 0 rfl rfl rfl, ?_⟩
      refine ⟨_, cellL h 3 1 rfl rfl rfl, ?_⟩
      refine cond_both hp (fun hp => ?_) (fun hp => ?_)
      · exact ⟨rfl, rfl, rfl, rfl, rfl, rfl, rfl, rfl, rfl, rfl, rfl, rfl, rfl, hp, h⟩
      refine ⟨_, cellL h 3 3 rfl rfl rfl, ?_⟩
      refine cond_both hp (fun hp => ?_) (fun hp => ?_)
      · exact ⟨rfl, rfl, rfl, rfl, rfl, rfl, rfl, rfl, rfl, rfl, rfl, rfl, rfl, hp, h⟩
      refine cond_both hp (fun hp => ?_) (fun hp => ?_)
      · exact ⟨rfl, rfl, rfl, rfl, rfl, rfl, rfl, rfl, rfl, rfl, rfl, rfl, rfl, hp, h⟩
      exact ⟨rfl, rfl, rfl, rfl, rfl, rfl, rfl, rfl, rfl, rfl, rfl, rfl, rfl, hp, h⟩
    clear hq
    obtain ⟨Q_5, hq, hp⟩ := hp
    refine ⟨fun script0_7p script0_7l script0_7c s3_7 now4_7 at5_7p at5_7l at5_7c to6_7p to6_7l to6_7c i7_7 d8_1 t43 w => p_1 = script0_7p ∧ script.length = script0_7l ∧ c_1 = script0_7c ∧ (some (Addr.mk b_1 0 none)) = s3_7 ∧ now4 = now4_7 ∧ at5p = at5_7p ∧ at_.length = at5_7l ∧ at5c = at5_7c ∧ to6p = to6_7p ∧ to.length = to6_7l ∧ to6c = to6_7c ∧ i7 = i7_7 ∧ (Addr.mk b_2 0 none) = d8_1 ∧ Q_5 t43 ∧ Mem (cel b_2 31 [(Value.int .i64 x_1.1), (Value.int .u32 x_1.2.1), (Value.slice qp2 x_1.2.2.1.length qc2), (Value.int .i64 x_1.2.2.2)] :: cel b_1 43 [(Value.slice p_3 list_1.length c_3), (Value.int .i64 now_1)] :: row enc49 49 2 p_3 c_3 list_1 :: row enc3 3 1 at5p at5c at_ :: row enc28 28 1 to6p to6c to :: FL) w, ?_, ?_⟩
    · rintro script0_7p script0_7l script0_7c s3_7 now4_7 at5_7p at5_7l at5_7c to6_7p to6_7l to6_7c i7_7 d8_1 t43 w ⟨rfl, rfl, rfl, rfl, rfl, rfl, rfl, rfl, rfl, rfl, rfl, rfl, rfl, hp, h⟩
      replace hp := hq t43 hp
      unfold embrasurelaw20_DialerGuards_j8
      refine cond_both' hp (fun hp => ?_) (fun hp => ?_)
      · exact ⟨rfl, rfl, rfl, rfl, rfl, rfl, rfl, rfl, rfl, rfl, rfl, rfl, hp, h⟩
      refine ⟨_, cellL h 0 0 rfl rfl rfl, ?_⟩
      exact ⟨rfl, rfl, rfl, rfl, rfl, rfl, rfl, rfl, rfl, rfl, rfl, rfl, hp, h⟩
    clear hq
    refine ⟨_, cellL h 0 0 rfl rfl rfl, ?_⟩
    refine cond_both' hp (fun hp => ?_) (fun hp => ?_)
    · exact ⟨rfl, rfl, rfl, rfl, rfl, rfl, rfl, rfl, rfl, rfl, rfl, rfl, rfl, hp, h⟩
    refine ⟨_, cellL h 0 0 rfl rfl rfl, ?_⟩
    exact ⟨rfl, rfl, rfl, rfl, rfl, rfl, rfl, rfl, rfl, rfl, rfl, rfl, rfl, hp, h⟩
  clear hq
  refine cond_both hp (fun hp => ?_) (fun hp => ?_)
  · exact ⟨rfl, rfl, rfl, rfl, rfl, rfl, rfl, rfl, rfl, rfl, rfl, rfl, hp, h⟩
  exact ⟨rfl, rfl, rfl, rfl, rfl, rfl, rfl, rfl, rfl, rfl, rfl, rfl, hp, h⟩

/-! embrasure/embrasurelaw20.DialerAgain (4) -/
def embrasurelaw20_DialerAgain_wp (from_ : Int) (gap : Int) (n_1 : Int) (K : Bool → Prop) : Prop :=
  embrasurelaw20_awake_wp (fun (r : Bool) => cond (!r) (K false) (dialer_New_wp (fun (list : List (Int × Int)) (now : Int) => joinP1 (fun (t31 : Bool) => cond t31 (K (true)) (joinP3 (fun (list_1 : List (Int × Int)) (now_1 : Int) (now8 : Int) => dialer_Server_Ask_wp list_1 now_1 now8 99 [(99, 1)] 9 (fun (r_1 : Int) (r_2 : Int) (r_3 : Int) (r_4 : Int) (list_2 : List (Int × Int)) (now_2 : Int) => cond ((r_4 : Int) == 0) (dialer_Server_Count_wp list_2 now_2 now8 99 (fun (r_5 : Int) (list_3 : List (Int × Int)) (now_3 : Int) => K ((r_5 : Int) == 1))) (K false))) (fun (Q_1 : List (Int × Int) → Int → Int → Prop) => ∃ (I : Nat → List (Int × Int) → Int → Int → List (Int) → Int → Prop), (∃ (n_14 : Nat), I n_14 list now 0 ([] : List (Int)) 0) ∧ ∀ (n_7 : Nat) (list_4 : List (Int × Int)) (now_4 : Int) (now8_1 : Int) (at_ : List (Int)) (i10 : Int), I n_7 list_4 now_4 now8_1 at_ i10 → (cond (decide ((i10 : Int) < (Int.tmod (IntKind.wrap .i64 n_1) 60))) (dialer_Server_Ask_wp list_4 now_4 now8_1 from_ [(from_, 1)] 9 (fun (r_6 : Int) (r_7 : Int) (r_8 : Int) (r_9 : Int) (list_5 : List (Int × Int)) (now_5 : Int) => joinP1 (fun (k14 : Int) => joinP0 (joinP1 (fun (at__1 : List (Int)) => ∃ (n_9 : Nat), n_9 < n_7 ∧ I n_9 list_5 now_5 (IntKind.wrap .i64 (now8_1 + (Int.tmod (IntKind.wrap .i64 gap) 40))) at__1 (IntKind.wrap .i64 (i10 + 1))) (fun (Q_4 : List (Int) → Prop) => cond ((r_9 : Int) == 0) ((at_.length + [now8_1].length) * 8 ≤ 140737488355328 ∧ (Q_4 (at_ ++ [now8_1]))) (Q_4 at_))) (fun (Q_3 : Prop) => joinP1 (fun (t89 : Bool) => cond t89 (K false) (Q_3 )) (fun (Q_5 : Bool → Prop) => cond (!(((r_9 : Int) == 0) == (decide ((k14 : Int) < 3)))) (Q_5 true) (cond ((r_9 : Int) == 0) (cond ((r_6 : Int) != from_) (Q_5 true) (cond ((r_9 : Int) != 0) (Q_5 ((r_9 : Int) != 7)) (Q_5 false))) (cond ((r_9 : Int) != 0) (Q_5 ((r_9 : Int) != 7)) (Q_5 false)))))) (fun (Q_2 : Int → Prop) => ∃ (I_1 : Nat → Int → Int → Prop), (∃ (n_13 : Nat), I_1 n_13 0 0) ∧ ∀ (n_10 : Nat) (k14_1 : Int) (j15 : Int), I_1 n_10 k14_1 j15 → (cond (decide ((j15 : Int) < ((at_.length : Nat) : Int))) (0 ≤ (j15 : Int) ∧ (j15 : Int) < ((at_.length : Nat) : Int) ∧ (∀ (x_1 : Int), at_[Int.toNat j15]? = some x_1 → (cond (decide (((IntKind.wrap .i64 (x_1 + 60)) : Int) > now8_1)) (∃ (n_11 : Nat), n_11 < n_10 ∧ I_1 n_11 (IntKind.wrap .i64 (k14_1 + 1)) (IntKind.wrap .i64 (j15 + 1))) (∃ (n_12 : Nat), n_12 < n_10 ∧ I_1 n_12 k14_1 (IntKind.wrap .i64 (j15 + 1)))))) (Q_2 k14_1))))) (Q_1 list_4 now_4 now8_1))))) (fun (Q : Bool → Prop) => cond (false) (Q true) (cond ((from_ : Int) == 0) (Q true) (Q ((from_ : Int) == 99)))))))
theorem embrasurelaw20_DialerAgain_ok {from_ : Int} {gap : Int} {n_1 : Int} {FL : List HP} {w : World} {K : Bool → Prop} {R : Value → World → Prop}
  (h : Mem (FL) w) (hp : embrasurelaw20_DialerAgain_wp from_ gap n_1 K)
  (hR : ∀ (r : Bool) (w : World), Mem (FL) w → K r → R (Value.bool r) w) :
  CallV Try.prog 4 #[(Value.int .u32 from_), (Value.int .u8 gap), (Value.int .u8 n_1)] w R := by
  refine embrasurelaw20_DialerAgain_call ?_
  unfold embrasurelaw20_DialerAgain
  unfold embrasurelaw20_DialerAgain_wp at hp
  refine embrasurelaw20_awake_ok h hp ?_
  intro r w h hp
  refine ⟨_, rfl, ?_⟩
  refine cond_both hp (fun hp => ?_) (fun hp => ?_)
  · exact hR false _ h hp
  refine dialer_New_ok h hp ?_
  rintro list now b_1 p_1 n_2 c_1 w rfl h hp
  have cpp_1 := rowCap h 1 rfl
  refine ⟨_, rfl, ?_⟩
  obtain ⟨Q, hq, hp⟩ := hp
  refine ⟨fun from0 gap1 n2 s7 t31 w => from_ = from0 ∧ gap = gap1 ∧ n_1 = n2 ∧ (some (Addr.mk b_1 0 none)) = s7 ∧ Q t31 ∧ Mem (cel b_1 43 [(Value.slice p_1 list.length c_1), (Value.int .i64 now)] :: row enc49 49 2 p_1 c_1 list :: FL) w, ?_, ?_⟩
  · rintro from0 gap1 n2 s7 t31 w ⟨rfl, rfl, rfl, rfl, hp, h⟩
    replace hp := hq t31 hp
    unfold embrasurelaw20_DialerAgain_j1
    refine cond_both hp (fun hp => ?_) (fun hp => ?_)
    · refine neqPtrNil undP24 ?_
      refine ⟨_, rfl, ?_⟩
      replace h := h.sel [] 2
      dsimp only [pickL, pickR, nthH, delH, dropH, List.cons_append, List.nil_append] at h
      exact hR (true) _ h hp
    obtain ⟨Q_1, hq, hp⟩ := hp
    refine ⟨fun s7_1 now8 w => ∃ (list_1 : List (Int × Int)), ∃ (p_2 : Option Addr), ∃ (n_3 : Nat), ∃ (c_2 : Nat), ∃ (now_1 : Int), (some (Addr.mk b_1 0 none)) = s7_1 ∧ n_3 = list_1.length ∧ Q_1 list_1 now_1 now8 ∧ Mem (cel b_1 43 [(Value.slice p_2 n_3 c_2), (Value.int .i64 now_1)] :: row enc49 49 2 p_2 c_2 list_1 :: FL) w, ?_, ?_⟩
    · rintro s7_1 now8 w ⟨list_1, p_2, n_3, c_2, now_1, rfl, rfl, hp, h⟩
      replace hp := hq list_1 now_1 now8 hp
      unfold embrasurelaw20_DialerAgain_j2
      have cpp_2 := rowCap h 1 rfl
      refine newL (o := [(Value.int .u32 99), (Value.int .i64 1)]) h ?_
      intro b_2 w h
      replace h := h.pick [1, 1]
      dsimp only [pickL, pickR, nthH, delH, dropH, List.cons_append, List.nil_append] at h
      refine dialer_Server_Ask_ok (FL := cel b_2 33 [(Value.int .u32 99), (Value.int .i64 1)] :: FL) (fun w h => (celRd h 0 encL33 rfl [(99, 1)] rfl)) rfl (Nat.le_refl _) h hp ?_
      rintro r_1 r_2 r_3 r_4 list_2 now_2 p_3 n_4 c_3 w rfl h hp
      have cpp_3 := rowCap h 1 rfl
      refine ⟨_, _, _, _, rfl, ?_⟩
      refine newL (o := [(Value.int .u32 0), (Value.int .i64 0)]) h ?_
      intro b_3 w h
      refine storeL (ys := [(Value.int .u32 r_1), (Value.int .i64 r_2)]) h 0 0 rfl rfl rfl sz33 rfl rfl ?_
      intro w h
      dsimp only [setH, setVs, setV] at h
      refine cond_both' hp (fun hp => ?_) (fun hp => ?_)
      · replace h := h.sel [] 4
        dsimp only [pickL, pickR, nthH, delH, dropH, List.cons_append, List.nil_append] at h
        exact hR false _ h hp
      replace h := h.pick [1, 1]
      dsimp only [pickL, pickR, nthH, delH, dropH, List.cons_append, List.nil_append] at h
      refine dialer_Server_Count_ok h hp ?_
      rintro r_5 list_3 now_3 p_4 n_5 c_4 w rfl h hp
      have cpp_4 := rowCap h 1 rfl
      refine ⟨_, rfl, ?_⟩
      replace h := h.sel [] 4
      dsimp only [pickL, pickR, nthH, delH, dropH, List.cons_append, List.nil_append] at h
      exact hR ((r_5 : Int) == 1) _ h hp
    clear hq
    obtain ⟨I, ⟨n_14, h0⟩, hq⟩ := hp
    replace h := rowNil enc3 3 1 h
    replace h := h.sel [1, 1, 0] 0
    dsimp only [pickL, pickR, nthH, delH, dropH, List.cons_append, List.nil_append] at h
    refine ⟨fun n_7 from0_1 gap1_1 n2_1 s7_2 now8_1 at9p at9l at9c i10 w => ∃ (list_4 : List (Int × Int)), ∃ (p_5 : Option Addr), ∃ (n_6 : Nat), ∃ (c_5 : Nat), ∃ (now_4 : Int), ∃ (at_ : List (Int)), from_ = from0_1 ∧ gap = gap1_1 ∧ n_1 = n2_1 ∧ (some (Addr.mk b_1 0 none)) = s7_2 ∧ n_6 = list_4.length ∧ at9l = at_.length ∧ I n_7 list_4 now_4 now8_1 at_ i10 ∧ Mem (cel b_1 43 [(Value.slice p_5 n_6 c_5), (Value.int .i64 now_4)] :: row enc49 49 2 p_5 c_5 list_4 :: row enc3 3 1 at9p at9c at_ :: FL) w, ⟨n_14, list, p_1, list.length, c_1, now, ([] : List (Int)), rfl, rfl, rfl, rfl, rfl, rfl, h0, h⟩, ?_⟩
    clear h0 h
    rintro n_7 from0_1 gap1_1 n2_1 s7_2 now8_1 at9p at9l at9c i10 w ⟨list_4, p_5, n_6, c_5, now_4, at_, rfl, rfl, rfl, rfl, rfl, rfl, hp, h⟩
    replace hp := hq n_7 list_4 now_4 now8_1 at_ i10 hp
    clear hq
    unfold embrasurelaw20_DialerAgain_l3
    have cpp_5 := rowCap h 1 rfl
    have cpat9p := rowCap h 2 rfl
    refine ⟨by decide, ?_⟩
    refine cond_both' hp (fun hp => ?_) (fun hp => ?_)
    · replace h := h.sel [0, 0] 1
      dsimp only [pickL, pickR, nthH, delH, dropH, List.cons_append, List.nil_append] at h
      exact ⟨list_4, p_5, list_4.length, c_5, now_4, rfl, rfl, hp, h⟩
    refine newL (o := [(Value.int .u32 from_), (Value.int .i64 1)]) h ?_
    intro b_4 w h
    replace h := h.pick [1, 1]
    dsimp only [pickL, pickR, nthH, delH, dropH, List.cons_append, List.nil_append] at h
    refine dialer_Server_Ask_ok (FL := cel b_4 33 [(Value.int .u32 from_), (Value.int .i64 1)] :: row enc3 3 1 at9p at9c at_ :: FL) (fun w h => (celRd h 0 encL33 rfl [(from_, 1)] rfl)) rfl (Nat.le_refl _) h hp ?_
    rintro r_6 r_7 r_8 r_9 list_5 now_5 p_6 n_8 c_6 w rfl h hp
    have cpp_6 := rowCap h 1 rfl
    refine ⟨_, _, _, _, rfl, ?_⟩
    refine newL (o := [(Value.int .u32 0), (Value.int .i64 0)]) h ?_
    intro b_5 w h
    refine storeL (ys := [(Value.int .u32 r_6), (Value.int .i64 r_7)]) h 0 0 rfl rfl rfl sz33 rfl rfl ?_
    intro w h
    dsimp only [setH, setVs, setV] at h
    obtain ⟨Q_2, hq, hp⟩ := hp
    refine ⟨fun from0_2 gap1_2 n2_2 s7_3 now8_2 at9_1p at9_1l at9_1c i10_1 a11 e13 k14 w => from_ = from0_2 ∧ gap = gap1_2 ∧ n_1 = n2_2 ∧ (some (Addr.mk b_1 0 none)) = s7_3 ∧ now8_1 = now8_2 ∧ at9p = at9_1p ∧ at_.length = at9_1l ∧ at9c = at9_1c ∧ i10 = i10_1 ∧ (Addr.mk b_5 0 none) = a11 ∧ r_9 = e13 ∧ Q_2 k14 ∧ Mem (cel b_5 33 [(Value.int .u32 r_6), (Value.int .i64 r_7)] :: cel b_1 43 [(Value.slice p_6 list_5.length c_6), (Value.int .i64 now_5)] :: row enc49 49 2 p_6 c_6 list_5 :: cel b_4 33 [(Value.int .u32 from_), (Value.int .i64 1)] :: row enc3 3 1 at9p at9c at_ :: FL) w, ?_, ?_⟩
    · rintro from0_2 gap1_2 n2_2 s7_3 now8_2 at9_1p at9_1l at9_1c i10_1 a11 e13 k14 w ⟨rfl, rfl, rfl, rfl, rfl, rfl, rfl, rfl, rfl, rfl, rfl, hp, h⟩
      replace hp := hq k14 hp
      unfold embrasurelaw20_DialerAgain_j4
      obtain ⟨Q_3, hq, hp⟩ := hp
      refine ⟨fun from0_3 gap1_3 n2_3 s7_4 now8_3 at9_2p at9_2l at9_2c i10_2 e13_1 w => from_ = from0_3 ∧ gap = gap1_3 ∧ n_1 = n2_3 ∧ (some (Addr.mk b_1 0 none)) = s7_4 ∧ now8_1 = now8_3 ∧ at9p = at9_2p ∧ at_.length = at9_2l ∧ at9c = at9_2c ∧ i10 = i10_2 ∧ r_9 = e13_1 ∧ Q_3 ∧ Mem (cel b_5 33 [(Value.int .u32 r_6), (Value.int .i64 r_7)] :: cel b_1 43 [(Value.slice p_6 list_5.length c_6), (Value.int .i64 now_5)] :: row enc49 49 2 p_6 c_6 list_5 :: cel b_4 33 [(Value.int .u32 from_), (Value.int .i64 1)] :: row enc3 3 1 at9p at9c at_ :: FL) w, ?_, ?_⟩
      · rintro from0_3 gap1_3 n2_3 s7_4 now8_3 at9_2p at9_2l at9_2c i10_2 e13_1 w ⟨rfl, rfl, rfl, rfl, rfl, rfl, rfl, rfl, rfl, rfl, hp, h⟩
        replace hp := hq  hp
        unfold embrasurelaw20_DialerAgain_j5
        obtain ⟨Q_4, hq, hp⟩ := hp
        refine ⟨fun from0_4 gap1_4 n2_4 s7_5 now8_4 at9_3p at9_3l at9_3c i10_3 w => ∃ (at__1 : List (Int)), from_ = from0_4 ∧ gap = gap1_4 ∧ n_1 = n2_4 ∧ (some (Addr.mk b_1 0 none)) = s7_5 ∧ now8_1 = now8_4 ∧ i10 = i10_3 ∧ at9_3l = at__1.length ∧ Q_4 at__1 ∧ Mem (cel b_5 33 [(Value.int .u32 r_6), (Value.int .i64 r_7)] :: cel b_1 43 [(Value.slice p_6 list_5.length c_6), (Value.int .i64 now_5)] :: row enc49 49 2 p_6 c_6 list_5 :: cel b_4 33 [(Value.int .u32 from_), (Value.int .i64 1)] :: row enc3 3 1 at9_3p at9_3c at__1 :: FL) w, ?_, ?_⟩
        · rintro from0_4 gap1_4 n2_4 s7_5 now8_4 at9_3p at9_3l at9_3c i10_3 w ⟨at__1, rfl, rfl, rfl, rfl, rfl, rfl, rfl, hp, h⟩
          replace hp := hq at__1 hp
          unfold embrasurelaw20_DialerAgain_j6
          have cpat9_3p := rowCap h 4 rfl
          refine ⟨by decide, ?_⟩
          replace h := h.sel [1, 1, 2] 2
          dsimp only [pickL, pickR, nthH, delH, dropH, List.cons_append, List.nil_append] at h
          obtain ⟨n_9, hn, hp⟩ := hp
          exact ⟨n_9, hn, list_5, p_6, list_5.length, c_6, now_5, at__1, rfl, rfl, rfl, rfl, rfl, rfl, hp, h⟩
        clear hq
        refine cond_both' hp (fun hp => ?_) (fun hp => ?_)
        · exact ⟨at_, rfl, rfl, rfl, rfl, rfl, rfl, rfl, hp, h⟩
        refine newL (o := [(Value.int .i64 now8_1)]) h ?_
        intro b_6 w h
        have sr := (celRd h 0 encL3 rfl [now8_1] rfl)
        obtain ⟨hb, hp⟩ := hp
        refine appendL slt26 und26 encL3 encO3 h 5 rfl rfl sr rfl hb ?_
        intro p_7 c_7 w h
        dsimp only [setH, setVs, setV] at h
        have cpp_7 := rowCap h 5 rfl
        refine ⟨_, _, _, rfl, ?_⟩
        replace h := h.sel [1, 1, 1, 1, 1] 1
        dsimp only [pickL, pickR, nthH, delH, dropH, List.cons_append, List.nil_append] at h
        exact ⟨(at_ ++ [now8_1]), rfl, rfl, rfl, rfl, rfl, rfl, rfl, hp, h⟩
      clear hq
      obtain ⟨Q_5, hq, hp⟩ := hp
      refine ⟨fun from0_5 gap1_5 n2_5 s7_6 now8_5 at9_4p at9_4l at9_4c i10_4 e13_2 t89 w => from_ = from0_5 ∧ gap = gap1_5 ∧ n_1 = n2_5 ∧ (some (Addr.mk b_1 0 none)) = s7_6 ∧ now8_1 = now8_5 ∧ at9p = at9_4p ∧ at_.length = at9_4l ∧ at9c = at9_4c ∧ i10 = i10_4 ∧ r_9 = e13_2 ∧ Q_5 t89 ∧ Mem (cel b_5 33 [(Value.int .u32 r_6), (Value.int .i64 r_7)] :: cel b_1 43 [(Value.slice p_6 list_5.length c_6), (Value.int .i64 now_5)] :: row enc49 49 2 p_6 c_6 list_5 :: cel b_4 33 [(Value.int .u32 from_), (Value.int .i64 1)] :: row enc3 3 1 at9p at9c at_ :: FL) w, ?_, ?_⟩
      · rintro from0_5 gap1_5 n2_5 s7_6 now8_5 at9_4p at9_4l at9_4c i10_4 e13_2 t89 w ⟨rfl, rfl, rfl, rfl, rfl, rfl, rfl, rfl, rfl, rfl, hp, h⟩
        replace hp := hq t89 hp
        unfold embrasurelaw20_DialerAgain_j7
        refine cond_both' hp (fun hp => ?_) (fun hp => ?_)
        · exact ⟨rfl, rfl, rfl, rfl, rfl, rfl, rfl, rfl, rfl, rfl, hp, h⟩
        replace h := h.sel [] 5
        dsimp only [pickL, pickR, nthH, delH, dropH, List.cons_append, List.nil_append] at h
        exact hR false _ h hp
      clear hq
      refine neqBool undB4 ?_
      refine ⟨_, rfl, ?_⟩
      refine cond_both hp (fun hp => ?_) (fun hp => ?_)
      · exact ⟨rfl, rfl, rfl, rfl, rfl, rfl, rfl, rfl, rfl, rfl, hp, h⟩
      refine cond_both' hp (fun hp => ?_) (fun hp => ?_)
      · refine cond_both hp (fun hp => ?_) (fun hp => ?_)
        · exact ⟨rfl, rfl, rfl, rfl, rfl, rfl, rfl, rfl, rfl, rfl, hp, h⟩
        exact ⟨rfl, rfl, rfl, rfl, rfl, rfl, rfl, rfl, rfl, rfl, hp, h⟩
      refine ⟨_, cellL h 0 0 rfl rfl rfl, ?_⟩
      refine cond_both hp (fun hp => ?_) (fun hp => ?_)
      · exact ⟨rfl, rfl, rfl, rfl, rfl, rfl, rfl, rfl, rfl, rfl, hp, h⟩
      refine cond_both hp (fun hp => ?_) (fun hp => ?_)
      · exact ⟨rfl, rfl, rfl, rfl, rfl, rfl, rfl, rfl, rfl, rfl, hp, h⟩
      exact ⟨rfl, rfl, rfl, rfl, rfl, rfl, rfl, rfl, rfl, rfl, hp, h⟩
    clear hq
    obtain ⟨I_1, ⟨n_13, h0⟩, hq⟩ := hp
    refine ⟨fun n_10 from0_6 gap1_6 n2_6 s7_7 now8_6 at9_5p at9_5l at9_5c i10_5 a11_1 e13_3 k14_1 j15 w => from_ = from0_6 ∧ gap = gap1_6 ∧ n_1 = n2_6 ∧ (some (Addr.mk b_1 0 none)) = s7_7 ∧ now8_1 = now8_6 ∧ at9p = at9_5p ∧ at_.length = at9_5l ∧ at9c = at9_5c ∧ i10 = i10_5 ∧ (Addr.mk b_5 0 none) = a11_1 ∧ r_9 = e13_3 ∧ I_1 n_10 k14_1 j15 ∧ Mem (cel b_5 33 [(Value.int .u32 r_6), (Value.int .i64 r_7)] :: cel b_1 43 [(Value.slice p_6 list_5.length c_6), (Value.int .i64 now_5)] :: row enc49 49 2 p_6 c_6 list_5 :: cel b_4 33 [(Value.int .u32 from_), (Value.int .i64 1)] :: row enc3 3 1 at9p at9c at_ :: FL) w, ⟨n_13, rfl, rfl, rfl, rfl, rfl, rfl, rfl, rfl, rfl, rfl, rfl, h0, h⟩, ?_⟩
    clear h0 h
    rintro n_10 from0_6 gap1_6 n2_6 s7_7 now8_6 at9_5p at9_5l at9_5c i10_5 a11_1 e13_3 k14_1 j15 w ⟨rfl, rfl, rfl, rfl, rfl, rfl, rfl, rfl, rfl, rfl, rfl, hp, h⟩
    replace hp := hq n_10 k14_1 j15 hp
    clear hq
    unfold embrasurelaw20_DialerAgain_l8
    refine cond_both' hp (fun hp => ?_) (fun hp => ?_)
    · exact ⟨rfl, rfl, rfl, rfl, rfl, rfl, rfl, rfl, rfl, rfl, rfl, hp, h⟩
    obtain ⟨ia_1, ja_1, hp⟩ := hp
    obtain ⟨a_1, ha_1⟩ := rdAddr (rowRd h 4 encL3 rfl) rfl ia_1 ja_1
    refine ⟨a_1, ha_1, ia_1, ja_1, ?_⟩
    obtain ⟨x_1, hx_1, hc⟩ := rdCell0 (rowRd h 4 encL3 rfl) ha_1 rfl ia_1 ja_1
    replace hp := hp x_1 hx_1
    refine ⟨_, hc _ rfl, ?_⟩
    refine cond_both hp (fun hp => ?_) (fun hp => ?_)
    · obtain ⟨n_11, hn, hp⟩ := hp
      exact ⟨n_11, hn, rfl, rfl, rfl, rfl, rfl, rfl, rfl, rfl, rfl, rfl, rfl, hp, h⟩
    obtain ⟨n_12, hn, hp⟩ := hp
    exact ⟨n_12, hn, rfl, rfl, rfl, rfl, rfl, rfl, rfl, rfl, rfl, rfl, rfl, hp, h⟩
  clear hq
  refine eqlPtrNil undP24 ?_
  refine ⟨_, rfl, ?_⟩
  refine cond_both hp (fun hp => ?_) (fun hp => ?_)
  · exact ⟨rfl, rfl, rfl, rfl, hp, h⟩
  refine cond_both hp (fun hp => ?_) (fun hp => ?_)
  · exact ⟨rfl, rfl, rfl, rfl, hp, h⟩
  exact ⟨rfl, rfl, rfl, rfl, hp, h⟩

/-! embrasure/embrasurelaw20.DialerAll (5) -/
def embrasurelaw20_DialerAll_wp (n_1 : Int) (wait : Int) (K : Bool → Prop) : Prop :=
  embrasurelaw20_awake_wp (fun (r : Bool) => cond (!r) (K false) (dialer_New_wp (fun (list : List (Int × Int)) (now : Int) => cond (false) (K false) (joinP2 (fun (list_1 : List (Int × Int)) (now_1 : Int) => dialer_Server_Ask_wp list_1 now_1 (Int.tmod (IntKind.wrap .i64 wait) 120) 99 [(99, 9)] 1 (fun (r_1 : Int) (r_2 : Int) (r_3 : Int) (r_4 : Int) (list_2 : List (Int × Int)) (now_2 : Int) => joinP0 (joinP1 (fun (want15 : Int) => joinP1 (fun (want15_1 : Int) => dialer_Server_Count_wp list_2 now_2 (Int.tmod (IntKind.wrap .i64 wait) 120) 0 (fun (r_5 : Int) (list_3 : List (Int × Int)) (now_3 : Int) => K ((r_5 : Int) == want15_1))) (fun (Q_3 : Int → Prop) => cond ((r_4 : Int) == 0) (Q_3 (IntKind.wrap .i64 (want15 + 1))) (Q_3 want15))) (fun (Q_2 : Int → Prop) => cond (decide (((Int.tmod (IntKind.wrap .i64 wait) 120) : Int) ≥ 60)) (Q_2 0) (Q_2 (if (30 : Int) < (Int.tmod (IntKind.wrap .i64 n_1) 60) then 30 else (Int.tmod (IntKind.wrap .i64 n_1) 60))))) (fun (Q_1 : Prop) => joinP1 (fun (t76 : Bool) => cond t76 (K false) (Q_1 )) (fun (Q_4 : Bool → Prop) => cond (decide (((Int.tmod (IntKind.wrap .i64 n_1) 60) : Int) < 30)) (Q_4 (!(((r_4 : Int) == 0) == true))) (Q_4 (!(((r_4 : Int) == 0) == (decide (((Int.tmod (IntKind.wrap .i64 wait) 120) : Int) ≥ 60))))))))) (fun (Q : List (Int × Int) → Int → Prop) => ∃ (I : Nat → List (Int × Int) → Int → Int → Prop), (∃ (n_10 : Nat), I n_10 list now 0) ∧ ∀ (n_7 : Nat) (list_4 : List (Int × Int)) (now_4 : Int) (i7 : Int), I n_7 list_4 now_4 i7 → (cond (decide ((i7 : Int) < (Int.tmod (IntKind.wrap .i64 n_1) 60))) (dialer_Server_Ask_wp list_4 now_4 0 (IntKind.wrap .u32 (IntKind.wrap .i64 (i7 + 1))) [((IntKind.wrap .u32 (IntKind.wrap .i64 (i7 + 1))), 9)] 1 (fun (r_6 : Int) (r_7 : Int) (r_8 : Int) (r_9 : Int) (list_5 : List (Int × Int)) (now_5 : Int) => joinP1 (fun (t55 : Bool) => cond t55 (K false) (∃ (n_9 : Nat), n_9 < n_7 ∧ I n_9 list_5 now_5 (IntKind.wrap .i64 (i7 + 1)))) (fun (Q_5 : Bool → Prop) => cond (!(((r_9 : Int) == 0) == (decide ((i7 : Int) < 30)))) (Q_5 true) (cond ((r_9 : Int) != 0) (Q_5 ((r_9 : Int) != 7)) (Q_5 false))))) (Q list_4 now_4)))))))
theorem embrasurelaw20_DialerAll_ok {n_1 : Int} {wait : Int} {FL : List HP} {w : World} {K : Bool → Prop} {R : Value → World → Prop}
  (h : Mem (FL) w) (hp : embrasurelaw20_DialerAll_wp n_1 wait K)
  (hR : ∀ (r : Bool) (w : World), Mem (FL) w → K r → R (Value.bool r) w) :
  CallV Try.prog 5 #[(Value.int .u8 n_1), (Value.int .u8 wait)] w R := by
  refine embrasurelaw20_DialerAll_call ?_
  unfold embrasurelaw20_DialerAll
  unfold embrasurelaw20_DialerAll_wp at hp
  refine embrasurelaw20_awake_ok h hp ?_
  intro r w h hp
  refine ⟨_, rfl, ?_⟩
  refine cond_both hp (fun hp => ?_) (fun hp => ?_)
  · exact hR false _ h hp
  refine dialer_New_ok h hp ?_
  rintro list now b_1 p_1 n_2 c_1 w rfl h hp
  have cpp_1 := rowCap h 1 rfl
  refine ⟨_, rfl, ?_⟩
  refine eqlPtrNil undP24 ?_
  refine ⟨_, rfl, ?_⟩
  refine cond_both hp (fun hp => ?_) (fun hp => ?_)
  · replace h := h.sel [] 2
    dsimp only [pickL, pickR, nthH, delH, dropH, List.cons_append, List.nil_append] at h
    exact hR false _ h hp
  refine ⟨by decide, ?_⟩
  obtain ⟨Q, hq, hp⟩ := hp
  refine ⟨fun wait1 s5 k6 w => ∃ (list_1 : List (Int × Int)), ∃ (p_2 : Option Addr), ∃ (n_3 : Nat), ∃ (c_2 : Nat), ∃ (now_1 : Int), wait = wait1 ∧ (some (Addr.mk b_1 0 none)) = s5 ∧ (Int.tmod (IntKind.wrap .i64 n_1) 60) = k6 ∧ n_3 = list_1.length ∧ Q list_1 now_1 ∧ Mem (cel b_1 43 [(Value.slice p_2 n_3 c_2), (Value.int .i64 now_1)] :: row enc49 49 2 p_2 c_2 list_1 :: FL) w, ?_, ?_⟩
  · rintro wait1 s5 k6 w ⟨list_1, p_2, n_3, c_2, now_1, rfl, rfl, rfl, rfl, hp, h⟩
    replace hp := hq list_1 now_1 hp
    unfold embrasurelaw20_DialerAll_j1
    have cpp_2 := rowCap h 1 rfl
    refine ⟨by decide, ?_⟩
    refine newL (o := [(Value.int .u32 99), (Value.int .i64 9)]) h ?_
    intro b_2 w h
    replace h := h.pick [1, 1]
    dsimp only [pickL, pickR, nthH, delH, dropH, List.cons_append, List.nil_append] at h
    refine dialer_Server_Ask_ok (FL := cel b_2 33 [(Value.int .u32 99), (Value.int .i64 9)] :: FL) (fun w h => (celRd h 0 encL33 rfl [(99, 9)] rfl)) rfl (Nat.le_refl _) h hp ?_
    rintro r_1 r_2 r_3 r_4 list_2 now_2 p_3 n_4 c_3 w rfl h hp
    have cpp_3 := rowCap h 1 rfl
    refine ⟨_, _, _, _, rfl, ?_⟩
    refine newL (o := [(Value.int .u32 0), (Value.int .i64 0)]) h ?_
    intro b_3 w h
    refine storeL (ys := [(Value.int .u32 r_1), (Value.int .i64 r_2)]) h 0 0 rfl rfl rfl sz33 rfl rfl ?_
    intro w h
    dsimp only [setH, setVs, setV] at h
    obtain ⟨Q_1, hq, hp⟩ := hp
    refine ⟨fun s5_1 k6_1 w11 e14 w => (some (Addr.mk b_1 0 none)) = s5_1 ∧ (Int.tmod (IntKind.wrap .i64 n_1) 60) = k6_1 ∧ (Int.tmod (IntKind.wrap .i64 wait) 120) = w11 ∧ r_4 = e14 ∧ Q_1 ∧ Mem (cel b_3 33 [(Value.int .u32 r_1), (Value.int .i64 r_2)] :: cel b_1 43 [(Value.slice p_3 list_2.length c_3), (Value.int .i64 now_2)] :: row enc49 49 2 p_3 c_3 list_2 :: cel b_2 33 [(Value.int .u32 99), (Value.int .i64 9)] :: FL) w, ?_, ?_⟩
    · rintro s5_1 k6_1 w11 e14 w ⟨rfl, rfl, rfl, rfl, hp, h⟩
      replace hp := hq  hp
      unfold embrasurelaw20_DialerAll_j2
      obtain ⟨Q_2, hq, hp⟩ := hp
      refine ⟨fun s5_2 w11_1 e14_1 want15 w => (some (Addr.mk b_1 0 none)) = s5_2 ∧ (Int.tmod (IntKind.wrap .i64 wait) 120) = w11_1 ∧ r_4 = e14_1 ∧ Q_2 want15 ∧ Mem (cel b_3 33 [(Value.int .u32 r_1), (Value.int .i64 r_2)] :: cel b_1 43 [(Value.slice p_3 list_2.length c_3), (Value.int .i64 now_2)] :: row enc49 49 2 p_3 c_3 list_2 :: cel b_2 33 [(Value.int .u32 99), (Value.int .i64 9)] :: FL) w, ?_, ?_⟩
      · rintro s5_2 w11_1 e14_1 want15 w ⟨rfl, rfl, rfl, hp, h⟩
        replace hp := hq want15 hp
        unfold embrasurelaw20_DialerAll_j3
        obtain ⟨Q_3, hq, hp⟩ := hp
        refine ⟨fun s5_3 w11_2 want15_1 w => (some (Addr.mk b_1 0 none)) = s5_3 ∧ (Int.tmod (IntKind.wrap .i64 wait) 120) = w11_2 ∧ Q_3 want15_1 ∧ Mem (cel b_3 33 [(Value.int .u32 r_1), (Value.int .i64 r_2)] :: cel b_1 43 [(Value.slice p_3 list_2.length c_3), (Value.int .i64 now_2)] :: row enc49 49 2 p_3 c_3 list_2 :: cel b_2 33 [(Value.int .u32 99), (Value.int .i64 9)] :: FL) w, ?_, ?_⟩
        · rintro s5_3 w11_2 want15_1 w ⟨rfl, rfl, hp, h⟩
          replace hp := hq want15_1 hp
          unfold embrasurelaw20_DialerAll_j4
          replace h := h.pick [1, 1]
          dsimp only [pickL, pickR, nthH, delH, dropH, List.cons_append, List.nil_append] at h
          refine dialer_Server_Count_ok h hp ?_
          rintro r_5 list_3 now_3 p_4 n_5 c_4 w rfl h hp
          have cpp_4 := rowCap h 1 rfl
          refine ⟨_, rfl, ?_⟩
          replace h := h.sel [] 4
          dsimp only [pickL, pickR, nthH, delH, dropH, List.cons_append, List.nil_append] at h
          exact hR ((r_5 : Int) == want15_1) _ h hp
        clear hq
        refine cond_both hp (fun hp => ?_) (fun hp => ?_)
        · exact ⟨rfl, rfl, hp, h⟩
        exact ⟨rfl, rfl, hp, h⟩
      clear hq
      refine cond_both hp (fun hp => ?_) (fun hp => ?_)
      · exact ⟨rfl, rfl, rfl, hp, h⟩
      exact ⟨rfl, rfl, rfl, hp, h⟩
    clear hq
    obtain ⟨Q_4, hq, hp⟩ := hp
    refine ⟨fun s5_4 k6_2 w11_3 e14_2 t76 w => (some (Addr.mk b_1 0 none)) = s5_4 ∧ (Int.tmod (IntKind.wrap .i64 n_1) 60) = k6_2 ∧ (Int.tmod (IntKind.wrap .i64 wait) 120) = w11_3 ∧ r_4 = e14_2 ∧ Q_4 t76 ∧ Mem (cel b_3 33 [(Value.int .u32 r_1), (Value.int .i64 r_2)] :: cel b_1 43 [(Value.slice p_3 list_2.length c_3), (Value.int .i64 now_2)] :: row enc49 49 2 p_3 c_3 list_2 :: cel b_2 33 [(Value.int .u32 99), (Value.int .i64 9)] :: FL) w, ?_, ?_⟩
    · rintro s5_4 k6_2 w11_3 e14_2 t76 w ⟨rfl, rfl, rfl, rfl, hp, h⟩
      replace hp := hq t76 hp
      unfold embrasurelaw20_DialerAll_j5
      refine cond_both' hp (fun hp => ?_) (fun hp => ?_)
      · exact ⟨rfl, rfl, rfl, rfl, hp, h⟩
      replace h := h.sel [] 4
      dsimp only [pickL, pickR, nthH, delH, dropH, List.cons_append, List.nil_append] at h
      exact hR false _ h hp
    clear hq
    refine cond_both hp (fun hp => ?_) (fun hp => ?_)
    · refine neqBool undB4 ?_
      refine ⟨_, rfl, ?_⟩
      exact ⟨rfl, rfl, rfl, rfl, hp, h⟩
    refine neqBool undB4 ?_
    refine ⟨_, rfl, ?_⟩
    exact ⟨rfl, rfl, rfl, rfl, hp, h⟩
  clear hq
  obtain ⟨I, ⟨n_10, h0⟩, hq⟩ := hp
  refine ⟨fun n_7 wait1_1 s5_5 k6_3 i7 w => ∃ (list_4 : List (Int × Int)), ∃ (p_5 : Option Addr), ∃ (n_6 : Nat), ∃ (c_5 : Nat), ∃ (now_4 : Int), wait = wait1_1 ∧ (some (Addr.mk b_1 0 none)) = s5_5 ∧ (Int.tmod (IntKind.wrap .i64 n_1) 60) = k6_3 ∧ n_6 = list_4.length ∧ I n_7 list_4 now_4 i7 ∧ Mem (cel b_1 43 [(Value.slice p_5 n_6 c_5), (Value.int .i64 now_4)] :: row enc49 49 2 p_5 c_5 list_4 :: FL) w, ⟨n_10, list, p_1, list.length, c_1, now, rfl, rfl, rfl, rfl, h0, h⟩, ?_⟩
  clear h0 h
  rintro n_7 wait1_1 s5_5 k6_3 i7 w ⟨list_4, p_5, n_6, c_5, now_4, rfl, rfl, rfl, rfl, hp, h⟩
  replace hp := hq n_7 list_4 now_4 i7 hp
  clear hq
  unfold embrasurelaw20_DialerAll_l6
  have cpp_5 := rowCap h 1 rfl
  refine cond_both' hp (fun hp => ?_) (fun hp => ?_)
  · exact ⟨list_4, p_5, list_4.length, c_5, now_4, rfl, rfl, rfl, rfl, hp, h⟩
  refine newL (o := [(Value.int .u32 (IntKind.wrap .u32 (IntKind.wrap .i64 (i7 + 1)))), (Value.int .i64 9)]) h ?_
  intro b_4 w h
  replace h := h.pick [1, 1]
  dsimp only [pickL, pickR, nthH, delH, dropH, List.cons_append, List.nil_append] at h
  refine dialer_Server_Ask_ok (FL := cel b_4 33 [(Value.int .u32 (IntKind.wrap .u32 (IntKind.wrap .i64 (i7 + 1)))), (Value.int .i64 9)] :: FL) (fun w h => (celRd h 0 encL33 rfl [((IntKind.wrap .u32 (IntKind.wrap .i64 (i7 + 1))), 9)] rfl)) rfl (Nat.le_refl _) h hp ?_
  rintro r_6 r_7 r_8 r_9 list_5 now_5 p_6 n_8 c_6 w rfl h hp
  have cpp_6 := rowCap h 1 rfl
  refine ⟨_, _, _, _, rfl, ?_⟩
  refine newL (o := [(Value.int .u32 0), (Value.int .i64 0)]) h ?_
  intro b_5 w h
  refine storeL (ys := [(Value.int .u32 r_6), (Value.int .i64 r_7)]) h 0 0 rfl rfl rfl sz33 rfl rfl ?_
  intro w h
  dsimp only [setH, setVs, setV] at h
  obtain ⟨Q_5, hq, hp⟩ := hp
  refine ⟨fun wait1_2 s5_6 k6_4 i7_1 t55 w => wait = wait1_2 ∧ (some (Addr.mk b_1 0 none)) = s5_6 ∧ (Int.tmod (IntKind.wrap .i64 n_1) 60) = k6_4 ∧ i7 = i7_1 ∧ Q_5 t55 ∧ Mem (cel b_5 33 [(Value.int .u32 r_6), (Value.int .i64 r_7)] :: cel b_1 43 [(Value.slice p_6 list_5.length c_6), (Value.int .i64 now_5)] :: row enc49 49 2 p_6 c_6 list_5 :: cel b_4 33 [(Value.int .u32 (IntKind.wrap .u32 (IntKind.wrap .i64 (i7 + 1)))), (Value.int .i64 9)] :: FL) w, ?_, ?_⟩
  · rintro wait1_2 s5_6 k6_4 i7_1 t55 w ⟨rfl, rfl, rfl, rfl, hp, h⟩
    replace hp := hq t55 hp
    unfold embrasurelaw20_DialerAll_j7
    refine cond_both hp (fun hp => ?_) (fun hp => ?_)
    · replace h := h.sel [] 4
      dsimp only [pickL, pickR, nthH, delH, dropH, List.cons_append, List.nil_append] at h
      exact hR false _ h hp
    replace h := h.sel [1, 1] 2
    dsimp only [pickL, pickR, nthH, delH, dropH, List.cons_append, List.nil_append] at h
    obtain ⟨n_9, hn, hp⟩ := hp
    exact ⟨n_9, hn, list_5, p_6, list_5.length, c_6, now_5, rfl, rfl, rfl, rfl, hp, h⟩
  clear hq
  refine neqBool undB4 ?_
  refine ⟨_, rfl, ?_⟩
  refine cond_both hp (fun hp => ?_) (fun hp => ?_)
  · exact ⟨rfl, rfl, rfl, rfl, hp, h⟩
  refine cond_both hp (fun hp => ?_) (fun hp => ?_)
  · exact ⟨rfl, rfl, rfl, rfl, hp, h⟩
  exact ⟨rfl, rfl, rfl, rfl, hp, h⟩

end Go.Proofs.Ytpppoicobkmlgaa
