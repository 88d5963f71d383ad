/- Each function over plain data (printed by a program of this claim's author). -/
import Derived.Test.YtffjmcfcfdnbkaaD
namespace Go.Proofs.Ytffjmcfcfdnbkaa
open Go Go.Eng Go.Proofs
set_option maxRecDepth 100000
set_option maxHeartbeats 2000000

def enc4 (x : Bool) : List Value := [(Value.bool x)]
theorem encL4 : ∀ x, (enc4 x).length = 1 := fun _ => rfl
theorem encO4 : ∀ x, ∀ v ∈ enc4 x, v.oneCell' = true := by intro x v hv; simp only [enc4, List.mem_cons, List.not_mem_nil, or_false] at hv; rcases hv with rfl <;> rfl
def enc5 (x : Int) : List Value := [(Value.int .u8 x)]
theorem encL5 : ∀ x, (enc5 x).length = 1 := fun _ => rfl
theorem encO5 : ∀ x, ∀ v ∈ enc5 x, v.oneCell' = true := by intro x v hv; simp only [enc5, List.mem_cons, List.not_mem_nil, or_false] at hv; rcases hv with rfl <;> rfl
def enc26 (x : Int) : List Value := [(Value.int .u16 x)]
theorem encL26 : ∀ x, (enc26 x).length = 1 := fun _ => rfl
theorem encO26 : ∀ x, ∀ v ∈ enc26 x, v.oneCell' = true := by intro x v hv; simp only [enc26, List.mem_cons, List.not_mem_nil, or_false] at hv; rcases hv with rfl <;> rfl
def enc44 (x : Int × Int) : List Value := [(Value.int .u64 x.1), (Value.int .i64 x.2)]
theorem encL44 : ∀ x, (enc44 x).length = 2 := fun _ => rfl
theorem encO44 : ∀ x, ∀ v ∈ enc44 x, v.oneCell' = true := by intro x v hv; simp only [enc44, List.mem_cons, List.not_mem_nil, or_false] at hv; rcases hv with rfl | rfl <;> rfl
theorem sz3 : sizeT Try.prog 3 = some 1 := by kernel_rfl
theorem sz4 : sizeT Try.prog 4 = some 1 := by kernel_rfl
theorem sz38 : sizeT Try.prog 38 = some 1 := by kernel_rfl
theorem slt38 : SlT Try.prog 38 44 (Value.agg #[(Value.int .u64 0), (Value.int .i64 0)]) 2 16 := ⟨by kernel_rfl, by kernel_rfl, by kernel_rfl, by decide⟩
theorem undP24 : Try.prog.underlying 24 = some (.pointer (Try.prog.pointee 24)) := by kernel_rfl
theorem und38 : Try.prog.underlying 38 = some (.slice 44) := by kernel_rfl

/-! embrasure/rtt.New (8) -/
def rtt_New_wp  (K : List (Int × Int) → Int → Int → Bool → Prop) : Prop :=
  K ([] : List (Int × Int)) 0 0 false
theorem rtt_New_ok  {FL : List HP} {w : World} {K : List (Int × Int) → Int → Int → Bool → Prop} {R : Value → World → Prop}
  (h : Mem (FL) w) (hp : rtt_New_wp  K)
  (hR : ∀ (marks : List (Int × Int)) (mean : Int) (dev : Int) (any : Bool) (b_1 : Nat) (p_1 : Option Addr) (n_1 : Nat) (c_1 : Nat) (w : World), n_1 = marks.length → Mem (cel b_1 40 [(Value.slice p_1 n_1 c_1), (Value.int .i64 mean), (Value.int .i64 dev), (Value.bool any)] :: row enc44 44 2 p_1 c_1 marks :: FL) w → K marks mean dev any → R (Value.pointer (some (Addr.mk b_1 0 none))) w) :
  CallV Try.prog 8 #[] w R := by
  refine rtt_New_call ?_
  unfold rtt_New
  unfold rtt_New_wp at hp
  refine newL (o := [(Value.slice none 0 0), (Value.int .i64 0), (Value.int .i64 0), (Value.bool false)]) h ?_
  intro b_1 w h
  replace h := rowNil enc44 44 2 h
  replace h := h.sel [1, 0] 0
  dsimp only [pickL, pickR, nthH, delH, dropH, List.cons_append, List.nil_append] at h
  exact hR ([] : List (Int × Int)) 0 0 false b_1 (none ) 0 0 _ rfl h hp

/-! (*embrasure/rtt.Meter).Way (11) -/
def rtt_Meter_Way_wp (mean : Int) (dev : Int) (any : Bool) (K : Int → Prop) : Prop :=
  K (IntKind.wrap .i64 (Int.tdiv mean 8))
theorem rtt_Meter_Way_ok {b_1 : Nat} {p_1 : Option Addr} {n_1 : Nat} {c_1 : Nat} {mean : Int} {dev : Int} {any : Bool} {FL : List HP} {w : World} {K : Int → Prop} {R : Value → World → Prop}
  (h : Mem (cel b_1 40 [(Value.slice p_1 n_1 c_1), (Value.int .i64 mean), (Value.int .i64 dev), (Value.bool any)] :: FL) w) (hp : rtt_Meter_Way_wp mean dev any K)
  (hR : ∀ (r : Int) (w : World), Mem (cel b_1 40 [(Value.slice p_1 n_1 c_1), (Value.int .i64 mean), (Value.int .i64 dev), (Value.bool any)] :: FL) w → K r → R (Value.int .i64 r) w) :
  CallV Try.prog 11 #[(Value.pointer (some (Addr.mk b_1 0 none)))] w R := by
  refine rtt_Meter_Way_call ?_
  unfold rtt_Meter_Way
  unfold rtt_Meter_Way_wp at hp
  refine ⟨_, rfl, ?_⟩
  refine ⟨_, cellL h 0 1 rfl rfl rfl, ?_⟩
  refine ⟨by decide, ?_⟩
  exact hR (IntKind.wrap .i64 (Int.tdiv mean 8)) _ h hp

/-! (*embrasure/rtt.Meter).Wait (12) -/
def rtt_Meter_Wait_wp (mean : Int) (dev : Int) (any : Bool) (K : Int → Prop) : Prop :=
  cond (!any) (K 20) (rtt_Meter_Way_wp mean dev any (fun (r : Int) => K (if (10000 : Int) < (if (2 : Int) > (IntKind.wrap .i64 (r + dev)) then 2 else (IntKind.wrap .i64 (r + dev))) then 10000 else (if (2 : Int) > (IntKind.wrap .i64 (r + dev)) then 2 else (IntKind.wrap .i64 (r + dev))))))
theorem rtt_Meter_Wait_ok {b_1 : Nat} {p_1 : Option Addr} {n_1 : Nat} {c_1 : Nat} {mean : Int} {dev : Int} {any : Bool} {FL : List HP} {w : World} {K : Int → Prop} {R : Value → World → Prop}
  (h : Mem (cel b_1 40 [(Value.slice p_1 n_1 c_1), (Value.int .i64 mean), (Value.int .i64 dev), (Value.bool any)] :: FL) w) (hp : rtt_Meter_Wait_wp mean dev any K)
  (hR : ∀ (r : Int) (w : World), Mem (cel b_1 40 [(Value.slice p_1 n_1 c_1), (Value.int .i64 mean), (Value.int .i64 dev), (Value.bool any)] :: FL) w → K r → R (Value.int .i64 r) w) :
  CallV Try.prog 12 #[(Value.pointer (some (Addr.mk b_1 0 none)))] w R := by
  refine rtt_Meter_Wait_call ?_
  unfold rtt_Meter_Wait
  unfold rtt_Meter_Wait_wp at hp
  refine ⟨_, rfl, ?_⟩
  refine ⟨_, cellL h 0 3 rfl rfl rfl, ?_⟩
  refine cond_both hp (fun hp => ?_) (fun hp => ?_)
  · exact hR 20 _ h hp
  replace h := h.drew
  refine ⟨fun w => Mem (cel b_1 40 [(Value.slice p_1 n_1 c_1), (Value.int .i64 mean), (Value.int .i64 dev), (Value.bool any)] :: FL) w, (h.sel [0] 0), ?_⟩
  refine ⟨_, rfl, ?_⟩
  refine ⟨_, cellL h 0 2 rfl rfl rfl, ?_⟩
  refine ⟨?_, ?_⟩
  · intro w h
    change Mem _ _ at h
    refine ⟨_, cellL h 0 2 rfl rfl rfl, ?_⟩
    exact ⟨rfl, rfl⟩
  refine rtt_Meter_Way_ok h hp ?_
  intro r w h hp
  refine ⟨_, rfl, ?_⟩
  refine ⟨(h.sel [0] 0), ?_⟩
  exact hR (if (10000 : Int) < (if (2 : Int) > (IntKind.wrap .i64 (r + dev)) then 2 else (IntKind.wrap .i64 (r + dev))) then 10000 else (if (2 : Int) > (IntKind.wrap .i64 (r + dev)) then 2 else (IntKind.wrap .i64 (r + dev)))) _ h hp

/-! (*embrasure/rtt.Meter).place$1 (18) -/
def rtt_Meter_place_c1_wp (x_no : Int) (x_at : Int) (t : Int) (K : Bool → Prop) : Prop :=
  K ((x_no : Int) == t)
theorem rtt_Meter_place_c1_ok {b_1 : Nat} {x_no : Int} {x_at : Int} {t : Int} {FL : List HP} {w : World} {K : Bool → Prop} {R : Value → World → Prop}
  (h : Mem (cel b_1 29 [(Value.int .u64 t)] :: FL) w) (hp : rtt_Meter_place_c1_wp x_no x_at t K)
  (hR : ∀ (r : Bool) (w : World), Mem (cel b_1 29 [(Value.int .u64 t)] :: FL) w → K r → R (Value.bool r) w) :
  CallV Try.prog 18 #[(Value.agg #[(Value.int .u64 x_no), (Value.int .i64 x_at)]), (Value.pointer (some (Addr.mk b_1 0 none)))] w R := by
  refine rtt_Meter_place_c1_call ?_
  unfold rtt_Meter_place_c1
  unfold rtt_Meter_place_c1_wp at hp
  refine newL (o := [(Value.int .u64 x_no), (Value.int .i64 x_at)]) h ?_
  intro b_2 w h
  refine ⟨_, cellL h 0 0 rfl rfl rfl, ?_⟩
  refine ⟨_, cellL h 1 0 rfl rfl rfl, ?_⟩
  replace h := h.sel [1] 1
  dsimp only [pickL, pickR, nthH, delH, dropH, List.cons_append, List.nil_append] at h
  exact hR ((x_no : Int) == t) _ h hp

/-! slices.IndexFunc[[]embrasure/rtt.mark,embrasure/rtt.mark] (17) -/
def slices_IndexFunc_sl_rtt_mark_rtt_mark_wp {σ1 : Type} (s : List (Int × Int)) (s_1 : σ1) (Y1 : (Int × Int) → σ1 → (Bool → σ1 → Prop) → Prop) (K : Int → σ1 → Prop) : Prop :=
  ∃ (I : Nat → Int → σ1 → Prop), (∃ (n_4 : Nat), I n_4 0 s_1) ∧ ∀ (n_2 : Nat) (t8 : Int) (s_3 : σ1), I n_2 t8 s_3 → (cond (decide ((t8 : Int) < ((s.length : Nat) : Int))) (0 ≤ (t8 : Int) ∧ (t8 : Int) < ((s.length : Nat) : Int) ∧ (∀ (x_1 : Int × Int), s[Int.toNat t8]? = some x_1 → (Y1 x_1 s_3 (fun (t16 : Bool) (s_4 : σ1) => cond t16 (K t8 s_4) (∃ (n_3 : Nat), n_3 < n_2 ∧ I n_3 (IntKind.wrap .i64 (t8 + 1)) s_4))))) (K (-1) s_3))
theorem slices_IndexFunc_sl_rtt_mark_rtt_mark_ok {σ1 : Type} {A1 : σ1 → HP} {p_1 : Option Addr} {n_1 : Nat} {c_1 : Nat} {fv1 : Value} {s : List (Int × Int)} {s_1 : σ1} {Y1 : (Int × Int) → σ1 → (Bool → σ1 → Prop) → Prop} {FL : List HP} {w : World} {K : Int → σ1 → Prop} {R : Value → World → Prop}
  (hY1 : ∀ (x0 : Int × Int) (s : σ1) (K : Bool → σ1 → Prop) (FL2 : List HP) (w : World) (R : Value → World → Prop), (∀ w, Mem FL2 w → Mem FL w) → Mem (A1 s :: FL2) w → Y1 x0 s K → (∀ (r : Bool) (s : σ1) (w : World), Mem (A1 s :: FL2) w → K r s → R (Value.bool r) w) → CalleeV Try.prog fv1 #[(Value.agg #[(Value.int .u64 x0.1), (Value.int .i64 x0.2)])] w R)
  (hF_s : ∀ w, Mem FL w → Rd w 2 p_1 enc44 s) (hl_s : n_1 = s.length) (hc_s : n_1 ≤ c_1)
  (h : Mem (A1 s_1 :: FL) w) (hp : slices_IndexFunc_sl_rtt_mark_rtt_mark_wp s s_1 Y1 K)
  (hR : ∀ (r : Int) (s_2 : σ1) (w : World), Mem (A1 s_2 :: FL) w → K r s_2 → R (Value.int .i64 r) w) :
  CallV Try.prog 17 #[(Value.slice p_1 n_1 c_1), fv1] w R := by
  refine slices_IndexFunc_sl_rtt_mark_rtt_mark_call ?_
  unfold slices_IndexFunc_sl_rtt_mark_rtt_mark
  unfold slices_IndexFunc_sl_rtt_mark_rtt_mark_wp at hp
  subst hl_s
  obtain ⟨I, ⟨n_4, h0⟩, hq⟩ := hp
  refine ⟨fun n_2 s0p s0l s0c f1 t7 t8 w => ∃ (s_3 : σ1), p_1 = s0p ∧ s.length = s0l ∧ c_1 = s0c ∧ fv1 = f1 ∧ ((s.length : Nat) : Int) = t7 ∧ I n_2 t8 s_3 ∧ Mem (A1 s_3 :: FL) w, ⟨n_4, s_1, rfl, rfl, rfl, rfl, rfl, h0, h⟩, ?_⟩
  clear h0 h
  rintro n_2 s0p s0l s0c f1 t7 t8 w ⟨s_3, rfl, rfl, rfl, rfl, rfl, hp, h⟩
  replace hp := hq n_2 t8 s_3 hp
  clear hq
  unfold slices_IndexFunc_sl_rtt_mark_rtt_mark_l1
  refine cond_both' hp (fun hp => ?_) (fun hp => ?_)
  · exact hR (-1) s_3 _ h hp
  obtain ⟨ia_1, ja_1, hp⟩ := hp
  obtain ⟨a_1, ha_1⟩ := rdAddr (hF_s _ (h.drop 1)) rfl ia_1 ja_1
  refine ⟨a_1, ha_1, ia_1, ja_1, ?_⟩
  obtain ⟨x_1, hx_1, hc⟩ := rdCell (hF_s _ (h.drop 1)) ha_1 rfl ia_1 ja_1
  replace hp := hp x_1 hx_1
  refine ⟨_, hc 0 _ rfl, _, hc 1 _ rfl, ?_⟩
  refine hY1 x_1 _ _ (FL) _ _ (fun _ h => Mem.drop 0 h) h hp ?_
  intro t16 s_4 w h hp
  refine ⟨_, rfl, ?_⟩
  refine cond_both hp (fun hp => ?_) (fun hp => ?_)
  · exact hR t8 s_4 _ h hp
  obtain ⟨n_3, hn, hp⟩ := hp
  exact ⟨n_3, hn, s_4, rfl, rfl, rfl, rfl, rfl, hp, h⟩

/-! (*embrasure/rtt.Meter).place (14) -/
def rtt_Meter_place_wp (marks : List (Int × Int)) (mean : Int) (dev : Int) (any : Bool) (no : Int) (K : Int → Prop) : Prop :=
  slices_IndexFunc_sl_rtt_mark_rtt_mark_wp marks () (fun x_1 s K_1 => rtt_Meter_place_c1_wp x_1.1 x_1.2 no (fun (r : Bool) => K_1 r s)) (fun (r : Int) (s_1 : (Unit)) => K r)
theorem rtt_Meter_place_ok {b_1 : Nat} {p_1 : Option Addr} {c_1 : Nat} {marks : List (Int × Int)} {mean : Int} {dev : Int} {any : Bool} {no : Int} {FL : List HP} {w : World} {K : Int → Prop} {R : Value → World → Prop}
  (h : Mem (cel b_1 40 [(Value.slice p_1 marks.length c_1), (Value.int .i64 mean), (Value.int .i64 dev), (Value.bool any)] :: row enc44 44 2 p_1 c_1 marks :: FL) w) (hp : rtt_Meter_place_wp marks mean dev any no K)
  (hR : ∀ (r : Int) (w : World), Mem (cel b_1 40 [(Value.slice p_1 marks.length c_1), (Value.int .i64 mean), (Value.int .i64 dev), (Value.bool any)] :: row enc44 44 2 p_1 c_1 marks :: FL) w → K r → R (Value.int .i64 r) w) :
  CallV Try.prog 14 #[(Value.pointer (some (Addr.mk b_1 0 none))), (Value.int .u64 no)] w R := by
  refine rtt_Meter_place_call ?_
  unfold rtt_Meter_place
  unfold rtt_Meter_place_wp at hp
  have cpp_1 := rowCap h 1 rfl
  refine newL (o := [(Value.int .u64 no)]) h ?_
  intro b_2 w h
  refine ⟨_, rfl, ?_⟩
  refine ⟨_, _, _, cellL h 1 0 rfl rfl rfl, ?_⟩
  replace h : Mem ((fun (_ : Unit) => HL [cel b_2 29 [(Value.int .u64 no)]]) () :: cel b_1 40 [(Value.slice p_1 marks.length c_1), (Value.int .i64 mean), (Value.int .i64 dev), (Value.bool any)] :: row enc44 44 2 p_1 c_1 marks :: FL) _ := h.pack 1 [cel b_2 29 [(Value.int .u64 no)]] rfl
  refine slices_IndexFunc_sl_rtt_mark_rtt_mark_ok (FL := cel b_1 40 [(Value.slice p_1 marks.length c_1), (Value.int .i64 mean), (Value.int .i64 dev), (Value.bool any)] :: row enc44 44 2 p_1 c_1 marks :: FL) (A1 := (fun (_ : Unit) => HL [cel b_2 29 [(Value.int .u64 no)]])) (Y1 := (fun x_1 s K_1 => rtt_Meter_place_c1_wp x_1.1 x_1.2 no (fun (r : Bool) => K_1 r s))) (σ1 := Unit) (s_1 := ()) ?_ (fun w h => (rowRd h 1 encL44 rfl)) rfl cpp_1 h hp ?_
  · intro x_1 s K FL2 w R hx h hp hR
    replace h := h.unpack
    dsimp only [pickL, pickR, nthH, delH, dropH, List.cons_append, List.nil_append] at h
    refine calleeFn (by kernel_rfl) ?_
    refine rtt_Meter_place_c1_ok h hp ?_
    intro r w h hp
    exact hR r s _ (h.pack 1 [cel b_2 29 [(Value.int .u64 no)]] rfl) hp
  intro r s_1 w h hp
  replace h := h.unpack
  dsimp only [pickL, pickR, nthH, delH, dropH, List.cons_append, List.nil_append] at h
  refine ⟨_, rfl, ?_⟩
  replace h := h.sel [1, 1] 1
  dsimp only [pickL, pickR, nthH, delH, dropH, List.cons_append, List.nil_append] at h
  exact hR r _ h hp

/-! (*embrasure/rtt.Meter).drop (15) -/
def rtt_Meter_drop_wp (marks : List (Int × Int)) (mean : Int) (dev : Int) (any : Bool) (i : Int) (K : List (Int × Int) → Prop) : Prop :=
  0 ≤ (i : Int) ∧ (i : Int) ≤ ((marks.length : Nat) : Int) ∧ 0 ≤ (i : Int) ∧ (i : Int) ≤ (i : Int) ∧ (0 ≤ ((IntKind.wrap .i64 (i + 1)) : Int) ∧ ((IntKind.wrap .i64 (i + 1)) : Int) ≤ ((marks.length : Nat) : Int) ∧ ((((marks.take (Int.toNat i)).drop 0).length + ((marks.take marks.length).drop (Int.toNat (IntKind.wrap .i64 (i + 1)))).length) * 16 ≤ 140737488355328 ∧ (K (((marks.take (Int.toNat i)).drop 0) ++ ((marks.take marks.length).drop (Int.toNat (IntKind.wrap .i64 (i + 1))))))))
theorem rtt_Meter_drop_ok {b_1 : Nat} {p_1 : Option Addr} {c_1 : Nat} {marks : List (Int × Int)} {mean : Int} {dev : Int} {any : Bool} {i : Int} {FL : List HP} {w : World} {K : List (Int × Int) → Prop} {R : Value → World → Prop}
  (h : Mem (cel b_1 40 [(Value.slice p_1 marks.length c_1), (Value.int .i64 mean), (Value.int .i64 dev), (Value.bool any)] :: row enc44 44 2 p_1 c_1 marks :: FL) w) (hp : rtt_Meter_drop_wp marks mean dev any i K)
  (hR : ∀ (marks_1 : List (Int × Int)) (p_2 : Option Addr) (n_1 : Nat) (c_2 : Nat) (w : World), n_1 = marks_1.length → Mem (cel b_1 40 [(Value.slice p_2 n_1 c_2), (Value.int .i64 mean), (Value.int .i64 dev), (Value.bool any)] :: row enc44 44 2 p_2 c_2 marks_1 :: FL) w → K marks_1 → R undef w) :
  CallV Try.prog 15 #[(Value.pointer (some (Addr.mk b_1 0 none))), (Value.int .i64 i)] w R := by
  refine rtt_Meter_drop_call ?_
  unfold rtt_Meter_drop
  unfold rtt_Meter_drop_wp at hp
  have cpp_1 := rowCap h 1 rfl
  replace h := h.drew
  refine ⟨_, rfl, ?_⟩
  refine ⟨_, _, _, cellL h 0 0 rfl rfl rfl, ?_⟩
  obtain ⟨g_1ma, g_1mb, g_1ha, g_1hb, hp⟩ := hp
  have vg_1_lh : 0 ≤ (Int.toNat i) := (Nat.zero_le _)
  have vg_1_hm : (Int.toNat i) ≤ (Int.toNat i) := (natLe2 g_1ha g_1ma g_1hb)
  have vg_1_mc : (Int.toNat i) ≤ c_1 := (Nat.le_trans (natLe g_1ma g_1mb) cpp_1)
  have vg_1_hl : (Int.toNat i) ≤ marks.length := (leLen g_1ha (Int.le_trans g_1hb g_1mb) rfl)
  refine ⟨g_1ma, (leCap g_1mb cpp_1), g_1ha, (leNat g_1ma g_1hb), ?_⟩
  refine ⟨_, rfl, ?_⟩
  refine ⟨_, _, _, cellL h 0 0 rfl rfl rfl, ?_⟩
  obtain ⟨g_2la, g_2lb, hp⟩ := hp
  have vg_2_lh : (Int.toNat (IntKind.wrap .i64 (i + 1))) ≤ marks.length := (natLe g_2la g_2lb)
  have vg_2_hm : marks.length ≤ c_1 := cpp_1
  have vg_2_mc : c_1 ≤ c_1 := (Nat.le_refl _)
  have vg_2_hl : marks.length ≤ marks.length := (Nat.le_of_eq rfl)
  refine ⟨g_2la, g_2lb, ?_⟩
  have sr := (Rd.view (rowRd h 1 encL44 rfl) (l := (Int.toNat (IntKind.wrap .i64 (i + 1)))) (h := marks.length) (m := c_1) vg_2_hm)
  replace h := rowShrink h 1 encL44 rfl (l := 0) (hi := (Int.toNat i)) (m := (Int.toNat i)) vg_1_lh vg_1_hm vg_1_mc vg_1_hl
  dsimp only [setH, setVs, setV] at h
  obtain ⟨hb, hp⟩ := hp
  refine appendL slt38 und38 encL44 encO44 h 1 rfl (viewLen vg_1_hl) sr (viewLen vg_2_hl) hb ?_
  intro p_3 c_3 w h
  dsimp only [setH, setVs, setV] at h
  have cpp_3 := rowCap h 1 rfl
  refine ⟨_, _, _, rfl, ?_⟩
  refine ⟨_, rfl, ?_⟩
  refine storeL (ys := [(Value.slice p_3 (((marks.take (Int.toNat i)).drop 0) ++ ((marks.take marks.length).drop (Int.toNat (IntKind.wrap .i64 (i + 1))))).length c_3)]) h 0 0 rfl rfl rfl sz38 rfl rfl ?_
  intro w h
  dsimp only [setH, setVs, setV] at h
  exact hR (((marks.take (Int.toNat i)).drop 0) ++ ((marks.take marks.length).drop (Int.toNat (IntKind.wrap .i64 (i + 1))))) p_3 ((((marks.take (Int.toNat i)).drop 0) ++ ((marks.take marks.length).drop (Int.toNat (IntKind.wrap .i64 (i + 1))))).length) c_3 _ rfl h hp

/-! (*embrasure/rtt.Meter).Sent (9) -/
def rtt_Meter_Sent_wp (marks : List (Int × Int)) (mean : Int) (dev : Int) (any : Bool) (now : Int) (no : Int) (K : Int → List (Int × Int) → Prop) : Prop :=
  joinP1 (fun (t13 : Bool) => cond t13 (K 1 marks) (joinP1 (fun (marks_2 : List (Int × Int)) => (marks_2.length + [(no, now)].length) * 16 ≤ 140737488355328 ∧ (cond (decide (((((marks_2 ++ [(no, now)]).length : Nat) : Int) : Int) > 30)) (rtt_Meter_drop_wp (marks_2 ++ [(no, now)]) mean dev any 0 (fun (marks_3 : List (Int × Int)) => K 0 marks_3)) (K 0 (marks_2 ++ [(no, now)])))) (fun (Q_1 : List (Int × Int) → Prop) => rtt_Meter_place_wp marks mean dev any no (fun (r : Int) => cond (decide ((r : Int) ≥ 0)) (rtt_Meter_drop_wp marks mean dev any r (fun (marks_4 : List (Int × Int)) => Q_1 marks_4)) (Q_1 marks))))) (fun (Q : Bool → Prop) => cond (decide ((now : Int) < 0)) (Q true) (Q (decide ((now : Int) > 1099511627776))))
theorem rtt_Meter_Sent_ok {b_1 : Nat} {p_1 : Option Addr} {c_1 : Nat} {marks : List (Int × Int)} {mean : Int} {dev : Int} {any : Bool} {now : Int} {no : Int} {FL : List HP} {w : World} {K : Int → List (Int × Int) → Prop} {R : Value → World → Prop}
  (h : Mem (cel b_1 40 [(Value.slice p_1 marks.length c_1), (Value.int .i64 mean), (Value.int .i64 dev), (Value.bool any)] :: row enc44 44 2 p_1 c_1 marks :: FL) w) (hp : rtt_Meter_Sent_wp marks mean dev any now no K)
  (hR : ∀ (r : Int) (marks_1 : List (Int × Int)) (p_2 : Option Addr) (n_1 : Nat) (c_2 : Nat) (w : World), n_1 = marks_1.length → Mem (cel b_1 40 [(Value.slice p_2 n_1 c_2), (Value.int .i64 mean), (Value.int .i64 dev), (Value.bool any)] :: row enc44 44 2 p_2 c_2 marks_1 :: FL) w → K r marks_1 → R (Value.int .i64 r) w) :
  CallV Try.prog 9 #[(Value.pointer (some (Addr.mk b_1 0 none))), (Value.int .i64 now), (Value.int .u64 no)] w R := by
  refine rtt_Meter_Sent_call ?_
  unfold rtt_Meter_Sent
  unfold rtt_Meter_Sent_wp at hp
  have cpp_1 := rowCap h 1 rfl
  obtain ⟨Q, hq, hp⟩ := hp
  refine ⟨fun m0 now1 no2 t13 w => (some (Addr.mk b_1 0 none)) = m0 ∧ now = now1 ∧ no = no2 ∧ Q t13 ∧ Mem (cel b_1 40 [(Value.slice p_1 marks.length c_1), (Value.int .i64 mean), (Value.int .i64 dev), (Value.bool any)] :: row enc44 44 2 p_1 c_1 marks :: FL) w, ?_, ?_⟩
  · rintro m0 now1 no2 t13 w ⟨rfl, rfl, rfl, hp, h⟩
    replace hp := hq t13 hp
    unfold rtt_Meter_Sent_j1
    refine cond_both hp (fun hp => ?_) (fun hp => ?_)
    · exact hR 1 marks p_1 marks.length c_1 _ rfl h hp
    obtain ⟨Q_1, hq, hp⟩ := hp
    refine ⟨fun m0_1 now1_1 no2_1 w => ∃ (marks_2 : List (Int × Int)), ∃ (p_3 : Option Addr), ∃ (n_2 : Nat), ∃ (c_3 : Nat), (some (Addr.mk b_1 0 none)) = m0_1 ∧ now = now1_1 ∧ no = no2_1 ∧ n_2 = marks_2.length ∧ Q_1 marks_2 ∧ Mem (cel b_1 40 [(Value.slice p_3 n_2 c_3), (Value.int .i64 mean), (Value.int .i64 dev), (Value.bool any)] :: row enc44 44 2 p_3 c_3 marks_2 :: FL) w, ?_, ?_⟩
    · rintro m0_1 now1_1 no2_1 w ⟨marks_2, p_3, n_2, c_3, rfl, rfl, rfl, rfl, hp, h⟩
      replace hp := hq marks_2 hp
      unfold rtt_Meter_Sent_j2
      have cpp_3 := rowCap h 1 rfl
      refine ⟨_, rfl, ?_⟩
      refine ⟨_, _, _, cellL h 0 0 rfl rfl rfl, ?_⟩
      refine newL (o := [(Value.int .u64 no), (Value.int .i64 now)]) h ?_
      intro b_2 w h
      have sr := (celRd h 0 encL44 rfl [(no, now)] rfl)
      obtain ⟨hb, hp⟩ := hp
      refine appendL slt38 und38 encL44 encO44 h 2 rfl rfl sr rfl hb ?_
      intro p_4 c_4 w h
      dsimp only [setH, setVs, setV] at h
      have cpp_4 := rowCap h 2 rfl
      refine ⟨_, _, _, rfl, ?_⟩
      refine ⟨_, rfl, ?_⟩
      refine storeL (ys := [(Value.slice p_4 (marks_2 ++ [(no, now)]).length c_4)]) h 1 0 rfl rfl rfl sz38 rfl rfl ?_
      intro w h
      dsimp only [setH, setVs, setV] at h
      refine ⟨_, rfl, ?_⟩
      refine ⟨_, _, _, cellL h 1 0 rfl rfl rfl, ?_⟩
      refine cond_both' hp (fun hp => ?_) (fun hp => ?_)
      · replace h := h.sel [1, 1] 1
        dsimp only [pickL, pickR, nthH, delH, dropH, List.cons_append, List.nil_append] at h
        exact hR 0 (marks_2 ++ [(no, now)]) p_4 ((marks_2 ++ [(no, now)]).length) c_4 _ rfl h hp
      replace h := h.pick [1, 1]
      dsimp only [pickL, pickR, nthH, delH, dropH, List.cons_append, List.nil_append] at h
      refine rtt_Meter_drop_ok h hp ?_
      rintro marks_3 p_5 n_3 c_5 w rfl h hp
      have cpp_5 := rowCap h 1 rfl
      refine ⟨rfl, ?_⟩
      replace h := h.sel [0, 0] 1
      dsimp only [pickL, pickR, nthH, delH, dropH, List.cons_append, List.nil_append] at h
      exact hR 0 marks_3 p_5 marks_3.length c_5 _ rfl h hp
    clear hq
    refine rtt_Meter_place_ok h hp ?_
    intro r w h hp
    have cpp_1 := rowCap h 1 rfl
    refine ⟨_, rfl, ?_⟩
    refine cond_both' hp (fun hp => ?_) (fun hp => ?_)
    · exact ⟨marks, p_1, marks.length, c_1, rfl, rfl, rfl, rfl, hp, h⟩
    refine rtt_Meter_drop_ok h hp ?_
    rintro marks_4 p_6 n_4 c_6 w rfl h hp
    have cpp_6 := rowCap h 1 rfl
    refine ⟨rfl, ?_⟩
    exact ⟨marks_4, p_6, marks_4.length, c_6, rfl, rfl, rfl, rfl, hp, h⟩
  clear hq
  refine cond_both hp (fun hp => ?_) (fun hp => ?_)
  · exact ⟨rfl, rfl, rfl, hp, h⟩
  exact ⟨rfl, rfl, rfl, hp, h⟩

/-! embrasure/rtt.abs (19) -/
def rtt_abs_wp (n_1 : Int) (K : Int → Prop) : Prop :=
  K (if ((IntKind.wrap .i64 (0 - n_1)) : Int) > n_1 then (IntKind.wrap .i64 (0 - n_1)) else n_1)
theorem rtt_abs_ok {n_1 : Int} {FL : List HP} {w : World} {K : Int → Prop} {R : Value → World → Prop}
  (h : Mem (FL) w) (hp : rtt_abs_wp n_1 K)
  (hR : ∀ (r : Int) (w : World), Mem (FL) w → K r → R (Value.int .i64 r) w) :
  CallV Try.prog 19 #[(Value.int .i64 n_1)] w R := by
  refine rtt_abs_call ?_
  unfold rtt_abs
  unfold rtt_abs_wp at hp
  exact hR (if ((IntKind.wrap .i64 (0 - n_1)) : Int) > n_1 then (IntKind.wrap .i64 (0 - n_1)) else n_1) _ h hp

/-! (*embrasure/rtt.Meter).sample (16) -/
def rtt_Meter_sample_wp (mean : Int) (dev : Int) (any : Bool) (s : Int) (K : Int → Int → Bool → Prop) : Prop :=
  cond (!any) (K (IntKind.wrap .i64 (8 * s)) (IntKind.wrap .i64 (2 * s)) true) (rtt_abs_wp (IntKind.wrap .i64 (s - (IntKind.wrap .i64 (Int.tdiv mean 8)))) (fun (r : Int) => K (IntKind.wrap .i64 (mean + (IntKind.wrap .i64 (s - (IntKind.wrap .i64 (Int.tdiv mean 8)))))) (IntKind.wrap .i64 (dev + (IntKind.wrap .i64 (r - (IntKind.wrap .i64 (Int.tdiv dev 4)))))) any))
theorem rtt_Meter_sample_ok {b_1 : Nat} {p_1 : Option Addr} {n_1 : Nat} {c_1 : Nat} {mean : Int} {dev : Int} {any : Bool} {s : Int} {FL : List HP} {w : World} {K : Int → Int → Bool → Prop} {R : Value → World → Prop}
  (h : Mem (cel b_1 40 [(Value.slice p_1 n_1 c_1), (Value.int .i64 mean), (Value.int .i64 dev), (Value.bool any)] :: FL) w) (hp : rtt_Meter_sample_wp mean dev any s K)
  (hR : ∀ (mean_1 : Int) (dev_1 : Int) (any_1 : Bool) (w : World), Mem (cel b_1 40 [(Value.slice p_1 n_1 c_1), (Value.int .i64 mean_1), (Value.int .i64 dev_1), (Value.bool any_1)] :: FL) w → K mean_1 dev_1 any_1 → R undef w) :
  CallV Try.prog 16 #[(Value.pointer (some (Addr.mk b_1 0 none))), (Value.int .i64 s)] w R := by
  refine rtt_Meter_sample_call ?_
  unfold rtt_Meter_sample
  unfold rtt_Meter_sample_wp at hp
  refine ⟨_, rfl, ?_⟩
  refine ⟨_, cellL h 0 3 rfl rfl rfl, ?_⟩
  refine cond_both hp (fun hp => ?_) (fun hp => ?_)
  · refine ⟨_, rfl, ?_⟩
    refine storeL (ys := [(Value.int .i64 (IntKind.wrap .i64 (8 * s)))]) h 0 1 rfl rfl rfl sz3 rfl rfl ?_
    intro w h
    dsimp only [setH, setVs, setV] at h
    refine ⟨_, rfl, ?_⟩
    refine storeL (ys := [(Value.int .i64 (IntKind.wrap .i64 (2 * s)))]) h 0 2 rfl rfl rfl sz3 rfl rfl ?_
    intro w h
    dsimp only [setH, setVs, setV] at h
    refine ⟨_, rfl, ?_⟩
    refine storeL (ys := [(Value.bool true)]) h 0 3 rfl rfl rfl sz4 rfl rfl ?_
    intro w h
    dsimp only [setH, setVs, setV] at h
    exact hR (IntKind.wrap .i64 (8 * s)) (IntKind.wrap .i64 (2 * s)) true _ h hp
  refine ⟨_, rfl, ?_⟩
  refine ⟨_, cellL h 0 1 rfl rfl rfl, ?_⟩
  refine ⟨by decide, ?_⟩
  replace h := h.drew
  refine ⟨fun w => Mem (cel b_1 40 [(Value.slice p_1 n_1 c_1), (Value.int .i64 mean), (Value.int .i64 dev), (Value.bool any)] :: FL) w, (h.sel [0] 0), ?_⟩
  refine ⟨_, rfl, ?_⟩
  refine ⟨_, cellL h 0 2 rfl rfl rfl, ?_⟩
  refine ⟨?_, ?_⟩
  · intro w h
    change Mem _ _ at h
    refine ⟨_, cellL h 0 2 rfl rfl rfl, ?_⟩
    exact ⟨rfl, rfl⟩
  refine ⟨_, rfl, ?_⟩
  refine ⟨_, cellL h 0 2 rfl rfl rfl, ?_⟩
  refine ⟨?_, ?_⟩
  · intro w h
    change Mem _ _ at h
    refine ⟨_, cellL h 0 2 rfl rfl rfl, ?_⟩
    exact ⟨rfl, rfl⟩
  refine ⟨by decide, ?_⟩
  refine rtt_abs_ok h hp ?_
  intro r w h hp
  refine ⟨_, rfl, ?_⟩
  refine ⟨(h.sel [0] 0), ?_⟩
  refine ⟨_, rfl, ?_⟩
  refine storeL (ys := [(Value.int .i64 (IntKind.wrap .i64 (dev + (IntKind.wrap .i64 (r - (IntKind.wrap .i64 (Int.tdiv dev 4)))))))]) h 0 2 rfl rfl rfl sz3 rfl rfl ?_
  intro w h
  dsimp only [setH, setVs, setV] at h
  refine ⟨_, rfl, ?_⟩
  refine ⟨_, cellL h 0 1 rfl rfl rfl, ?_⟩
  refine ⟨_, rfl, ?_⟩
  refine storeL (ys := [(Value.int .i64 (IntKind.wrap .i64 (mean + (IntKind.wrap .i64 (s - (IntKind.wrap .i64 (Int.tdiv mean 8)))))))]) h 0 1 rfl rfl rfl sz3 rfl rfl ?_
  intro w h
  dsimp only [setH, setVs, setV] at h
  exact hR (IntKind.wrap .i64 (mean + (IntKind.wrap .i64 (s - (IntKind.wrap .i64 (Int.tdiv mean 8)))))) (IntKind.wrap .i64 (dev + (IntKind.wrap .i64 (r - (IntKind.wrap .i64 (Int.tdiv dev 4)))))) any _ h hp

/-! (*embrasure/rtt.Meter).Got (10) -/
def rtt_Meter_Got_wp (marks : List (Int × Int)) (mean : Int) (dev : Int) (any : Bool) (now : Int) (no : Int) (K : Int → Int → List (Int × Int) → Int → Int → Bool → Prop) : Prop :=
  rtt_Meter_place_wp marks mean dev any no (fun (r : Int) => cond (decide ((r : Int) < 0)) (K 0 5 marks mean dev any) (joinP1 (fun (t16 : Bool) => cond t16 (K 0 1 marks mean dev any) (0 ≤ (r : Int) ∧ (r : Int) < ((marks.length : Nat) : Int) ∧ (∀ (x_1 : Int × Int), marks[Int.toNat r]? = some x_1 → (rtt_Meter_drop_wp marks mean dev any r (fun (marks_2 : List (Int × Int)) => rtt_Meter_sample_wp mean dev any (if (10000 : Int) < (IntKind.wrap .i64 (now - x_1.2)) then 10000 else (IntKind.wrap .i64 (now - x_1.2))) (fun (mean_2 : Int) (dev_2 : Int) (any_2 : Bool) => K (if (10000 : Int) < (IntKind.wrap .i64 (now - x_1.2)) then 10000 else (IntKind.wrap .i64 (now - x_1.2))) 0 marks_2 mean_2 dev_2 any_2)))))) (fun (Q : Bool → Prop) => 0 ≤ (r : Int) ∧ (r : Int) < ((marks.length : Nat) : Int) ∧ (∀ (x_2 : Int × Int), marks[Int.toNat r]? = some x_2 → (cond (decide ((now : Int) < x_2.2)) (Q true) (Q (decide ((now : Int) > 1099511627776))))))))
theorem rtt_Meter_Got_ok {b_1 : Nat} {p_1 : Option Addr} {c_1 : Nat} {marks : List (Int × Int)} {mean : Int} {dev : Int} {any : Bool} {now : Int} {no : Int} {FL : List HP} {w : World} {K : Int → Int → List (Int × Int) → Int → Int → Bool → Prop} {R : Value → World → Prop}
  (h : Mem (cel b_1 40 [(Value.slice p_1 marks.length c_1), (Value.int .i64 mean), (Value.int .i64 dev), (Value.bool any)] :: row enc44 44 2 p_1 c_1 marks :: FL) w) (hp : rtt_Meter_Got_wp marks mean dev any now no K)
  (hR : ∀ (r : Int) (r_1 : Int) (marks_1 : List (Int × Int)) (mean_1 : Int) (dev_1 : Int) (any_1 : Bool) (p_2 : Option Addr) (n_1 : Nat) (c_2 : Nat) (w : World), n_1 = marks_1.length → Mem (cel b_1 40 [(Value.slice p_2 n_1 c_2), (Value.int .i64 mean_1), (Value.int .i64 dev_1), (Value.bool any_1)] :: row enc44 44 2 p_2 c_2 marks_1 :: FL) w → K r r_1 marks_1 mean_1 dev_1 any_1 → R (Value.tuple #[(Value.int .i64 r), (Value.int .i64 r_1)]) w) :
  CallV Try.prog 10 #[(Value.pointer (some (Addr.mk b_1 0 none))), (Value.int .i64 now), (Value.int .u64 no)] w R := by
  refine rtt_Meter_Got_call ?_
  unfold rtt_Meter_Got
  unfold rtt_Meter_Got_wp at hp
  have cpp_1 := rowCap h 1 rfl
  refine rtt_Meter_place_ok h hp ?_
  intro r w h hp
  have cpp_1 := rowCap h 1 rfl
  refine ⟨_, rfl, ?_⟩
  refine cond_both hp (fun hp => ?_) (fun hp => ?_)
  · exact hR 0 5 marks mean dev any p_1 marks.length c_1 _ rfl h hp
  obtain ⟨Q, hq, hp⟩ := hp
  refine ⟨fun m0 now1 i8 t16 w => (some (Addr.mk b_1 0 none)) = m0 ∧ now = now1 ∧ r = i8 ∧ Q t16 ∧ Mem (cel b_1 40 [(Value.slice p_1 marks.length c_1), (Value.int .i64 mean), (Value.int .i64 dev), (Value.bool any)] :: row enc44 44 2 p_1 c_1 marks :: FL) w, ?_, ?_⟩
  · rintro m0 now1 i8 t16 w ⟨rfl, rfl, rfl, hp, h⟩
    replace hp := hq t16 hp
    unfold rtt_Meter_Got_j1
    refine cond_both hp (fun hp => ?_) (fun hp => ?_)
    · exact hR 0 1 marks mean dev any p_1 marks.length c_1 _ rfl h hp
    refine ⟨_, rfl, ?_⟩
    refine ⟨_, _, _, cellL h 0 0 rfl rfl rfl, ?_⟩
    obtain ⟨ia_1, ja_1, hp⟩ := hp
    obtain ⟨a_1, ha_1⟩ := rdAddr (rowRd h 1 encL44 rfl) rfl ia_1 ja_1
    refine ⟨a_1, ha_1, ia_1, ja_1, ?_⟩
    obtain ⟨x_1, hx_1, hc⟩ := rdCell (rowRd h 1 encL44 rfl) ha_1 rfl ia_1 ja_1
    replace hp := hp x_1 hx_1
    refine ⟨_, hc 1 _ rfl, ?_⟩
    refine rtt_Meter_drop_ok h hp ?_
    rintro marks_2 p_3 n_2 c_3 w rfl h hp
    have cpp_3 := rowCap h 1 rfl
    refine ⟨rfl, ?_⟩
    refine rtt_Meter_sample_ok h hp ?_
    intro mean_2 dev_2 any_2 w h hp
    refine ⟨rfl, ?_⟩
    exact hR (if (10000 : Int) < (IntKind.wrap .i64 (now - x_1.2)) then 10000 else (IntKind.wrap .i64 (now - x_1.2))) 0 marks_2 mean_2 dev_2 any_2 p_3 marks_2.length c_3 _ rfl h hp
  clear hq
  refine ⟨_, rfl, ?_⟩
  refine ⟨_, _, _, cellL h 0 0 rfl rfl rfl, ?_⟩
  obtain ⟨ia_2, ja_2, hp⟩ := hp
  obtain ⟨a_2, ha_2⟩ := rdAddr (rowRd h 1 encL44 rfl) rfl ia_2 ja_2
  refine ⟨a_2, ha_2, ia_2, ja_2, ?_⟩
  obtain ⟨x_2, hx_2, hc⟩ := rdCell (rowRd h 1 encL44 rfl) ha_2 rfl ia_2 ja_2
  replace hp := hp x_2 hx_2
  refine ⟨_, hc 1 _ rfl, ?_⟩
  refine cond_both hp (fun hp => ?_) (fun hp => ?_)
  · exact ⟨rfl, rfl, rfl, hp, h⟩
  exact ⟨rfl, rfl, rfl, hp, h⟩

/-! embrasure/embrasurelaw26.awake (7) -/
def embrasurelaw26_awake_wp  (K : Bool → Prop) : Prop :=
  rtt_New_wp (fun (marks : List (Int × Int)) (mean : Int) (dev : Int) (any : Bool) => cond (false) (K false) (rtt_Meter_Wait_wp mean dev any (fun (r : Int) => rtt_Meter_Sent_wp marks mean dev any 5 1 (fun (r_1 : Int) (marks_1 : List (Int × Int)) => rtt_Meter_Got_wp marks_1 mean dev any 25 1 (fun (r_2 : Int) (r_3 : Int) (marks_2 : List (Int × Int)) (mean_1 : Int) (dev_1 : Int) (any_1 : Bool) => rtt_Meter_Got_wp marks_2 mean_1 dev_1 any_1 25 1 (fun (r_4 : Int) (r_5 : Int) (marks_3 : List (Int × Int)) (mean_2 : Int) (dev_2 : Int) (any_2 : Bool) => cond ((r : Int) == 20) (cond ((r_2 : Int) == 20) (cond ((r_3 : Int) == 0) (cond ((r_5 : Int) == 5) (rtt_Meter_Way_wp mean_2 dev_2 any_2 (fun (r_6 : Int) => cond ((r_6 : Int) == 20) (rtt_Meter_Wait_wp mean_2 dev_2 any_2 (fun (r_7 : Int) => K ((r_7 : Int) == 60))) (K false))) (K false)) (K false)) (K false)) (K false)))))))
theorem embrasurelaw26_awake_ok  {FL : List HP} {w : World} {K : Bool → Prop} {R : Value → World → Prop}
  (h : Mem (FL) w) (hp : embrasurelaw26_awake_wp  K)
  (hR : ∀ (r : Bool) (w : World), Mem (FL) w → K r → R (Value.bool r) w) :
  CallV Try.prog 7 #[] w R := by
  refine embrasurelaw26_awake_call ?_
  unfold embrasurelaw26_awake
  unfold embrasurelaw26_awake_wp at hp
  refine rtt_New_ok h hp ?_
  rintro marks mean dev any b_1 p_1 n_1 c_1 w rfl h hp
  have cpp_1 := rowCap h 1 rfl
  refine ⟨_, rfl, ?_⟩
  refine eqlPtrNil undP24 ?_
  refine ⟨_, rfl, ?_⟩
  refine cond_both hp (fun hp => ?_) (fun hp => ?_)
  · replace h := h.sel [] 2
    dsimp only [pickL, pickR, nthH, delH, dropH, List.cons_append, List.nil_append] at h
    exact hR false _ h hp
  refine rtt_Meter_Wait_ok h hp ?_
  intro r w h hp
  refine ⟨_, rfl, ?_⟩
  refine rtt_Meter_Sent_ok h hp ?_
  rintro r_1 marks_1 p_2 n_2 c_2 w rfl h hp
  have cpp_2 := rowCap h 1 rfl
  refine ⟨_, rfl, ?_⟩
  refine rtt_Meter_Got_ok h hp ?_
  rintro r_2 r_3 marks_2 mean_1 dev_1 any_1 p_3 n_3 c_3 w rfl h hp
  have cpp_3 := rowCap h 1 rfl
  refine ⟨_, _, rfl, ?_⟩
  refine rtt_Meter_Got_ok h hp ?_
  rintro r_4 r_5 marks_3 mean_2 dev_2 any_2 p_4 n_4 c_4 w rfl h hp
  have cpp_4 := rowCap h 1 rfl
  refine ⟨_, _, rfl, ?_⟩
  refine cond_both' hp (fun hp => ?_) (fun hp => ?_)
  · replace h := h.sel [] 2
    dsimp only [pickL, pickR, nthH, delH, dropH, List.cons_append, List.nil_append] at h
    exact hR false _ h hp
  refine cond_both' hp (fun hp => ?_) (fun hp => ?_)
  · replace h := h.sel [] 2
    dsimp only [pickL, pickR, nthH, delH, dropH, List.cons_append, List.nil_append] at h
    exact hR false _ h hp
  refine cond_both' hp (fun hp => ?_) (fun hp => ?_)
  · replace h := h.sel [] 2
    dsimp only [pickL, pickR, nthH, delH, dropH, List.cons_append, List.nil_append] at h
    exact hR false _ h hp
  refine cond_both' hp (fun hp => ?_) (fun hp => ?_)
  · replace h := h.sel [] 2
    dsimp only [pickL, pickR, nthH, delH, dropH, List.cons_append, List.nil_append] at h
    exact hR false _ h hp
  refine rtt_Meter_Way_ok h hp ?_
  intro r_6 w h hp
  refine ⟨_, rfl, ?_⟩
  refine cond_both' hp (fun hp => ?_) (fun hp => ?_)
  · replace h := h.sel [] 2
    dsimp only [pickL, pickR, nthH, delH, dropH, List.cons_append, List.nil_append] at h
    exact hR false _ h hp
  refine rtt_Meter_Wait_ok h hp ?_
  intro r_7 w h hp
  refine ⟨_, rfl, ?_⟩
  replace h := h.sel [] 2
  dsimp only [pickL, pickR, nthH, delH, dropH, List.cons_append, List.nil_append] at h
  exact hR ((r_7 : Int) == 60) _ h hp

/-! embrasure/embrasurelaw26.RttBounds (3) -/
def embrasurelaw26_RttBounds_wp (samples : List (Int)) (K : Bool → Prop) : Prop :=
  embrasurelaw26_awake_wp (fun (r : Bool) => cond (!r) (K false) (rtt_New_wp (fun (marks : List (Int × Int)) (mean : Int) (dev : Int) (any : Bool) => ∃ (I : Nat → List (Int × Int) → Int → Int → Bool → Int → Int → Int → Prop), (∃ (n_8 : Nat), I n_8 marks mean dev any 1048576 0 0) ∧ ∀ (n_4 : Nat) (marks_1 : List (Int × Int)) (mean_1 : Int) (dev_1 : Int) (any_1 : Bool) (least4 : Int) (greatest5 : Int) (i6 : Int), I n_4 marks_1 mean_1 dev_1 any_1 least4 greatest5 i6 → (joinP1 (fun (t18 : Bool) => cond t18 (0 ≤ (i6 : Int) ∧ (i6 : Int) < ((samples.length : Nat) : Int) ∧ (∀ (x_1 : Int), samples[Int.toNat i6]? = some x_1 → (rtt_Meter_Sent_wp marks_1 mean_1 dev_1 any_1 0 7 (fun (r_1 : Int) (marks_2 : List (Int × Int)) => rtt_Meter_Got_wp marks_2 mean_1 dev_1 any_1 (Int.tmod (IntKind.wrap .i64 x_1) 10001) 7 (fun (r_2 : Int) (r_3 : Int) (marks_3 : List (Int × Int)) (mean_2 : Int) (dev_2 : Int) (any_2 : Bool) => joinP1 (fun (t57 : Bool) => cond t57 (K false) (∃ (n_7 : Nat), n_7 < n_4 ∧ I n_7 marks_3 mean_2 dev_2 any_2 (if ((Int.tmod (IntKind.wrap .i64 x_1) 10001) : Int) < least4 then (Int.tmod (IntKind.wrap .i64 x_1) 10001) else least4) (if ((Int.tmod (IntKind.wrap .i64 x_1) 10001) : Int) > greatest5 then (Int.tmod (IntKind.wrap .i64 x_1) 10001) else greatest5) (IntKind.wrap .i64 (i6 + 1)))) (fun (Q_1 : Bool → Prop) => rtt_Meter_Way_wp mean_2 dev_2 any_2 (fun (r_4 : Int) => cond (decide ((r_4 : Int) < (if ((Int.tmod (IntKind.wrap .i64 x_1) 10001) : Int) < least4 then (Int.tmod (IntKind.wrap .i64 x_1) 10001) else least4))) (Q_1 true) (rtt_Meter_Way_wp mean_2 dev_2 any_2 (fun (r_5 : Int) => cond (decide ((r_5 : Int) > (if ((Int.tmod (IntKind.wrap .i64 x_1) 10001) : Int) > greatest5 then (Int.tmod (IntKind.wrap .i64 x_1) 10001) else greatest5))) (Q_1 true) (rtt_Meter_Wait_wp mean_2 dev_2 any_2 (fun (r_6 : Int) => cond (decide ((r_6 : Int) < 2)) (Q_1 true) (rtt_Meter_Wait_wp mean_2 dev_2 any_2 (fun (r_7 : Int) => Q_1 (decide ((r_7 : Int) > 10000))))))))))))))) (K true)) (fun (Q : Bool → Prop) => cond (decide ((i6 : Int) < ((samples.length : Nat) : Int))) (Q (decide ((i6 : Int) < 150))) (Q false))))))
theorem embrasurelaw26_RttBounds_ok {p_1 : Option Addr} {n_1 : Nat} {c_1 : Nat} {samples : List (Int)} {FL : List HP} {w : World} {K : Bool → Prop} {R : Value → World → Prop}
  (hF_samples : ∀ w, Mem FL w → Rd w 1 p_1 enc26 samples) (hl_samples : n_1 = samples.length) (hc_samples : n_1 ≤ c_1)
  (h : Mem (FL) w) (hp : embrasurelaw26_RttBounds_wp samples K)
  (hR : ∀ (r : Bool) (w : World), Mem (FL) w → K r → R (Value.bool r) w) :
  CallV Try.prog 3 #[(Value.slice p_1 n_1 c_1)] w R := by
  refine embrasurelaw26_RttBounds_call ?_
  unfold embrasurelaw26_RttBounds
  unfold embrasurelaw26_RttBounds_wp at hp
  subst hl_samples
  refine embrasurelaw26_awake_ok h hp ?_
  intro r w h hp
  refine ⟨_, rfl, ?_⟩
  refine cond_both hp (fun hp => ?_) (fun hp => ?_)
  · exact hR false _ h hp
  refine rtt_New_ok h hp ?_
  rintro marks mean dev any b_1 p_2 n_2 c_2 w rfl h hp
  have cpp_2 := rowCap h 1 rfl
  refine ⟨_, rfl, ?_⟩
  obtain ⟨I, ⟨n_8, h0⟩, hq⟩ := hp
  refine ⟨fun n_4 samples0p samples0l samples0c m3 least4 greatest5 i6 w => ∃ (marks_1 : List (Int × Int)), ∃ (p_3 : Option Addr), ∃ (n_3 : Nat), ∃ (c_3 : Nat), ∃ (mean_1 : Int), ∃ (dev_1 : Int), ∃ (any_1 : Bool), p_1 = samples0p ∧ samples.length = samples0l ∧ c_1 = samples0c ∧ (some (Addr.mk b_1 0 none)) = m3 ∧ n_3 = marks_1.length ∧ I n_4 marks_1 mean_1 dev_1 any_1 least4 greatest5 i6 ∧ Mem (cel b_1 40 [(Value.slice p_3 n_3 c_3), (Value.int .i64 mean_1), (Value.int .i64 dev_1), (Value.bool any_1)] :: row enc44 44 2 p_3 c_3 marks_1 :: FL) w, ⟨n_8, marks, p_2, marks.length, c_2, mean, dev, any, rfl, rfl, rfl, rfl, rfl, h0, h⟩, ?_⟩
  clear h0 h
  rintro n_4 samples0p samples0l samples0c m3 least4 greatest5 i6 w ⟨marks_1, p_3, n_3, c_3, mean_1, dev_1, any_1, rfl, rfl, rfl, rfl, rfl, hp, h⟩
  replace hp := hq n_4 marks_1 mean_1 dev_1 any_1 least4 greatest5 i6 hp
  clear hq
  unfold embrasurelaw26_RttBounds_l1
  have cpp_3 := rowCap h 1 rfl
  obtain ⟨Q, hq, hp⟩ := hp
  refine ⟨fun samples0_1p samples0_1l samples0_1c m3_1 least4_1 greatest5_1 i6_1 t18 w => p_1 = samples0_1p ∧ samples.length = samples0_1l ∧ c_1 = samples0_1c ∧ (some (Addr.mk b_1 0 none)) = m3_1 ∧ least4 = least4_1 ∧ greatest5 = greatest5_1 ∧ i6 = i6_1 ∧ Q t18 ∧ Mem (cel b_1 40 [(Value.slice p_3 marks_1.length c_3), (Value.int .i64 mean_1), (Value.int .i64 dev_1), (Value.bool any_1)] :: row enc44 44 2 p_3 c_3 marks_1 :: FL) w, ?_, ?_⟩
  · rintro samples0_1p samples0_1l samples0_1c m3_1 least4_1 greatest5_1 i6_1 t18 w ⟨rfl, rfl, rfl, rfl, rfl, rfl, rfl, hp, h⟩
    replace hp := hq t18 hp
    unfold embrasurelaw26_RttBounds_j2
    refine cond_both' hp (fun hp => ?_) (fun hp => ?_)
    · replace h := h.sel [] 2
      dsimp only [pickL, pickR, nthH, delH, dropH, List.cons_append, List.nil_append] at h
      exact hR true _ h hp
    obtain ⟨ia_1, ja_1, hp⟩ := hp
    obtain ⟨a_1, ha_1⟩ := rdAddr (hF_samples _ (h.drop 2)) rfl ia_1 ja_1
    refine ⟨a_1, ha_1, ia_1, ja_1, ?_⟩
    obtain ⟨x_1, hx_1, hc⟩ := rdCell0 (hF_samples _ (h.drop 2)) ha_1 rfl ia_1 ja_1
    replace hp := hp x_1 hx_1
    refine ⟨_, hc _ rfl, ?_⟩
    refine ⟨by decide, ?_⟩
    refine rtt_Meter_Sent_ok h hp ?_
    rintro r_1 marks_2 p_4 n_5 c_4 w rfl h hp
    have cpp_4 := rowCap h 1 rfl
    refine ⟨_, rfl, ?_⟩
    refine rtt_Meter_Got_ok h hp ?_
    rintro r_2 r_3 marks_3 mean_2 dev_2 any_2 p_5 n_6 c_5 w rfl h hp
    have cpp_5 := rowCap h 1 rfl
    refine ⟨_, _, rfl, ?_⟩
    obtain ⟨Q_1, hq, hp⟩ := hp
    refine ⟨fun samples0_2p samples0_2l samples0_2c m3_2 least4_2 greatest5_2 i6_2 t57 w => p_1 = samples0_2p ∧ samples.length = samples0_2l ∧ c_1 = samples0_2c ∧ (some (Addr.mk b_1 0 none)) = m3_2 ∧ (if ((Int.tmod (IntKind.wrap .i64 x_1) 10001) : Int) < least4 then (Int.tmod (IntKind.wrap .i64 x_1) 10001) else least4) = least4_2 ∧ (if ((Int.tmod (IntKind.wrap .i64 x_1) 10001) : Int) > greatest5 then (Int.tmod (IntKind.wrap .i64 x_1) 10001) else greatest5) = greatest5_2 ∧ i6 = i6_2 ∧ Q_1 t57 ∧ Mem (cel b_1 40 [(Value.slice p_5 marks_3.length c_5), (Value.int .i64 mean_2), (Value.int .i64 dev_2), (Value.bool any_2)] :: row enc44 44 2 p_5 c_5 marks_3 :: FL) w, ?_, ?_⟩
    · rintro samples0_2p samples0_2l samples0_2c m3_2 least4_2 greatest5_2 i6_2 t57 w ⟨rfl, rfl, rfl, rfl, rfl, rfl, rfl, hp, h⟩
      replace hp := hq t57 hp
      unfold embrasurelaw26_RttBounds_j3
      refine cond_both' hp (fun hp => ?_) (fun hp => ?_)
      · obtain ⟨n_7, hn, hp⟩ := hp
        exact ⟨n_7, hn, marks_3, p_5, marks_3.length, c_5, mean_2, dev_2, any_2, rfl, rfl, rfl, rfl, rfl, hp, h⟩
      replace h := h.sel [] 2
      dsimp only [pickL, pickR, nthH, delH, dropH, List.cons_append, List.nil_append] at h
      exact hR false _ h hp
    clear hq
    refine rtt_Meter_Way_ok h hp ?_
    intro r_4 w h hp
    refine ⟨_, rfl, ?_⟩
    refine cond_both hp (fun hp => ?_) (fun hp => ?_)
    · exact ⟨rfl, rfl, rfl, rfl, rfl, rfl, rfl, hp, h⟩
    refine rtt_Meter_Way_ok h hp ?_
    intro r_5 w h hp
    refine ⟨_, rfl, ?_⟩
    refine cond_both hp (fun hp => ?_) (fun hp => ?_)
    · exact ⟨rfl, rfl, rfl, rfl, rfl, rfl, rfl, hp, h⟩
    refine rtt_Meter_Wait_ok h hp ?_
    intro r_6 w h hp
    refine ⟨_, rfl, ?_⟩
    refine cond_both hp (fun hp => ?_) (fun hp => ?_)
    · exact ⟨rfl, rfl, rfl, rfl, rfl, rfl, rfl, hp, h⟩
    refine rtt_Meter_Wait_ok h hp ?_
    intro r_7 w h hp
    refine ⟨_, rfl, ?_⟩
    exact ⟨rfl, rfl, rfl, rfl, rfl, rfl, rfl, hp, h⟩
  clear hq
  refine cond_both hp (fun hp => ?_) (fun hp => ?_)
  · exact ⟨rfl, rfl, rfl, rfl, rfl, rfl, rfl, hp, h⟩
  exact ⟨rfl, rfl, rfl, rfl, rfl, rfl, rfl, hp, h⟩

/-! (*embrasure/rtt.Meter).Open (13) -/
def rtt_Meter_Open_wp (marks : List (Int × Int)) (mean : Int) (dev : Int) (any : Bool) (K : Int → Prop) : Prop :=
  K ((marks.length : Nat) : Int)
theorem rtt_Meter_Open_ok {b_1 : Nat} {p_1 : Option Addr} {c_1 : Nat} {marks : List (Int × Int)} {mean : Int} {dev : Int} {any : Bool} {FL : List HP} {w : World} {K : Int → Prop} {R : Value → World → Prop}
  (h : Mem (cel b_1 40 [(Value.slice p_1 marks.length c_1), (Value.int .i64 mean), (Value.int .i64 dev), (Value.bool any)] :: row enc44 44 2 p_1 c_1 marks :: FL) w) (hp : rtt_Meter_Open_wp marks mean dev any K)
  (hR : ∀ (r : Int) (w : World), Mem (cel b_1 40 [(Value.slice p_1 marks.length c_1), (Value.int .i64 mean), (Value.int .i64 dev), (Value.bool any)] :: row enc44 44 2 p_1 c_1 marks :: FL) w → K r → R (Value.int .i64 r) w) :
  CallV Try.prog 13 #[(Value.pointer (some (Addr.mk b_1 0 none)))] w R := by
  refine rtt_Meter_Open_call ?_
  unfold rtt_Meter_Open
  unfold rtt_Meter_Open_wp at hp
  have cpp_1 := rowCap h 1 rfl
  refine ⟨_, rfl, ?_⟩
  refine ⟨_, _, _, cellL h 0 0 rfl rfl rfl, ?_⟩
  exact hR ((marks.length : Nat) : Int) _ h hp

/-! embrasure/embrasurelaw26.RttSame (4) -/
def embrasurelaw26_RttSame_wp (s : Int) (many : Int) (K : Bool → Prop) : Prop :=
  embrasurelaw26_awake_wp (fun (r : Bool) => cond (!r) (K false) (rtt_New_wp (fun (marks : List (Int × Int)) (mean : Int) (dev : Int) (any : Bool) => ∃ (I : Nat → List (Int × Int) → Int → Int → Bool → Int → Int → Prop), (∃ (n_7 : Nat), I n_7 marks mean dev any 20000 0) ∧ ∀ (n_3 : Nat) (marks_1 : List (Int × Int)) (mean_1 : Int) (dev_1 : Int) (any_1 : Bool) (last7 : Int) (i8 : Int), I n_3 marks_1 mean_1 dev_1 any_1 last7 i8 → (cond (decide ((i8 : Int) < (IntKind.wrap .i64 (1 + (Int.tmod (IntKind.wrap .i64 many) 200))))) (rtt_Meter_Sent_wp marks_1 mean_1 dev_1 any_1 100 (IntKind.wrap .u64 i8) (fun (r_1 : Int) (marks_2 : List (Int × Int)) => rtt_Meter_Got_wp marks_2 mean_1 dev_1 any_1 (IntKind.wrap .i64 (100 + (Int.tmod (IntKind.wrap .i64 s) 10001))) (IntKind.wrap .u64 i8) (fun (r_2 : Int) (r_3 : Int) (marks_3 : List (Int × Int)) (mean_2 : Int) (dev_2 : Int) (any_2 : Bool) => joinP1 (fun (t68 : Bool) => cond t68 (K false) (rtt_Meter_Wait_wp mean_2 dev_2 any_2 (fun (r_4 : Int) => ∃ (n_6 : Nat), n_6 < n_3 ∧ I n_6 marks_3 mean_2 dev_2 any_2 r_4 (IntKind.wrap .i64 (i8 + 1))))) (fun (Q : Bool → Prop) => cond ((r_2 : Int) != (Int.tmod (IntKind.wrap .i64 s) 10001)) (Q true) (cond ((r_3 : Int) != 0) (Q true) (rtt_Meter_Way_wp mean_2 dev_2 any_2 (fun (r_5 : Int) => cond ((r_5 : Int) != (Int.tmod (IntKind.wrap .i64 s) 10001)) (Q true) (rtt_Meter_Wait_wp mean_2 dev_2 any_2 (fun (r_6 : Int) => cond (decide ((r_6 : Int) > last7)) (Q true) (rtt_Meter_Wait_wp mean_2 dev_2 any_2 (fun (r_7 : Int) => cond (decide ((r_7 : Int) < (if (10000 : Int) < (Int.tmod (IntKind.wrap .i64 s) 10001) then 10000 else (Int.tmod (IntKind.wrap .i64 s) 10001)))) (Q true) (rtt_Meter_Open_wp marks_3 mean_2 dev_2 any_2 (fun (r_8 : Int) => Q ((r_8 : Int) != 0)))))))))))))) (K true)))))
theorem embrasurelaw26_RttSame_ok {s : Int} {many : Int} {FL : List HP} {w : World} {K : Bool → Prop} {R : Value → World → Prop}
  (h : Mem (FL) w) (hp : embrasurelaw26_RttSame_wp s many K)
  (hR : ∀ (r : Bool) (w : World), Mem (FL) w → K r → R (Value.bool r) w) :
  CallV Try.prog 4 #[(Value.int .u16 s), (Value.int .u8 many)] w R := by
  refine embrasurelaw26_RttSame_call ?_
  unfold embrasurelaw26_RttSame
  unfold embrasurelaw26_RttSame_wp at hp
  refine embrasurelaw26_awake_ok h hp ?_
  intro r w h hp
  refine ⟨_, rfl, ?_⟩
  refine cond_both hp (fun hp => ?_) (fun hp => ?_)
  · exact hR false _ h hp
  refine rtt_New_ok h hp ?_
  rintro marks mean dev any b_1 p_1 n_1 c_1 w rfl h hp
  have cpp_1 := rowCap h 1 rfl
  refine ⟨_, rfl, ?_⟩
  refine ⟨by decide, ?_⟩
  obtain ⟨I, ⟨n_7, h0⟩, hq⟩ := hp
  refine ⟨fun n_3 many1 m5 k6 last7 i8 w => ∃ (marks_1 : List (Int × Int)), ∃ (p_2 : Option Addr), ∃ (n_2 : Nat), ∃ (c_2 : Nat), ∃ (mean_1 : Int), ∃ (dev_1 : Int), ∃ (any_1 : Bool), many = many1 ∧ (some (Addr.mk b_1 0 none)) = m5 ∧ (Int.tmod (IntKind.wrap .i64 s) 10001) = k6 ∧ n_2 = marks_1.length ∧ I n_3 marks_1 mean_1 dev_1 any_1 last7 i8 ∧ Mem (cel b_1 40 [(Value.slice p_2 n_2 c_2), (Value.int .i64 mean_1), (Value.int .i64 dev_1), (Value.bool any_1)] :: row enc44 44 2 p_2 c_2 marks_1 :: FL) w, ⟨n_7, marks, p_1, marks.length, c_1, mean, dev, any, rfl, rfl, rfl, rfl, h0, h⟩, ?_⟩
  clear h0 h
  rintro n_3 many1 m5 k6 last7 i8 w ⟨marks_1, p_2, n_2, c_2, mean_1, dev_1, any_1, rfl, rfl, rfl, rfl, hp, h⟩
  replace hp := hq n_3 marks_1 mean_1 dev_1 any_1 last7 i8 hp
  clear hq
  unfold embrasurelaw26_RttSame_l1
  have cpp_2 := rowCap h 1 rfl
  refine ⟨by decide, ?_⟩
  refine cond_both' hp (fun hp => ?_) (fun hp => ?_)
  · replace h := h.sel [] 2
    dsimp only [pickL, pickR, nthH, delH, dropH, List.cons_append, List.nil_append] at h
    exact hR true _ h hp
  refine rtt_Meter_Sent_ok h hp ?_
  rintro r_1 marks_2 p_3 n_4 c_3 w rfl h hp
  have cpp_3 := rowCap h 1 rfl
  refine ⟨_, rfl, ?_⟩
  refine rtt_Meter_Got_ok h hp ?_
  rintro r_2 r_3 marks_3 mean_2 dev_2 any_2 p_4 n_5 c_4 w rfl h hp
  have cpp_4 := rowCap h 1 rfl
  refine ⟨_, _, rfl, ?_⟩
  obtain ⟨Q, hq, hp⟩ := hp
  refine ⟨fun many1_1 m5_1 k6_1 i8_1 t68 w => many = many1_1 ∧ (some (Addr.mk b_1 0 none)) = m5_1 ∧ (Int.tmod (IntKind.wrap .i64 s) 10001) = k6_1 ∧ i8 = i8_1 ∧ Q t68 ∧ Mem (cel b_1 40 [(Value.slice p_4 marks_3.length c_4), (Value.int .i64 mean_2), (Value.int .i64 dev_2), (Value.bool any_2)] :: row enc44 44 2 p_4 c_4 marks_3 :: FL) w, ?_, ?_⟩
  · rintro many1_1 m5_1 k6_1 i8_1 t68 w ⟨rfl, rfl, rfl, rfl, hp, h⟩
    replace hp := hq t68 hp
    unfold embrasurelaw26_RttSame_j2
    refine cond_both hp (fun hp => ?_) (fun hp => ?_)
    · replace h := h.sel [] 2
      dsimp only [pickL, pickR, nthH, delH, dropH, List.cons_append, List.nil_append] at h
      exact hR false _ h hp
    refine rtt_Meter_Wait_ok h hp ?_
    intro r_4 w h hp
    refine ⟨_, rfl, ?_⟩
    obtain ⟨n_6, hn, hp⟩ := hp
    exact ⟨n_6, hn, marks_3, p_4, marks_3.length, c_4, mean_2, dev_2, any_2, rfl, rfl, rfl, rfl, hp, h⟩
  clear hq
  refine cond_both hp (fun hp => ?_) (fun hp => ?_)
  · exact ⟨rfl, rfl, rfl, rfl, hp, h⟩
  refine cond_both hp (fun hp => ?_) (fun hp => ?_)
  · exact ⟨rfl, rfl, rfl, rfl, hp, h⟩
  refine rtt_Meter_Way_ok h hp ?_
  intro r_5 w h hp
  refine ⟨_, rfl, ?_⟩
  refine cond_both hp (fun hp => ?_) (fun hp => ?_)
  · exact ⟨rfl, rfl, rfl, rfl, hp, h⟩
  refine rtt_Meter_Wait_ok h hp ?_
  intro r_6 w h hp
  refine ⟨_, rfl, ?_⟩
  refine cond_both hp (fun hp => ?_) (fun hp => ?_)
  · exact ⟨rfl, rfl, rfl, rfl, hp, h⟩
  refine rtt_Meter_Wait_ok h hp ?_
  intro r_7 w h hp
  refine ⟨_, rfl, ?_⟩
  refine cond_both hp (fun hp => ?_) (fun hp => ?_)
  · exact ⟨rfl, rfl, rfl, rfl, hp, h⟩
  refine rtt_Meter_Open_ok h hp ?_
  intro r_8 w h hp
  have cpp_4 := rowCap h 1 rfl
  refine ⟨_, rfl, ?_⟩
  exact ⟨rfl, rfl, rfl, rfl, hp, h⟩

/-! embrasure/embrasurelaw26.RttMarks (5) -/
def embrasurelaw26_RttMarks_wp (times : List (Int)) (order : List (Int)) (K : Bool → Prop) : Prop :=
  embrasurelaw26_awake_wp (fun (r : Bool) => cond (!r) (K false) (cond (decide ((((times.length : Nat) : Int) : Int) > 30)) (K true) (rtt_New_wp (fun (marks : List (Int × Int)) (mean : Int) (dev : Int) (any : Bool) => joinP1 (fun (marks_1 : List (Int × Int)) => 0 ≤ ((IntKind.wrap .i64 (((times.length : Nat) : Int) + 1)) : Int) ∧ (IntKind.wrap .i64 (((times.length : Nat) : Int) + 1)) ≤ ((IntKind.wrap .i64 (((times.length : Nat) : Int) + 1)) : Int) ∧ ((IntKind.wrap .i64 (((times.length : Nat) : Int) + 1)) : Int) ≤ 140737488355328 ∧ ((1 : Nat) : Int) * (IntKind.wrap .i64 (((times.length : Nat) : Int) + 1)) ≤ 140737488355328 ∧ (joinP5 (fun (marks_2 : List (Int × Int)) (mean_1 : Int) (dev_1 : Int) (any_1 : Bool) (came : List (Bool)) => joinP1 (fun (n12 : Int) => rtt_Meter_Open_wp marks_2 mean_1 dev_1 any_1 (fun (r_1 : Int) => K ((r_1 : Int) == n12))) (fun (Q_2 : Int → Prop) => ∃ (I : Nat → Int → Int → Prop), (∃ (n_9 : Nat), I n_9 0 0) ∧ ∀ (n_6 : Nat) (n12_1 : Int) (i13 : Int), I n_6 n12_1 i13 → (cond (decide ((i13 : Int) < ((times.length : Nat) : Int))) (0 ≤ (i13 : Int) ∧ (i13 : Int) < (((Int.toNat (IntKind.wrap .i64 (((times.length : Nat) : Int) + 1))) : Nat) : Int) ∧ (∀ (x_1 : Bool), came[Int.toNat i13]? = some x_1 → (cond (!x_1) (∃ (n_7 : Nat), n_7 < n_6 ∧ I n_7 (IntKind.wrap .i64 (n12_1 + 1)) (IntKind.wrap .i64 (i13 + 1))) (∃ (n_8 : Nat), n_8 < n_6 ∧ I n_8 n12_1 (IntKind.wrap .i64 (i13 + 1)))))) (Q_2 n12_1)))) (fun (Q_1 : List (Int × Int) → Int → Int → Bool → List (Bool) → Prop) => ∃ (I_1 : Nat → List (Int × Int) → Int → Int → Bool → List (Bool) → Int → Prop), (∃ (n_15 : Nat), I_1 n_15 marks_1 mean dev any (List.replicate (Int.toNat (IntKind.wrap .i64 (((times.length : Nat) : Int) + 1))) false) 0) ∧ ∀ (n_11 : Nat) (marks_3 : List (Int × Int)) (mean_2 : Int) (dev_2 : Int) (any_2 : Bool) (came_1 : List (Bool)) (i8 : Int), I_1 n_11 marks_3 mean_2 dev_2 any_2 came_1 i8 → (joinP1 (fun (t59 : Bool) => cond t59 (0 ≤ (i8 : Int) ∧ (i8 : Int) < ((order.length : Nat) : Int) ∧ (∀ (x_2 : Int), order[Int.toNat i8]? = some x_2 → ((((times.length : Nat) : Int) : Int) ≠ 0 ∧ (rtt_Meter_Got_wp marks_3 mean_2 dev_2 any_2 70000 (IntKind.wrap .u64 (Int.tmod (IntKind.wrap .i64 x_2) ((times.length : Nat) : Int))) (fun (r_2 : Int) (r_3 : Int) (marks_4 : List (Int × Int)) (mean_3 : Int) (dev_3 : Int) (any_3 : Bool) => 0 ≤ ((Int.tmod (IntKind.wrap .i64 x_2) ((times.length : Nat) : Int)) : Int) ∧ ((Int.tmod (IntKind.wrap .i64 x_2) ((times.length : Nat) : Int)) : Int) < (((Int.toNat (IntKind.wrap .i64 (((times.length : Nat) : Int) + 1))) : Nat) : Int) ∧ (∀ (x_3 : Bool), came_1[Int.toNat (Int.tmod (IntKind.wrap .i64 x_2) ((times.length : Nat) : Int))]? = some x_3 → (cond x_3 (cond ((r_3 : Int) != 5) (K false) (∃ (n_13 : Nat), n_13 < n_11 ∧ I_1 n_13 marks_4 mean_3 dev_3 any_3 came_1 (IntKind.wrap .i64 (i8 + 1)))) (joinP1 (fun (t95 : Bool) => cond t95 (K false) (0 ≤ ((Int.tmod (IntKind.wrap .i64 x_2) ((times.length : Nat) : Int)) : Int) ∧ ((Int.tmod (IntKind.wrap .i64 x_2) ((times.length : Nat) : Int)) : Int) < (((Int.toNat (IntKind.wrap .i64 (((times.length : Nat) : Int) + 1))) : Nat) : Int) ∧ (∃ (n_14 : Nat), n_14 < n_11 ∧ I_1 n_14 marks_4 mean_3 dev_3 any_3 (List.set came_1 (Int.toNat (Int.tmod (IntKind.wrap .i64 x_2) ((times.length : Nat) : Int))) true) (IntKind.wrap .i64 (i8 + 1))))) (fun (Q_4 : Bool → Prop) => cond ((r_3 : Int) != 0) (Q_4 true) (0 ≤ ((Int.tmod (IntKind.wrap .i64 x_2) ((times.length : Nat) : Int)) : Int) ∧ ((Int.tmod (IntKind.wrap .i64 x_2) ((times.length : Nat) : Int)) : Int) < ((times.length : Nat) : Int) ∧ (∀ (x_5 : Int), times[Int.toNat (Int.tmod (IntKind.wrap .i64 x_2) ((times.length : Nat) : Int))]? = some x_5 → (Q_4 ((r_2 : Int) != (if (10000 : Int) < (IntKind.wrap .i64 (70000 - (IntKind.wrap .i64 x_5))) then 10000 else (IntKind.wrap .i64 (70000 - (IntKind.wrap .i64 x_5))))))))))))))))) (Q_1 marks_3 mean_2 dev_2 any_2 came_1)) (fun (Q_3 : Bool → Prop) => cond (decide ((i8 : Int) < ((order.length : Nat) : Int))) (cond (decide ((((times.length : Nat) : Int) : Int) > 0)) (Q_3 (decide ((i8 : Int) < 100))) (Q_3 false)) (Q_3 false)))))) (fun (Q : List (Int × Int) → Prop) => ∃ (I_2 : Nat → List (Int × Int) → Int → Prop), (∃ (n_21 : Nat), I_2 n_21 marks 0) ∧ ∀ (n_17 : Nat) (marks_5 : List (Int × Int)) (i6 : Int), I_2 n_17 marks_5 i6 → (cond (decide ((i6 : Int) < ((times.length : Nat) : Int))) (joinP2 (fun (marks_6 : List (Int × Int)) (t42 : Bool) => cond t42 (K false) (∃ (n_19 : Nat), n_19 < n_17 ∧ I_2 n_19 marks_6 (IntKind.wrap .i64 (i6 + 1)))) (fun (Q_5 : List (Int × Int) → Bool → Prop) => 0 ≤ (i6 : Int) ∧ (i6 : Int) < ((times.length : Nat) : Int) ∧ (∀ (x_6 : Int), times[Int.toNat i6]? = some x_6 → (rtt_Meter_Sent_wp marks_5 mean dev any (IntKind.wrap .i64 x_6) (IntKind.wrap .u64 i6) (fun (r_4 : Int) (marks_7 : List (Int × Int)) => cond ((r_4 : Int) != 0) (Q_5 marks_7 true) (rtt_Meter_Open_wp marks_7 mean dev any (fun (r_5 : Int) => Q_5 marks_7 ((r_5 : Int) != (IntKind.wrap .i64 (i6 + 1)))))))))) (Q marks_5)))))))
theorem embrasurelaw26_RttMarks_ok {p_1 : Option Addr} {n_1 : Nat} {c_1 : Nat} {p_2 : Option Addr} {n_2 : Nat} {c_2 : Nat} {times : List (Int)} {order : List (Int)} {FL : List HP} {w : World} {K : Bool → Prop} {R : Value → World → Prop}
  (hF_times : ∀ w, Mem FL w → Rd w 1 p_1 enc26 times) (hl_times : n_1 = times.length) (hc_times : n_1 ≤ c_1)
  (hF_order : ∀ w, Mem FL w → Rd w 1 p_2 enc5 order) (hl_order : n_2 = order.length) (hc_order : n_2 ≤ c_2)
  (h : Mem (FL) w) (hp : embrasurelaw26_RttMarks_wp times order K)
  (hR : ∀ (r : Bool) (w : World), Mem (FL) w → K r → R (Value.bool r) w) :
  CallV Try.prog 5 #[(Value.slice p_1 n_1 c_1), (Value.slice p_2 n_2 c_2)] w R := by
  refine embrasurelaw26_RttMarks_call ?_
  unfold embrasurelaw26_RttMarks
  unfold embrasurelaw26_RttMarks_wp at hp
  subst hl_times
  subst hl_order
  refine embrasurelaw26_awake_ok h hp ?_
  intro r w h hp
  refine ⟨_, rfl, ?_⟩
  refine cond_both hp (fun hp => ?_) (fun hp => ?_)
  · exact hR false _ h hp
  refine cond_both hp (fun hp => ?_) (fun hp => ?_)
  · exact hR true _ h hp
  refine rtt_New_ok h hp ?_
  rintro marks mean dev any b_1 p_3 n_3 c_3 w rfl h hp
  have cpp_3 := rowCap h 1 rfl
  refine ⟨_, rfl, ?_⟩
  obtain ⟨Q, hq, hp⟩ := hp
  refine ⟨fun times0p times0l times0c order1p order1l order1c m5 w => ∃ (marks_1 : List (Int × Int)), ∃ (p_4 : Option Addr), ∃ (n_4 : Nat), ∃ (c_4 : Nat), p_1 = times0p ∧ times.length = times0l ∧ c_1 = times0c ∧ p_2 = order1p ∧ order.length = order1l ∧ c_2 = order1c ∧ (some (Addr.mk b_1 0 none)) = m5 ∧ n_4 = marks_1.length ∧ Q marks_1 ∧ Mem (cel b_1 40 [(Value.slice p_4 n_4 c_4), (Value.int .i64 mean), (Value.int .i64 dev), (Value.bool any)] :: row enc44 44 2 p_4 c_4 marks_1 :: FL) w, ?_, ?_⟩
  · rintro times0p times0l times0c order1p order1l order1c m5 w ⟨marks_1, p_4, n_4, c_4, rfl, rfl, rfl, rfl, rfl, rfl, rfl, rfl, hp, h⟩
    replace hp := hq marks_1 hp
    unfold embrasurelaw26_RttMarks_j1
    have cpp_4 := rowCap h 1 rfl
    obtain ⟨g_1a, g_1b, g_1d, g_1e, hp⟩ := hp
    refine ⟨g_1a, g_1b, g_1d, g_1e, ?_⟩
    have g_1c : 0 ≤ ((IntKind.wrap .i64 (((times.length : Nat) : Int) + 1)) : Int) := Int.le_trans g_1a g_1b
    refine makeL (x0 := false) (T := 4) h encL4 rfl (natLe2 g_1a g_1c g_1b) ?_
    intro b_2 w h
    obtain ⟨Q_1, hq, hp⟩ := hp
    refine ⟨fun times0_1p times0_1l times0_1c m5_1 came7p came7l came7c w => ∃ (marks_2 : List (Int × Int)), ∃ (p_5 : Option Addr), ∃ (n_5 : Nat), ∃ (c_5 : Nat), ∃ (mean_1 : Int), ∃ (dev_1 : Int), ∃ (any_1 : Bool), ∃ (came : List (Bool)), p_1 = times0_1p ∧ times.length = times0_1l ∧ c_1 = times0_1c ∧ (some (Addr.mk b_1 0 none)) = m5_1 ∧ (some ⟨b_2, 0, none⟩) = came7p ∧ (Int.toNat (IntKind.wrap .i64 (((times.length : Nat) : Int) + 1))) = came7l ∧ (Int.toNat (IntKind.wrap .i64 (((times.length : Nat) : Int) + 1))) = came7c ∧ n_5 = marks_2.length ∧ (Int.toNat (IntKind.wrap .i64 (((times.length : Nat) : Int) + 1))) = came.length ∧ Q_1 marks_2 mean_1 dev_1 any_1 came ∧ Mem (cel b_1 40 [(Value.slice p_5 n_5 c_5), (Value.int .i64 mean_1), (Value.int .i64 dev_1), (Value.bool any_1)] :: row enc44 44 2 p_5 c_5 marks_2 :: row enc4 4 1 (some ⟨b_2, 0, none⟩) (Int.toNat (IntKind.wrap .i64 (((times.length : Nat) : Int) + 1))) came :: FL) w, ?_, ?_⟩
    · rintro times0_1p times0_1l times0_1c m5_1 came7p came7l came7c w ⟨marks_2, p_5, n_5, c_5, mean_1, dev_1, any_1, came, rfl, rfl, rfl, rfl, rfl, rfl, rfl, rfl, hl_came, hp, h⟩
      replace hp := hq marks_2 mean_1 dev_1 any_1 came hp
      unfold embrasurelaw26_RttMarks_j2
      have cpp_5 := rowCap h 1 rfl
      obtain ⟨Q_2, hq, hp⟩ := hp
      refine ⟨fun m5_2 n12 w => (some (Addr.mk b_1 0 none)) = m5_2 ∧ Q_2 n12 ∧ Mem (cel b_1 40 [(Value.slice p_5 marks_2.length c_5), (Value.int .i64 mean_1), (Value.int .i64 dev_1), (Value.bool any_1)] :: row enc44 44 2 p_5 c_5 marks_2 :: FL) w, ?_, ?_⟩
      · rintro m5_2 n12 w ⟨rfl, hp, h⟩
        replace hp := hq n12 hp
        unfold embrasurelaw26_RttMarks_j3
        refine rtt_Meter_Open_ok h hp ?_
        intro r_1 w h hp
        have cpp_5 := rowCap h 1 rfl
        refine ⟨_, rfl, ?_⟩
        replace h := h.sel [] 2
        dsimp only [pickL, pickR, nthH, delH, dropH, List.cons_append, List.nil_append] at h
        exact hR ((r_1 : Int) == n12) _ h hp
      clear hq
      obtain ⟨I, ⟨n_9, h0⟩, hq⟩ := hp
      refine ⟨fun n_6 times0_2p times0_2l times0_2c m5_3 came7_1p came7_1l came7_1c n12_1 i13 w => p_1 = times0_2p ∧ times.length = times0_2l ∧ c_1 = times0_2c ∧ (some (Addr.mk b_1 0 none)) = m5_3 ∧ (some ⟨b_2, 0, none⟩) = came7_1p ∧ (Int.toNat (IntKind.wrap .i64 (((times.length : Nat) : Int) + 1))) = came7_1l ∧ (Int.toNat (IntKind.wrap .i64 (((times.length : Nat) : Int) + 1))) = came7_1c ∧ I n_6 n12_1 i13 ∧ Mem (cel b_1 40 [(Value.slice p_5 marks_2.length c_5), (Value.int .i64 mean_1), (Value.int .i64 dev_1), (Value.bool any_1)] :: row enc44 44 2 p_5 c_5 marks_2 :: row enc4 4 1 (some ⟨b_2, 0, none⟩) (Int.toNat (IntKind.wrap .i64 (((times.length : Nat) : Int) + 1))) came :: FL) w, ⟨n_9, rfl, rfl, rfl, rfl, rfl, rfl, rfl, h0, h⟩, ?_⟩
      clear h0 h
      rintro n_6 times0_2p times0_2l times0_2c m5_3 came7_1p came7_1l came7_1c n12_1 i13 w ⟨rfl, rfl, rfl, rfl, rfl, rfl, rfl, hp, h⟩
      replace hp := hq n_6 n12_1 i13 hp
      clear hq
      unfold embrasurelaw26_RttMarks_l4
      refine cond_both' hp (fun hp => ?_) (fun hp => ?_)
      · replace h := h.sel [0, 0] 1
        dsimp only [pickL, pickR, nthH, delH, dropH, List.cons_append, List.nil_append] at h
        exact ⟨rfl, hp, h⟩
      obtain ⟨ia_1, ja_1, hp⟩ := hp
      obtain ⟨a_1, ha_1⟩ := rdAddr (rowRd h 2 encL4 rfl) hl_came ia_1 ja_1
      refine ⟨a_1, ha_1, ia_1, ja_1, ?_⟩
      obtain ⟨x_1, hx_1, hc⟩ := rdCell0 (rowRd h 2 encL4 rfl) ha_1 hl_came ia_1 ja_1
      replace hp := hp x_1 hx_1
      refine ⟨_, hc _ rfl, ?_⟩
      refine cond_both hp (fun hp => ?_) (fun hp => ?_)
      · obtain ⟨n_7, hn, hp⟩ := hp
        exact ⟨n_7, hn, rfl, rfl, rfl, rfl, rfl, rfl, rfl, hp, h⟩
      obtain ⟨n_8, hn, hp⟩ := hp
      exact ⟨n_8, hn, rfl, rfl, rfl, rfl, rfl, rfl, rfl, hp, h⟩
    clear hq
    obtain ⟨I_1, ⟨n_15, h0⟩, hq⟩ := hp
    replace h := h.sel [1, 1, 0] 0
    dsimp only [pickL, pickR, nthH, delH, dropH, List.cons_append, List.nil_append] at h
    refine ⟨fun n_11 times0_3p times0_3l times0_3c order1_1p order1_1l order1_1c m5_4 came7_2p came7_2l came7_2c i8 w => ∃ (marks_3 : List (Int × Int)), ∃ (p_6 : Option Addr), ∃ (n_10 : Nat), ∃ (c_6 : Nat), ∃ (mean_2 : Int), ∃ (dev_2 : Int), ∃ (any_2 : Bool), ∃ (came_1 : List (Bool)), p_1 = times0_3p ∧ times.length = times0_3l ∧ c_1 = times0_3c ∧ p_2 = order1_1p ∧ order.length = order1_1l ∧ c_2 = order1_1c ∧ (some (Addr.mk b_1 0 none)) = m5_4 ∧ (some ⟨b_2, 0, none⟩) = came7_2p ∧ (Int.toNat (IntKind.wrap .i64 (((times.length : Nat) : Int) + 1))) = came7_2l ∧ (Int.toNat (IntKind.wrap .i64 (((times.length : Nat) : Int) + 1))) = came7_2c ∧ n_10 = marks_3.length ∧ (Int.toNat (IntKind.wrap .i64 (((times.length : Nat) : Int) + 1))) = came_1.length ∧ I_1 n_11 marks_3 mean_2 dev_2 any_2 came_1 i8 ∧ Mem (cel b_1 40 [(Value.slice p_6 n_10 c_6), (Value.int .i64 mean_2), (Value.int .i64 dev_2), (Value.bool any_2)] :: row enc44 44 2 p_6 c_6 marks_3 :: row enc4 4 1 (some ⟨b_2, 0, none⟩) (Int.toNat (IntKind.wrap .i64 (((times.length : Nat) : Int) + 1))) came_1 :: FL) w, ⟨n_15, marks_1, p_4, marks_1.length, c_4, mean, dev, any, (List.replicate (Int.toNat (IntKind.wrap .i64 (((times.length : Nat) : Int) + 1))) false), rfl, rfl, rfl, rfl, rfl, rfl, rfl, rfl, rfl, rfl, rfl, (List.length_replicate).symm, h0, h⟩, ?_⟩
    clear h0 h
    rintro n_11 times0_3p times0_3l times0_3c order1_1p order1_1l order1_1c m5_4 came7_2p came7_2l came7_2c i8 w ⟨marks_3, p_6, n_10, c_6, mean_2, dev_2, any_2, came_1, rfl, rfl, rfl, rfl, rfl, rfl, rfl, rfl, rfl, rfl, rfl, hl_came_1, hp, h⟩
    replace hp := hq n_11 marks_3 mean_2 dev_2 any_2 came_1 i8 hp
    clear hq
    unfold embrasurelaw26_RttMarks_l5
    have cpp_6 := rowCap h 1 rfl
    obtain ⟨Q_3, hq, hp⟩ := hp
    refine ⟨fun times0_4p times0_4l times0_4c order1_2p order1_2l order1_2c m5_5 came7_3p came7_3l came7_3c i8_1 t59 w => p_1 = times0_4p ∧ times.length = times0_4l ∧ c_1 = times0_4c ∧ p_2 = order1_2p ∧ order.length = order1_2l ∧ c_2 = order1_2c ∧ (some (Addr.mk b_1 0 none)) = m5_5 ∧ (some ⟨b_2, 0, none⟩) = came7_3p ∧ (Int.toNat (IntKind.wrap .i64 (((times.length : Nat) : Int) + 1))) = came7_3l ∧ (Int.toNat (IntKind.wrap .i64 (((times.length : Nat) : Int) + 1))) = came7_3c ∧ i8 = i8_1 ∧ Q_3 t59 ∧ Mem (cel b_1 40 [(Value.slice p_6 marks_3.length c_6), (Value.int .i64 mean_2), (Value.int .i64 dev_2), (Value.bool any_2)] :: row enc44 44 2 p_6 c_6 marks_3 :: row enc4 4 1 (some ⟨b_2, 0, none⟩) (Int.toNat (IntKind.wrap .i64 (((times.length : Nat) : Int) + 1))) came_1 :: FL) w, ?_, ?_⟩
    · rintro times0_4p times0_4l times0_4c order1_2p order1_2l order1_2c m5_5 came7_3p came7_3l came7_3c i8_1 t59 w ⟨rfl, rfl, rfl, rfl, rfl, rfl, rfl, rfl, rfl, rfl, rfl, hp, h⟩
      replace hp := hq t59 hp
      unfold embrasurelaw26_RttMarks_j6
      refine cond_both' hp (fun hp => ?_) (fun hp => ?_)
      · exact ⟨marks_3, p_6, marks_3.length, c_6, mean_2, dev_2, any_2, came_1, rfl, rfl, rfl, rfl, rfl, rfl, rfl, rfl, hl_came_1, hp, h⟩
      obtain ⟨ia_2, ja_2, hp⟩ := hp
      obtain ⟨a_2, ha_2⟩ := rdAddr (hF_order _ (h.drop 3)) rfl ia_2 ja_2
      refine ⟨a_2, ha_2, ia_2, ja_2, ?_⟩
      obtain ⟨x_2, hx_2, hc⟩ := rdCell0 (hF_order _ (h.drop 3)) ha_2 rfl ia_2 ja_2
      replace hp := hp x_2 hx_2
      refine ⟨_, hc _ rfl, ?_⟩
      refine ⟨hp.1, ?_⟩
      replace hp := hp.2
      refine rtt_Meter_Got_ok h hp ?_
      rintro r_2 r_3 marks_4 mean_3 dev_3 any_3 p_7 n_12 c_7 w rfl h hp
      have cpp_7 := rowCap h 1 rfl
      refine ⟨_, _, rfl, ?_⟩
      obtain ⟨ia_3, ja_3, hp⟩ := hp
      obtain ⟨a_3, ha_3⟩ := rdAddr (rowRd h 2 encL4 rfl) hl_came_1 ia_3 ja_3
      refine ⟨a_3, ha_3, ia_3, ja_3, ?_⟩
      obtain ⟨x_3, hx_3, hc⟩ := rdCell0 (rowRd h 2 encL4 rfl) ha_3 hl_came_1 ia_3 ja_3
      replace hp := hp x_3 hx_3
      refine ⟨_, hc _ rfl, ?_⟩
      refine cond_both hp (fun hp => ?_) (fun hp => ?_)
      · refine cond_both' hp (fun hp => ?_) (fun hp => ?_)
        · obtain ⟨n_13, hn, hp⟩ := hp
          exact ⟨n_13, hn, marks_4, p_7, marks_4.length, c_7, mean_3, dev_3, any_3, came_1, rfl, rfl, rfl, rfl, rfl, rfl, rfl, rfl, rfl, rfl, rfl, hl_came_1, hp, h⟩
        replace h := h.sel [] 3
        dsimp only [pickL, pickR, nthH, delH, dropH, List.cons_append, List.nil_append] at h
        exact hR false _ h hp
      obtain ⟨Q_4, hq, hp⟩ := hp
      refine ⟨fun times0_5p times0_5l times0_5c order1_3p order1_3l order1_3c m5_6 came7_4p came7_4l came7_4c i8_2 k9 t95 w => p_1 = times0_5p ∧ times.length = times0_5l ∧ c_1 = times0_5c ∧ p_2 = order1_3p ∧ order.length = order1_3l ∧ c_2 = order1_3c ∧ (some (Addr.mk b_1 0 none)) = m5_6 ∧ (some ⟨b_2, 0, none⟩) = came7_4p ∧ (Int.toNat (IntKind.wrap .i64 (((times.length : Nat) : Int) + 1))) = came7_4l ∧ (Int.toNat (IntKind.wrap .i64 (((times.length : Nat) : Int) + 1))) = came7_4c ∧ i8 = i8_2 ∧ (Int.tmod (IntKind.wrap .i64 x_2) ((times.length : Nat) : Int)) = k9 ∧ Q_4 t95 ∧ Mem (cel b_1 40 [(Value.slice p_7 marks_4.length c_7), (Value.int .i64 mean_3), (Value.int .i64 dev_3), (Value.bool any_3)] :: row enc44 44 2 p_7 c_7 marks_4 :: row enc4 4 1 (some ⟨b_2, 0, none⟩) (Int.toNat (IntKind.wrap .i64 (((times.length : Nat) : Int) + 1))) came_1 :: FL) w, ?_, ?_⟩
      · rintro times0_5p times0_5l times0_5c order1_3p order1_3l order1_3c m5_6 came7_4p came7_4l came7_4c i8_2 k9 t95 w ⟨rfl, rfl, rfl, rfl, rfl, rfl, rfl, rfl, rfl, rfl, rfl, rfl, hp, h⟩
        replace hp := hq t95 hp
        unfold embrasurelaw26_RttMarks_j7
        refine cond_both hp (fun hp => ?_) (fun hp => ?_)
        · replace h := h.sel [] 3
          dsimp only [pickL, pickR, nthH, delH, dropH, List.cons_append, List.nil_append] at h
          exact hR false _ h hp
        obtain ⟨ia_4, ja_4, hp⟩ := hp
        obtain ⟨a_4, ha_4⟩ := rdAddr (rowRd h 2 encL4 rfl) hl_came_1 ia_4 ja_4
        refine ⟨a_4, ha_4, ia_4, ja_4, ?_⟩
        refine rowSetW (ys := [(Value.bool true)]) (x := true) h 2 encL4 rfl ha_4 hl_came_1 ia_4 ja_4 sz4 rfl rfl rfl ?_
        intro w h
        dsimp only [setH, setVs, setV] at h
        obtain ⟨n_14, hn, hp⟩ := hp
        exact ⟨n_14, hn, marks_4, p_7, marks_4.length, c_7, mean_3, dev_3, any_3, (List.set came_1 (Int.toNat (Int.tmod (IntKind.wrap .i64 x_2) ((times.length : Nat) : Int))) true), rfl, rfl, rfl, rfl, rfl, rfl, rfl, rfl, rfl, rfl, rfl, (lenSet hl_came_1), hp, h⟩
      clear hq
      refine cond_both hp (fun hp => ?_) (fun hp => ?_)
      · exact ⟨rfl, rfl, rfl, rfl, rfl, rfl, rfl, rfl, rfl, rfl, rfl, rfl, hp, h⟩
      obtain ⟨ia_5, ja_5, hp⟩ := hp
      obtain ⟨a_5, ha_5⟩ := rdAddr (hF_times _ (h.drop 3)) rfl ia_5 ja_5
      refine ⟨a_5, ha_5, ia_5, ja_5, ?_⟩
      obtain ⟨x_5, hx_5, hc⟩ := rdCell0 (hF_times _ (h.drop 3)) ha_5 rfl ia_5 ja_5
      replace hp := hp x_5 hx_5
      refine ⟨_, hc _ rfl, ?_⟩
      exact ⟨rfl, rfl, rfl, rfl, rfl, rfl, rfl, rfl, rfl, rfl, rfl, rfl, hp, h⟩
    clear hq
    refine cond_both' hp (fun hp => ?_) (fun hp => ?_)
    · exact ⟨rfl, rfl, rfl, rfl, rfl, rfl, rfl, rfl, rfl, rfl, rfl, hp, h⟩
    refine cond_both hp (fun hp => ?_) (fun hp => ?_)
    · exact ⟨rfl, rfl, rfl, rfl, rfl, rfl, rfl, rfl, rfl, rfl, rfl, hp, h⟩
    exact ⟨rfl, rfl, rfl, rfl, rfl, rfl, rfl, rfl, rfl, rfl, rfl, hp, h⟩
  clear hq
  obtain ⟨I_2, ⟨n_21, h0⟩, hq⟩ := hp
  refine ⟨fun n_17 times0_6p times0_6l times0_6c order1_4p order1_4l order1_4c m5_7 i6 w => ∃ (marks_5 : List (Int × Int)), ∃ (p_8 : Option Addr), ∃ (n_16 : Nat), ∃ (c_8 : Nat), p_1 = times0_6p ∧ times.length = times0_6l ∧ c_1 = times0_6c ∧ p_2 = order1_4p ∧ order.length = order1_4l ∧ c_2 = order1_4c ∧ (some (Addr.mk b_1 0 none)) = m5_7 ∧ n_16 = marks_5.length ∧ I_2 n_17 marks_5 i6 ∧ Mem (cel b_1 40 [(Value.slice p_8 n_16 c_8), (Value.int .i64 mean), (Value.int .i64 dev), (Value.bool any)] :: row enc44 44 2 p_8 c_8 marks_5 :: FL) w, ⟨n_21, marks, p_3, marks.length, c_3, rfl, rfl, rfl, rfl, rfl, rfl, rfl, rfl, h0, h⟩, ?_⟩
  clear h0 h
  rintro n_17 times0_6p times0_6l times0_6c order1_4p order1_4l order1_4c m5_7 i6 w ⟨marks_5, p_8, n_16, c_8, rfl, rfl, rfl, rfl, rfl, rfl, rfl, rfl, hp, h⟩
  replace hp := hq n_17 marks_5 i6 hp
  clear hq
  unfold embrasurelaw26_RttMarks_l8
  have cpp_8 := rowCap h 1 rfl
  refine cond_both' hp (fun hp => ?_) (fun hp => ?_)
  · exact ⟨marks_5, p_8, marks_5.length, c_8, rfl, rfl, rfl, rfl, rfl, rfl, rfl, rfl, hp, h⟩
  obtain ⟨Q_5, hq, hp⟩ := hp
  refine ⟨fun times0_7p times0_7l times0_7c order1_5p order1_5l order1_5c m5_8 i6_1 t42 w => ∃ (marks_6 : List (Int × Int)), ∃ (p_9 : Option Addr), ∃ (n_18 : Nat), ∃ (c_9 : Nat), p_1 = times0_7p ∧ times.length = times0_7l ∧ c_1 = times0_7c ∧ p_2 = order1_5p ∧ order.length = order1_5l ∧ c_2 = order1_5c ∧ (some (Addr.mk b_1 0 none)) = m5_8 ∧ i6 = i6_1 ∧ n_18 = marks_6.length ∧ Q_5 marks_6 t42 ∧ Mem (cel b_1 40 [(Value.slice p_9 n_18 c_9), (Value.int .i64 mean), (Value.int .i64 dev), (Value.bool any)] :: row enc44 44 2 p_9 c_9 marks_6 :: FL) w, ?_, ?_⟩
  · rintro times0_7p times0_7l times0_7c order1_5p order1_5l order1_5c m5_8 i6_1 t42 w ⟨marks_6, p_9, n_18, c_9, rfl, rfl, rfl, rfl, rfl, rfl, rfl, rfl, rfl, hp, h⟩
    replace hp := hq marks_6 t42 hp
    unfold embrasurelaw26_RttMarks_j9
    have cpp_9 := rowCap h 1 rfl
    refine cond_both' hp (fun hp => ?_) (fun hp => ?_)
    · obtain ⟨n_19, hn, hp⟩ := hp
      exact ⟨n_19, hn, marks_6, p_9, marks_6.length, c_9, rfl, rfl, rfl, rfl, rfl, rfl, rfl, rfl, hp, h⟩
    replace h := h.sel [] 2
    dsimp only [pickL, pickR, nthH, delH, dropH, List.cons_append, List.nil_append] at h
    exact hR false _ h hp
  clear hq
  obtain ⟨ia_6, ja_6, hp⟩ := hp
  obtain ⟨a_6, ha_6⟩ := rdAddr (hF_times _ (h.drop 2)) rfl ia_6 ja_6
  refine ⟨a_6, ha_6, ia_6, ja_6, ?_⟩
  obtain ⟨x_6, hx_6, hc⟩ := rdCell0 (hF_times _ (h.drop 2)) ha_6 rfl ia_6 ja_6
  replace hp := hp x_6 hx_6
  refine ⟨_, hc _ rfl, ?_⟩
  refine rtt_Meter_Sent_ok h hp ?_
  rintro r_4 marks_7 p_10 n_20 c_10 w rfl h hp
  have cpp_10 := rowCap h 1 rfl
  refine ⟨_, rfl, ?_⟩
  refine cond_both hp (fun hp => ?_) (fun hp => ?_)
  · exact ⟨marks_7, p_10, marks_7.length, c_10, rfl, rfl, rfl, rfl, rfl, rfl, rfl, rfl, rfl, hp, h⟩
  refine rtt_Meter_Open_ok h hp ?_
  intro r_5 w h hp
  have cpp_10 := rowCap h 1 rfl
  refine ⟨_, rfl, ?_⟩
  exact ⟨marks_7, p_10, marks_7.length, c_10, rfl, rfl, rfl, rfl, rfl, rfl, rfl, rfl, rfl, hp, h⟩

/-! embrasure/embrasurelaw26.RttWaits (6) -/
def embrasurelaw26_RttWaits_wp (samples : List (Int)) (K : Bool → Prop) : Prop :=
  embrasurelaw26_awake_wp (fun (r : Bool) => cond (!r) (K false) (rtt_New_wp (fun (marks : List (Int × Int)) (mean : Int) (dev : Int) (any : Bool) => joinP1 (fun (t23 : Bool) => cond t23 (K false) (joinP4 (fun (marks_1 : List (Int × Int)) (mean_1 : Int) (dev_1 : Int) (any_1 : Bool) => rtt_Meter_Open_wp marks_1 mean_1 dev_1 any_1 (fun (r_1 : Int) => K (decide ((r_1 : Int) ≤ 30)))) (fun (Q_1 : List (Int × Int) → Int → Int → Bool → Prop) => ∃ (I : Nat → List (Int × Int) → Int → Int → Bool → Int → Prop), (∃ (n_11 : Nat), I n_11 marks mean dev any 0) ∧ ∀ (n_5 : Nat) (marks_2 : List (Int × Int)) (mean_2 : Int) (dev_2 : Int) (any_2 : Bool) (i4 : Int), I n_5 marks_2 mean_2 dev_2 any_2 i4 → (joinP1 (fun (t31 : Bool) => cond t31 (rtt_Meter_Sent_wp marks_2 mean_2 dev_2 any_2 0 (IntKind.wrap .u64 i4) (fun (r_2 : Int) (marks_3 : List (Int × Int)) => rtt_Meter_Sent_wp marks_3 mean_2 dev_2 any_2 0 1099511627776 (fun (r_3 : Int) (marks_4 : List (Int × Int)) => rtt_Meter_Way_wp mean_2 dev_2 any_2 (fun (r_4 : Int) => rtt_Meter_Wait_wp mean_2 dev_2 any_2 (fun (r_5 : Int) => cond (((Int.tmod i4 3) : Int) == 2) (joinP1 (fun (t56 : Bool) => cond t56 (K false) (∃ (n_8 : Nat), n_8 < n_5 ∧ I n_8 marks_4 mean_2 dev_2 any_2 (IntKind.wrap .i64 (i4 + 1)))) (fun (Q_3 : Bool → Prop) => rtt_Meter_Way_wp mean_2 dev_2 any_2 (fun (r_6 : Int) => cond ((r_6 : Int) != r_4) (Q_3 true) (rtt_Meter_Wait_wp mean_2 dev_2 any_2 (fun (r_7 : Int) => Q_3 ((r_7 : Int) != r_5)))))) (0 ≤ (i4 : Int) ∧ (i4 : Int) < ((samples.length : Nat) : Int) ∧ (∀ (x_1 : Int), samples[Int.toNat i4]? = some x_1 → (rtt_Meter_Got_wp marks_4 mean_2 dev_2 any_2 (IntKind.wrap .i64 x_1) (IntKind.wrap .u64 i4) (fun (r_8 : Int) (r_9 : Int) (marks_5 : List (Int × Int)) (mean_3 : Int) (dev_3 : Int) (any_3 : Bool) => joinP1 (fun (t93 : Bool) => cond t93 (K false) (∃ (n_10 : Nat), n_10 < n_5 ∧ I n_10 marks_5 mean_3 dev_3 any_3 (IntKind.wrap .i64 (i4 + 1)))) (fun (Q_4 : Bool → Prop) => cond ((r_9 : Int) != 0) (Q_4 true) (0 ≤ (i4 : Int) ∧ (i4 : Int) < ((samples.length : Nat) : Int) ∧ (∀ (x_2 : Int), samples[Int.toNat i4]? = some x_2 → (cond ((r_8 : Int) != (if (10000 : Int) < (IntKind.wrap .i64 x_2) then 10000 else (IntKind.wrap .i64 x_2))) (Q_4 true) (rtt_Meter_Wait_wp mean_3 dev_3 any_3 (fun (r_10 : Int) => rtt_Meter_Way_wp mean_3 dev_3 any_3 (fun (r_11 : Int) => cond (decide ((r_10 : Int) < (if (10000 : Int) < r_11 then 10000 else r_11))) (Q_4 true) (rtt_Meter_Wait_wp mean_3 dev_3 any_3 (fun (r_12 : Int) => Q_4 (decide ((r_12 : Int) < 2)))))))))))))))))))) (Q_1 marks_2 mean_2 dev_2 any_2)) (fun (Q_2 : Bool → Prop) => cond (decide ((i4 : Int) < ((samples.length : Nat) : Int))) (Q_2 (decide ((i4 : Int) < 150))) (Q_2 false)))))) (fun (Q : Bool → Prop) => cond (false) (Q true) (rtt_Meter_Wait_wp mean dev any (fun (r_13 : Int) => cond ((r_13 : Int) != 20) (Q true) (rtt_Meter_Way_wp mean dev any (fun (r_14 : Int) => Q ((r_14 : Int) != 0)))))))))
theorem embrasurelaw26_RttWaits_ok {p_1 : Option Addr} {n_1 : Nat} {c_1 : Nat} {samples : List (Int)} {FL : List HP} {w : World} {K : Bool → Prop} {R : Value → World → Prop}
  (hF_samples : ∀ w, Mem FL w → Rd w 1 p_1 enc26 samples) (hl_samples : n_1 = samples.length) (hc_samples : n_1 ≤ c_1)
  (h : Mem (FL) w) (hp : embrasurelaw26_RttWaits_wp samples K)
  (hR : ∀ (r : Bool) (w : World), Mem (FL) w → K r → R (Value.bool r) w) :
  CallV Try.prog 6 #[(Value.slice p_1 n_1 c_1)] w R := by
  refine embrasurelaw26_RttWaits_call ?_
  unfold embrasurelaw26_RttWaits
  unfold embrasurelaw26_RttWaits_wp at hp
  subst hl_samples
  refine embrasurelaw26_awake_ok h hp ?_
  intro r w h hp
  refine ⟨_, rfl, ?_⟩
  refine cond_both hp (fun hp => ?_) (fun hp => ?_)
  · exact hR false _ h hp
  refine rtt_New_ok h hp ?_
  rintro marks mean dev any b_1 p_2 n_2 c_2 w rfl h hp
  have cpp_2 := rowCap h 1 rfl
  refine ⟨_, rfl, ?_⟩
  obtain ⟨Q, hq, hp⟩ := hp
  refine ⟨fun samples0p samples0l samples0c m3 t23 w => p_1 = samples0p ∧ samples.length = samples0l ∧ c_1 = samples0c ∧ (some (Addr.mk b_1 0 none)) = m3 ∧ Q t23 ∧ Mem (cel b_1 40 [(Value.slice p_2 marks.length c_2), (Value.int .i64 mean), (Value.int .i64 dev), (Value.bool any)] :: row enc44 44 2 p_2 c_2 marks :: FL) w, ?_, ?_⟩
  · rintro samples0p samples0l samples0c m3 t23 w ⟨rfl, rfl, rfl, rfl, hp, h⟩
    replace hp := hq t23 hp
    unfold embrasurelaw26_RttWaits_j1
    refine cond_both hp (fun hp => ?_) (fun hp => ?_)
    · replace h := h.sel [] 2
      dsimp only [pickL, pickR, nthH, delH, dropH, List.cons_append, List.nil_append] at h
      exact hR false _ h hp
    obtain ⟨Q_1, hq, hp⟩ := hp
    refine ⟨fun m3_1 w => ∃ (marks_1 : List (Int × Int)), ∃ (p_3 : Option Addr), ∃ (n_3 : Nat), ∃ (c_3 : Nat), ∃ (mean_1 : Int), ∃ (dev_1 : Int), ∃ (any_1 : Bool), (some (Addr.mk b_1 0 none)) = m3_1 ∧ n_3 = marks_1.length ∧ Q_1 marks_1 mean_1 dev_1 any_1 ∧ Mem (cel b_1 40 [(Value.slice p_3 n_3 c_3), (Value.int .i64 mean_1), (Value.int .i64 dev_1), (Value.bool any_1)] :: row enc44 44 2 p_3 c_3 marks_1 :: FL) w, ?_, ?_⟩
    · rintro m3_1 w ⟨marks_1, p_3, n_3, c_3, mean_1, dev_1, any_1, rfl, rfl, hp, h⟩
      replace hp := hq marks_1 mean_1 dev_1 any_1 hp
      unfold embrasurelaw26_RttWaits_j2
      have cpp_3 := rowCap h 1 rfl
      refine rtt_Meter_Open_ok h hp ?_
      intro r_1 w h hp
      have cpp_3 := rowCap h 1 rfl
      refine ⟨_, rfl, ?_⟩
      replace h := h.sel [] 2
      dsimp only [pickL, pickR, nthH, delH, dropH, List.cons_append, List.nil_append] at h
      exact hR (decide ((r_1 : Int) ≤ 30)) _ h hp
    clear hq
    obtain ⟨I, ⟨n_11, h0⟩, hq⟩ := hp
    refine ⟨fun n_5 samples0_1p samples0_1l samples0_1c m3_2 i4 w => ∃ (marks_2 : List (Int × Int)), ∃ (p_4 : Option Addr), ∃ (n_4 : Nat), ∃ (c_4 : Nat), ∃ (mean_2 : Int), ∃ (dev_2 : Int), ∃ (any_2 : Bool), p_1 = samples0_1p ∧ samples.length = samples0_1l ∧ c_1 = samples0_1c ∧ (some (Addr.mk b_1 0 none)) = m3_2 ∧ n_4 = marks_2.length ∧ I n_5 marks_2 mean_2 dev_2 any_2 i4 ∧ Mem (cel b_1 40 [(Value.slice p_4 n_4 c_4), (Value.int .i64 mean_2), (Value.int .i64 dev_2), (Value.bool any_2)] :: row enc44 44 2 p_4 c_4 marks_2 :: FL) w, ⟨n_11, marks, p_2, marks.length, c_2, mean, dev, any, rfl, rfl, rfl, rfl, rfl, h0, h⟩, ?_⟩
    clear h0 h
    rintro n_5 samples0_1p samples0_1l samples0_1c m3_2 i4 w ⟨marks_2, p_4, n_4, c_4, mean_2, dev_2, any_2, rfl, rfl, rfl, rfl, rfl, hp, h⟩
    replace hp := hq n_5 marks_2 mean_2 dev_2 any_2 i4 hp
    clear hq
    unfold embrasurelaw26_RttWaits_l3
    have cpp_4 := rowCap h 1 rfl
    obtain ⟨Q_2, hq, hp⟩ := hp
    refine ⟨fun samples0_2p samples0_2l samples0_2c m3_3 i4_1 t31 w => p_1 = samples0_2p ∧ samples.length = samples0_2l ∧ c_1 = samples0_2c ∧ (some (Addr.mk b_1 0 none)) = m3_3 ∧ i4 = i4_1 ∧ Q_2 t31 ∧ Mem (cel b_1 40 [(Value.slice p_4 marks_2.length c_4), (Value.int .i64 mean_2), (Value.int .i64 dev_2), (Value.bool any_2)] :: row enc44 44 2 p_4 c_4 marks_2 :: FL) w, ?_, ?_⟩
    · rintro samples0_2p samples0_2l samples0_2c m3_3 i4_1 t31 w ⟨rfl, rfl, rfl, rfl, rfl, hp, h⟩
      replace hp := hq t31 hp
      unfold embrasurelaw26_RttWaits_j4
      refine cond_both' hp (fun hp => ?_) (fun hp => ?_)
      · exact ⟨marks_2, p_4, marks_2.length, c_4, mean_2, dev_2, any_2, rfl, rfl, hp, h⟩
      refine rtt_Meter_Sent_ok h hp ?_
      rintro r_2 marks_3 p_5 n_6 c_5 w rfl h hp
      have cpp_5 := rowCap h 1 rfl
      refine ⟨_, rfl, ?_⟩
      refine rtt_Meter_Sent_ok h hp ?_
      rintro r_3 marks_4 p_6 n_7 c_6 w rfl h hp
      have cpp_6 := rowCap h 1 rfl
      refine ⟨_, rfl, ?_⟩
      refine rtt_Meter_Way_ok h hp ?_
      intro r_4 w h hp
      refine ⟨_, rfl, ?_⟩
      refine rtt_Meter_Wait_ok h hp ?_
      intro r_5 w h hp
      refine ⟨_, rfl, ?_⟩
      refine ⟨by decide, ?_⟩
      refine cond_both hp (fun hp => ?_) (fun hp => ?_)
      · obtain ⟨Q_3, hq, hp⟩ := hp
        refine ⟨fun samples0_3p samples0_3l samples0_3c m3_4 i4_2 t56 w => p_1 = samples0_3p ∧ samples.length = samples0_3l ∧ c_1 = samples0_3c ∧ (some (Addr.mk b_1 0 none)) = m3_4 ∧ i4 = i4_2 ∧ Q_3 t56 ∧ Mem (cel b_1 40 [(Value.slice p_6 marks_4.length c_6), (Value.int .i64 mean_2), (Value.int .i64 dev_2), (Value.bool any_2)] :: row enc44 44 2 p_6 c_6 marks_4 :: FL) w, ?_, ?_⟩
        · rintro samples0_3p samples0_3l samples0_3c m3_4 i4_2 t56 w ⟨rfl, rfl, rfl, rfl, rfl, hp, h⟩
          replace hp := hq t56 hp
          unfold embrasurelaw26_RttWaits_j5
          refine cond_both' hp (fun hp => ?_) (fun hp => ?_)
          · obtain ⟨n_8, hn, hp⟩ := hp
            exact ⟨n_8, hn, marks_4, p_6, marks_4.length, c_6, mean_2, dev_2, any_2, rfl, rfl, rfl, rfl, rfl, hp, h⟩
          replace h := h.sel [] 2
          dsimp only [pickL, pickR, nthH, delH, dropH, List.cons_append, List.nil_append] at h
          exact hR false _ h hp
        clear hq
        refine rtt_Meter_Way_ok h hp ?_
        intro r_6 w h hp
        refine ⟨_, rfl, ?_⟩
        refine cond_both hp (fun hp => ?_) (fun hp => ?_)
        · exact ⟨rfl, rfl, rfl, rfl, rfl, hp, h⟩
        refine rtt_Meter_Wait_ok h hp ?_
        intro r_7 w h hp
        refine ⟨_, rfl, ?_⟩
        exact ⟨rfl, rfl, rfl, rfl, rfl, hp, h⟩
      obtain ⟨ia_1, ja_1, hp⟩ := hp
      obtain ⟨a_1, ha_1⟩ := rdAddr (hF_samples _ (h.drop 2)) rfl ia_1 ja_1
      refine ⟨a_1, ha_1, ia_1, ja_1, ?_⟩
      obtain ⟨x_1, hx_1, hc⟩ := rdCell0 (hF_samples _ (h.drop 2)) ha_1 rfl ia_1 ja_1
      replace hp := hp x_1 hx_1
      refine ⟨_, hc _ rfl, ?_⟩
      refine rtt_Meter_Got_ok h hp ?_
      rintro r_8 r_9 marks_5 mean_3 dev_3 any_3 p_7 n_9 c_7 w rfl h hp
      have cpp_7 := rowCap h 1 rfl
      refine ⟨_, _, rfl, ?_⟩
      obtain ⟨Q_4, hq, hp⟩ := hp
      refine ⟨fun samples0_4p samples0_4l samples0_4c m3_5 i4_3 t93 w => p_1 = samples0_4p ∧ samples.length = samples0_4l ∧ c_1 = samples0_4c ∧ (some (Addr.mk b_1 0 none)) = m3_5 ∧ i4 = i4_3 ∧ Q_4 t93 ∧ Mem (cel b_1 40 [(Value.slice p_7 marks_5.length c_7), (Value.int .i64 mean_3), (Value.int .i64 dev_3), (Value.bool any_3)] :: row enc44 44 2 p_7 c_7 marks_5 :: FL) w, ?_, ?_⟩
      · rintro samples0_4p samples0_4l samples0_4c m3_5 i4_3 t93 w ⟨rfl, rfl, rfl, rfl, rfl, hp, h⟩
        replace hp := hq t93 hp
        unfold embrasurelaw26_RttWaits_j6
        refine cond_both' hp (fun hp => ?_) (fun hp => ?_)
        · obtain ⟨n_10, hn, hp⟩ := hp
          exact ⟨n_10, hn, marks_5, p_7, marks_5.length, c_7, mean_3, dev_3, any_3, rfl, rfl, rfl, rfl, rfl, hp, h⟩
        replace h := h.sel [] 2
        dsimp only [pickL, pickR, nthH, delH, dropH, List.cons_append, List.nil_append] at h
        exact hR false _ h hp
      clear hq
      refine cond_both hp (fun hp => ?_) (fun hp => ?_)
      · exact ⟨rfl, rfl, rfl, rfl, rfl, hp, h⟩
      obtain ⟨ia_2, ja_2, hp⟩ := hp
      obtain ⟨a_2, ha_2⟩ := rdAddr (hF_samples _ (h.drop 2)) rfl ia_2 ja_2
      refine ⟨a_2, ha_2, ia_2, ja_2, ?_⟩
      obtain ⟨x_2, hx_2, hc⟩ := rdCell0 (hF_samples _ (h.drop 2)) ha_2 rfl ia_2 ja_2
      replace hp := hp x_2 hx_2
      refine ⟨_, hc _ rfl, ?_⟩
      refine cond_both hp (fun hp => ?_) (fun hp => ?_)
      · exact ⟨rfl, rfl, rfl, rfl, rfl, hp, h⟩
      refine rtt_Meter_Wait_ok h hp ?_
      intro r_10 w h hp
      refine ⟨_, rfl, ?_⟩
      refine rtt_Meter_Way_ok h hp ?_
      intro r_11 w h hp
      refine ⟨_, rfl, ?_⟩
      refine cond_both hp (fun hp => ?_) (fun hp => ?_)
      · exact ⟨rfl, rfl, rfl, rfl, rfl, hp, h⟩
      refine rtt_Meter_Wait_ok h hp ?_
      intro r_12 w h hp
      refine ⟨_, rfl, ?_⟩
      exact ⟨rfl, rfl, rfl, rfl, rfl, hp, h⟩
    clear hq
    refine cond_both hp (fun hp => ?_) (fun hp => ?_)
    · exact ⟨rfl, rfl, rfl, rfl, rfl, hp, h⟩
    exact ⟨rfl, rfl, rfl, rfl, rfl, hp, h⟩
  clear hq
  refine eqlPtrNil undP24 ?_
  refine ⟨_, rfl, ?_⟩
  refine cond_both hp (fun hp => ?_) (fun hp => ?_)
  · exact ⟨rfl, rfl, rfl, rfl, hp, h⟩
  refine rtt_Meter_Wait_ok h hp ?_
  intro r_13 w h hp
  refine ⟨_, rfl, ?_⟩
  refine cond_both hp (fun hp => ?_) (fun hp => ?_)
  · exact ⟨rfl, rfl, rfl, rfl, hp, h⟩
  refine rtt_Meter_Way_ok h hp ?_
  intro r_14 w h hp
  refine ⟨_, rfl, ?_⟩
  exact ⟨rfl, rfl, rfl, rfl, hp, h⟩

end Go.Proofs.Ytffjmcfcfdnbkaa
