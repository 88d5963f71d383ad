/- Each function over plain data (printed by a program of this claim's author). -/
import Derived.Test.YtgelfofenbjjbaaD
import Derived.Test.YtgelfofenbjjbaaEngQ
namespace Go.Proofs.Ytgelfofenbjjbaa
open Go Go.Eng Go.Proofs
set_option maxRecDepth 100000
set_option maxHeartbeats 2000000

def enc5 (x : Int) : List Value := [(Value.int .u8 x)]
theorem encL5 : ∀ x, (enc5 x).length = 1 := fun _ => rfl
theorem encO5 : ∀ x, ∀ v ∈ enc5 x, v.oneCell' = true := by intro x v hv; simp only [enc5, List.mem_cons, List.not_mem_nil, or_false] at hv; rcases hv with rfl <;> rfl
def enc39 (x : Int × (Option Addr × Nat × Nat) × Int × (Option Addr × Nat × Nat) × (Option Addr × Nat × Nat) × (Option Addr × Nat × Nat)) : List Value := [(Value.int .i64 x.1), (Value.slice x.2.1.1 x.2.1.2.1 x.2.1.2.2), (Value.int .i64 x.2.2.1), (Value.slice x.2.2.2.1.1 x.2.2.2.1.2.1 x.2.2.2.1.2.2), (Value.slice x.2.2.2.2.1.1 x.2.2.2.2.1.2.1 x.2.2.2.2.1.2.2), (Value.slice x.2.2.2.2.2.1 x.2.2.2.2.2.2.1 x.2.2.2.2.2.2.2)]
theorem encL39 : ∀ x, (enc39 x).length = 6 := fun _ => rfl
theorem encO39 : ∀ x, ∀ v ∈ enc39 x, v.oneCell' = true := by intro x v hv; simp only [enc39, List.mem_cons, List.not_mem_nil, or_false] at hv; rcases hv with rfl | rfl | rfl | rfl | rfl | rfl <;> rfl
def enc52 (x : Int) : List Value := [(Value.int .u64 x)]
theorem encL52 : ∀ x, (enc52 x).length = 1 := fun _ => rfl
theorem encO52 : ∀ x, ∀ v ∈ enc52 x, v.oneCell' = true := by intro x v hv; simp only [enc52, List.mem_cons, List.not_mem_nil, or_false] at hv; rcases hv with rfl <;> rfl
def enc55 (x : Int × Int) : List Value := [(Value.int .u32 x.1), (Value.int .i64 x.2)]
theorem encL55 : ∀ x, (enc55 x).length = 2 := fun _ => rfl
theorem encO55 : ∀ x, ∀ v ∈ enc55 x, v.oneCell' = true := by intro x v hv; simp only [enc55, List.mem_cons, List.not_mem_nil, or_false] at hv; rcases hv with rfl | rfl <;> rfl
def enc86 (x : Int × Int) : List Value := [(Value.int .u64 x.1), (Value.int .i64 x.2)]
theorem encL86 : ∀ x, (enc86 x).length = 2 := fun _ => rfl
theorem encO86 : ∀ x, ∀ v ∈ enc86 x, v.oneCell' = true := by intro x v hv; simp only [enc86, List.mem_cons, List.not_mem_nil, or_false] at hv; rcases hv with rfl | rfl <;> rfl
def va3 (x : Int) : Value := (Value.int .i64 x)
theorem sz3 : sizeT Try.prog 3 = some 1 := by kernel_rfl
theorem sz4 : sizeT Try.prog 4 = some 1 := by kernel_rfl
theorem sz22 : sizeT Try.prog 22 = some 1 := by kernel_rfl
theorem sz37 : sizeT Try.prog 37 = some 4 := by kernel_rfl
theorem sz42 : sizeT Try.prog 42 = some 5 := by kernel_rfl
theorem sz47 : sizeT Try.prog 47 = some 6 := by kernel_rfl
theorem sz72 : sizeT Try.prog 72 = some 1 := by kernel_rfl
theorem sz87 : sizeT Try.prog 87 = some 19 := by kernel_rfl
def encR47 (FL : List HP) (x : Int × Int × Int × (List (Int)) × (List (Int × Int)) × (List (Int))) (cs : List Value) : Prop := ∃ (p3 : Option Addr) (n3 c3 : Nat) (p4 : Option Addr) (n4 c4 : Nat) (p5 : Option Addr) (n5 c5 : Nat), cs = [(Value.int .i64 x.1), (Value.int .i64 x.2.1), (Value.int .i64 x.2.2.1), (Value.slice p3 n3 c3), (Value.slice p4 n4 c4), (Value.slice p5 n5 c5)] ∧ n3 = x.2.2.2.1.length ∧ n3 ≤ c3 ∧ (∀ w, Mem FL w → Rd w 1 p3 enc52 x.2.2.2.1) ∧ n4 = x.2.2.2.2.1.length ∧ n4 ≤ c4 ∧ (∀ w, Mem FL w → Rd w 2 p4 enc55 x.2.2.2.2.1) ∧ n5 = x.2.2.2.2.2.length ∧ n5 ≤ c5 ∧ (∀ w, Mem FL w → Rd w 1 p5 enc5 x.2.2.2.2.2)
theorem encRm47 {FL FL2 : List HP} (hx : ∀ w, Mem FL2 w → Mem FL w) (x : Int × Int × Int × (List (Int)) × (List (Int × Int)) × (List (Int))) (cs : List Value) : encR47 FL x cs → encR47 FL2 x cs := by
  rintro ⟨p3, n3, c3, p4, n4, c4, p5, n5, c5, rfl, l3, k3, F3, l4, k4, F4, l5, k5, F5⟩
  exact ⟨p3, n3, c3, p4, n4, c4, p5, n5, c5, rfl, l3, k3, (fun w h => F3 w (hx w h)), l4, k4, (fun w h => F4 w (hx w h)), l5, k5, (fun w h => F5 w (hx w h))⟩
theorem eqG55 : Try.prog.eqGuardType Try.prog.depth 55 = false := by kernel_rfl
theorem eqA55 : isAggB Try.prog 55 = true := by kernel_rfl
theorem eqT55 (a0 : Int) (a1 : Int) (b0 : Int) (b1 : Int) : eqT Try.prog 20 55 [(Value.int .u32 a0), (Value.int .i64 a1)] [(Value.int .u32 b0), (Value.int .i64 b1)] = some (((a0 : Int) == b0) && (((a1 : Int) == b1) && true)) := by kernel_rfl
theorem zr67 : zeroOf Try.prog 67 = some Value.nilFunc := by kernel_rfl
theorem mu69 : Try.prog.underlying 69 = some (.map 3 67) := by kernel_rfl
theorem kt3 : KeyT Try.prog 3 va3 := keyInt (by kernel_rfl)
theorem slt22 : SlT Try.prog 22 55 (Value.agg #[(Value.int .u32 0), (Value.int .i64 0)]) 2 16 := ⟨by kernel_rfl, by kernel_rfl, by kernel_rfl, by decide⟩
theorem slt72 : SlT Try.prog 72 86 (Value.agg #[(Value.int .u64 0), (Value.int .i64 0)]) 2 16 := ⟨by kernel_rfl, by kernel_rfl, by kernel_rfl, by decide⟩
theorem undP27 : Try.prog.underlying 27 = some (.pointer (Try.prog.pointee 27)) := by kernel_rfl
theorem und22 : Try.prog.underlying 22 = some (.slice 55) := by kernel_rfl
theorem und72 : Try.prog.underlying 72 = some (.slice 86) := by kernel_rfl


/-! slices.IndexFunc[[]embrasure/api.Addr,embrasure/api.Addr] (32) -/
def slices_IndexFunc_sl_api_Addr_api_Addr_wp {σ1 : Type} (s : List (Int × Int)) (s_1 : σ1) (Y1 : (Int × Int) → σ1 → (Bool → σ1 → Prop) → Prop) (K : Int → σ1 → Prop) : Prop :=
  ∃ (I : Nat → Int → σ1 → Prop), (∃ (n_4 : Nat), I n_4 0 s_1) ∧ ∀ (n_2 : Nat) (t8 : Int) (s_3 : σ1), I n_2 t8 s_3 → (cond (decide ((t8 : Int) < ((s.length : Nat) : Int))) (0 ≤ (t8 : Int) ∧ (t8 : Int) < ((s.length : Nat) : Int) ∧ (∀ (x_1 : Int × Int), s[Int.toNat t8]? = some x_1 → (Y1 x_1 s_3 (fun (t16 : Bool) (s_4 : σ1) => cond t16 (K t8 s_4) (∃ (n_3 : Nat), n_3 < n_2 ∧ I n_3 (IntKind.wrap .i64 (t8 + 1)) s_4))))) (K (-1) s_3))
theorem slices_IndexFunc_sl_api_Addr_api_Addr_ok {σ1 : Type} {A1 : σ1 → HP} {p_1 : Option Addr} {n_1 : Nat} {c_1 : Nat} {ff1 : Fn} {fa1 : Array Value} {fc1 : Array Value} {s : List (Int × Int)} {s_1 : σ1} {Y1 : (Int × Int) → σ1 → (Bool → σ1 → Prop) → Prop} {FL : List HP} {w : World} {K : Int → σ1 → Prop} {R : Value → World → Prop}
  (hY1 : ∀ (x0 : Int × Int) (s : σ1) (K : Bool → σ1 → Prop) (FL2 : List HP) (w : World) (R : Value → World → Prop), (∀ w, Mem FL2 w → Mem FL w) → Mem (A1 s :: FL2) w → Y1 x0 s K → (∀ (r : Bool) (s : σ1) (w : World), Mem (A1 s :: FL2) w → K r s → R (Value.bool r) w) → CalleeV Try.prog (Value.func ff1 fa1 fc1) #[(Value.agg #[(Value.int .u32 x0.1), (Value.int .i64 x0.2)])] w R)
  (hF_s : ∀ w, Mem FL w → Rd w 2 p_1 enc55 s) (hl_s : n_1 = s.length) (hc_s : n_1 ≤ c_1)
  (h : Mem (A1 s_1 :: FL) w) (hp : slices_IndexFunc_sl_api_Addr_api_Addr_wp s s_1 Y1 K)
  (hR : ∀ (r : Int) (s_2 : σ1) (w : World), Mem (A1 s_2 :: FL) w → K r s_2 → R (Value.int .i64 r) w) :
  CallV Try.prog 32 #[(Value.slice p_1 n_1 c_1), (Value.func ff1 fa1 fc1)] w R := by
  refine slices_IndexFunc_sl_api_Addr_api_Addr_call ?_
  unfold slices_IndexFunc_sl_api_Addr_api_Addr
  unfold slices_IndexFunc_sl_api_Addr_api_Addr_wp at hp
  subst hl_s
  obtain ⟨I, ⟨n_4, h0⟩, hq⟩ := hp
  refine ⟨fun n_2 s0p s0l s0c f1 t7 t8 w => ∃ (s_3 : σ1), p_1 = s0p ∧ s.length = s0l ∧ c_1 = s0c ∧ (Value.func ff1 fa1 fc1) = f1 ∧ ((s.length : Nat) : Int) = t7 ∧ I n_2 t8 s_3 ∧ Mem (A1 s_3 :: FL) w, ⟨n_4, s_1, rfl, rfl, rfl, rfl, rfl, h0, h⟩, ?_⟩
  clear h0 h
  rintro n_2 s0p s0l s0c f1 t7 t8 w ⟨s_3, rfl, rfl, rfl, rfl, rfl, hp, h⟩
  replace hp := hq n_2 t8 s_3 hp
  clear hq
  unfold slices_IndexFunc_sl_api_Addr_api_Addr_l1
  refine cond_both' hp (fun hp => ?_) (fun hp => ?_)
  · exact hR (-1) s_3 _ h hp
  obtain ⟨ia_1, ja_1, hp⟩ := hp
  obtain ⟨a_1, ha_1⟩ := rdAddr (hF_s _ (h.drop 1)) rfl ia_1 ja_1
  refine ⟨a_1, ha_1, ia_1, ja_1, ?_⟩
  obtain ⟨x_1, hx_1, hc⟩ := rdCell (hF_s _ (h.drop 1)) ha_1 rfl ia_1 ja_1
  replace hp := hp x_1 hx_1
  refine ⟨_, hc 0 _ rfl, _, hc 1 _ rfl, ?_⟩
  refine hY1 x_1 _ _ (FL) _ _ (fun _ h => Mem.drop 0 h) h hp ?_
  intro t16 s_4 w h hp
  refine ⟨_, rfl, ?_⟩
  refine cond_both hp (fun hp => ?_) (fun hp => ?_)
  · exact hR t8 s_4 _ h hp
  obtain ⟨n_3, hn, hp⟩ := hp
  exact ⟨n_3, hn, s_4, rfl, rfl, rfl, rfl, rfl, hp, h⟩

/-! slices.ContainsFunc[[]embrasure/api.Addr,embrasure/api.Addr] (19) -/
def slices_ContainsFunc_sl_api_Addr_api_Addr_wp {σ1 : Type} (s : List (Int × Int)) (s_1 : σ1) (Y1 : (Int × Int) → σ1 → (Bool → σ1 → Prop) → Prop) (K : Bool → σ1 → Prop) : Prop :=
  slices_IndexFunc_sl_api_Addr_api_Addr_wp s s_1 Y1 (fun (r : Int) (s_3 : σ1) => K (decide ((r : Int) ≥ 0)) s_3)
theorem slices_ContainsFunc_sl_api_Addr_api_Addr_ok {σ1 : Type} {A1 : σ1 → HP} {p_1 : Option Addr} {n_1 : Nat} {c_1 : Nat} {ff1 : Fn} {fa1 : Array Value} {fc1 : Array Value} {s : List (Int × Int)} {s_1 : σ1} {Y1 : (Int × Int) → σ1 → (Bool → σ1 → Prop) → Prop} {FL : List HP} {w : World} {K : Bool → σ1 → Prop} {R : Value → World → Prop}
  (hY1 : ∀ (x0 : Int × Int) (s : σ1) (K : Bool → σ1 → Prop) (FL2 : List HP) (w : World) (R : Value → World → Prop), (∀ w, Mem FL2 w → Mem FL w) → Mem (A1 s :: FL2) w → Y1 x0 s K → (∀ (r : Bool) (s : σ1) (w : World), Mem (A1 s :: FL2) w → K r s → R (Value.bool r) w) → CalleeV Try.prog (Value.func ff1 fa1 fc1) #[(Value.agg #[(Value.int .u32 x0.1), (Value.int .i64 x0.2)])] w R)
  (hF_s : ∀ w, Mem FL w → Rd w 2 p_1 enc55 s) (hl_s : n_1 = s.length) (hc_s : n_1 ≤ c_1)
  (h : Mem (A1 s_1 :: FL) w) (hp : slices_ContainsFunc_sl_api_Addr_api_Addr_wp s s_1 Y1 K)
  (hR : ∀ (r : Bool) (s_2 : σ1) (w : World), Mem (A1 s_2 :: FL) w → K r s_2 → R (Value.bool r) w) :
  CallV Try.prog 19 #[(Value.slice p_1 n_1 c_1), (Value.func ff1 fa1 fc1)] w R := by
  refine slices_ContainsFunc_sl_api_Addr_api_Addr_call ?_
  unfold slices_ContainsFunc_sl_api_Addr_api_Addr
  unfold slices_ContainsFunc_sl_api_Addr_api_Addr_wp at hp
  subst hl_s
  refine slices_IndexFunc_sl_api_Addr_api_Addr_ok (FL := FL) (A1 := A1) (Y1 := Y1) (σ1 := σ1) (s_1 := s_1) (fun _ _ _ FL2 w R hx => hY1 _ _ _ FL2 w R (fun w h => (Mem.drop 0 (hx w h)))) (fun w h => (hF_s _ (h.drop 0))) rfl hc_s h hp ?_
  intro r s_3 w h hp
  refine ⟨_, rfl, ?_⟩
  exact hR (decide ((r : Int) ≥ 0)) s_3 _ h hp

/-! embrasure/addr.May (21) -/
def addr_May_wp (a_Host : Int) (a_Port : Int) (K : Bool → Prop) : Prop :=
  cond ((a_Host : Int) != 0) (cond (decide ((a_Port : Int) ≥ 1)) (K (decide ((a_Port : Int) ≤ 65535))) (K false)) (K false)
theorem addr_May_ok {a_Host : Int} {a_Port : Int} {FL : List HP} {w : World} {K : Bool → Prop} {R : Value → World → Prop}
  (h : Mem (FL) w) (hp : addr_May_wp a_Host a_Port K)
  (hR : ∀ (r : Bool) (w : World), Mem (FL) w → K r → R (Value.bool r) w) :
  CallV Try.prog 21 #[(Value.agg #[(Value.int .u32 a_Host), (Value.int .i64 a_Port)])] w R := by
  refine addr_May_call ?_
  unfold addr_May
  unfold addr_May_wp at hp
  refine newL (o := [(Value.int .u32 a_Host), (Value.int .i64 a_Port)]) h ?_
  intro b_1 w h
  refine ⟨_, cellL h 0 0 rfl rfl rfl, ?_⟩
  refine cond_both' hp (fun hp => ?_) (fun hp => ?_)
  · replace h := h.sel [] 1
    dsimp only [pickL, pickR, nthH, delH, dropH, List.cons_append, List.nil_append] at h
    exact hR false _ h hp
  refine ⟨_, cellL h 0 1 rfl rfl rfl, ?_⟩
  refine cond_both' hp (fun hp => ?_) (fun hp => ?_)
  · replace h := h.sel [] 1
    dsimp only [pickL, pickR, nthH, delH, dropH, List.cons_append, List.nil_append] at h
    exact hR false _ h hp
  refine ⟨_, cellL h 0 1 rfl rfl rfl, ?_⟩
  replace h := h.sel [] 1
  dsimp only [pickL, pickR, nthH, delH, dropH, List.cons_append, List.nil_append] at h
  exact hR (decide ((a_Port : Int) ≤ 65535)) _ h hp

/-! embrasure/punch.New$1 (20) -/
def punch_New_c1_wp (a_Host : Int) (a_Port : Int) (K : Bool → Prop) : Prop :=
  addr_May_wp a_Host a_Port (fun (r : Bool) => K (!r))
theorem punch_New_c1_ok {a_Host : Int} {a_Port : Int} {FL : List HP} {w : World} {K : Bool → Prop} {R : Value → World → Prop}
  (h : Mem (FL) w) (hp : punch_New_c1_wp a_Host a_Port K)
  (hR : ∀ (r : Bool) (w : World), Mem (FL) w → K r → R (Value.bool r) w) :
  CallV Try.prog 20 #[(Value.agg #[(Value.int .u32 a_Host), (Value.int .i64 a_Port)])] w R := by
  refine punch_New_c1_call ?_
  unfold punch_New_c1
  unfold punch_New_c1_wp at hp
  refine newL (o := [(Value.int .u32 a_Host), (Value.int .i64 a_Port)]) h ?_
  intro b_1 w h
  refine ⟨_, cellL h 0 0 rfl rfl rfl, _, cellL h 0 1 rfl rfl rfl, ?_⟩
  refine addr_May_ok h hp ?_
  intro r w h hp
  refine ⟨_, rfl, ?_⟩
  replace h := h.sel [] 1
  dsimp only [pickL, pickR, nthH, delH, dropH, List.cons_append, List.nil_append] at h
  exact hR (!r) _ h hp

/-! slices.Clone[[]embrasure/api.Addr,embrasure/api.Addr] (22) -/
def slices_Clone_sl_api_Addr_api_Addr_wp (s : List (Int × Int)) (K : List (Int × Int) → Prop) : Prop :=
  ∀ (nil : Bool), (nil = true → s = []) → (cond nil (K ([] : List (Int × Int))) ((([] : List (Int × Int)).length + s.length) * 16 ≤ 140737488355328 ∧ (K (([] : List (Int × Int)) ++ s))))
theorem slices_Clone_sl_api_Addr_api_Addr_ok {p_1 : Option Addr} {n_1 : Nat} {c_1 : Nat} {s : List (Int × Int)} {FL : List HP} {w : World} {K : List (Int × Int) → Prop} {R : Value → World → Prop}
  (hF_s : ∀ w, Mem FL w → Rd w 2 p_1 enc55 s) (hl_s : n_1 = s.length) (hc_s : n_1 ≤ c_1)
  (h : Mem (FL) w) (hp : slices_Clone_sl_api_Addr_api_Addr_wp s K)
  (hR : ∀ (rs : List (Int × Int)) (p_2 : Option Addr) (n_2 : Nat) (c_2 : Nat) (w : World), n_2 = rs.length → Mem (row enc55 55 2 p_2 c_2 rs :: FL) w → K rs → R (Value.slice p_2 n_2 c_2) w) :
  CallV Try.prog 22 #[(Value.slice p_1 n_1 c_1)] w R := by
  refine slices_Clone_sl_api_Addr_api_Addr_call ?_
  unfold slices_Clone_sl_api_Addr_api_Addr
  unfold slices_Clone_sl_api_Addr_api_Addr_wp at hp
  subst hl_s
  obtain ⟨nil, hnil⟩ : ∃ b : Bool, Option.isNone p_1 = b := ⟨_, rfl⟩
  replace hp := hp nil (nilEmpty (hF_s _ (h.drop 0)) hnil)
  refine eqlSlNil und22 hnil ?_
  refine ⟨_, rfl, ?_⟩
  refine cond_both hp (fun hp => ?_) (fun hp => ?_)
  · replace h := rowNil enc55 55 2 h
    exact hR ([] : List (Int × Int)) (none ) 0 0 _ rfl h hp
  refine newL (o := []) h ?_
  intro b_1 w h
  have sr := (hF_s _ (h.drop 1))
  replace h := rowOfCel h 0 encL55 rfl ([] : List (Int × Int)) rfl
  dsimp only [setH, setVs, setV] at h
  obtain ⟨hb, hp⟩ := hp
  refine appendL slt22 und22 encL55 encO55 h 0 rfl rfl sr rfl hb ?_
  intro p_3 c_2 w h
  dsimp only [setH, setVs, setV] at h
  have cpp_3 := rowCap h 0 rfl
  refine ⟨_, _, _, rfl, ?_⟩
  exact hR (([] : List (Int × Int)) ++ s) p_3 ((([] : List (Int × Int)) ++ s).length) c_2 _ rfl h hp

/-! embrasure/rtt.New (23) -/
def rtt_New_wp  (K : List (Int × Int) → Int → Int → Bool → Prop) : Prop :=
  K ([] : List (Int × Int)) 0 0 false
theorem rtt_New_ok  {FL : List HP} {w : World} {K : List (Int × Int) → Int → Int → Bool → Prop} {R : Value → World → Prop}
  (h : Mem (FL) w) (hp : rtt_New_wp  K)
  (hR : ∀ (marks : List (Int × Int)) (mean : Int) (dev : Int) (any : Bool) (b_1 : Nat) (p_1 : Option Addr) (n_1 : Nat) (c_1 : Nat) (w : World), n_1 = marks.length → Mem (cel b_1 74 [(Value.slice p_1 n_1 c_1), (Value.int .i64 mean), (Value.int .i64 dev), (Value.bool any)] :: row enc86 86 2 p_1 c_1 marks :: FL) w → K marks mean dev any → R (Value.pointer (some (Addr.mk b_1 0 none))) w) :
  CallV Try.prog 23 #[] w R := by
  refine rtt_New_call ?_
  unfold rtt_New
  unfold rtt_New_wp at hp
  refine newL (o := [(Value.slice none 0 0), (Value.int .i64 0), (Value.int .i64 0), (Value.bool false)]) h ?_
  intro b_1 w h
  replace h := rowNil enc86 86 2 h
  replace h := h.sel [1, 0] 0
  dsimp only [pickL, pickR, nthH, delH, dropH, List.cons_append, List.nil_append] at h
  exact hR ([] : List (Int × Int)) 0 0 false b_1 (none ) 0 0 _ rfl h hp

/-! embrasure/punch.New (9) -/
def punch_New_wp (own : List (Int × Int)) (K : Int → Prop) (KX1 : Int → Int → Bool → Int → Int → List (Int × Int) → List (Int × Int) → List (Int × Int) → Int → Int → Bool → Int → Prop) : Prop :=
  joinP1 (fun (t10 : Bool) => cond t10 (K 1) (slices_Clone_sl_api_Addr_api_Addr_wp own (fun (rs : List (Int × Int)) => rtt_New_wp (fun (marks : List (Int × Int)) (mean : Int) (dev : Int) (any : Bool) => KX1 0 0 false 0 0 ([] : List (Int × Int)) rs marks mean dev any 0)))) (fun (Q : Bool → Prop) => cond (decide ((((own.length : Nat) : Int) : Int) > 8)) (Q true) (slices_ContainsFunc_sl_api_Addr_api_Addr_wp own () (fun x_1 s K_1 => punch_New_c1_wp x_1.1 x_1.2 (fun (r : Bool) => K_1 r s)) (fun (r : Bool) (s_1 : (Unit)) => Q r)))
theorem punch_New_ok {p_1 : Option Addr} {n_1 : Nat} {c_1 : Nat} {own : List (Int × Int)} {FL : List HP} {w : World} {K : Int → Prop} {KX1 : Int → Int → Bool → Int → Int → List (Int × Int) → List (Int × Int) → List (Int × Int) → Int → Int → Bool → Int → Prop} {R : Value → World → Prop}
  (hF_own : ∀ w, Mem FL w → Rd w 2 p_1 enc55 own) (hl_own : n_1 = own.length) (hc_own : n_1 ≤ c_1)
  (h : Mem (FL) w) (hp : punch_New_wp own K KX1)
  (hR : ∀ (r : Int) (w : World), Mem (FL) w → K r → R (Value.tuple #[(Value.pointer none), (Value.int .i64 r)]) w)
  (hRX1 : ∀ (r : Int) (h_1 : Int) (h_2 : Bool) (h_3 : Int) (h_4 : Int) (h_5 : List (Int × Int)) (own_1 : List (Int × Int)) (marks : List (Int × Int)) (mean : Int) (dev : Int) (any : Bool) (now : Int) (b_1 : Nat) (p_2 : Option Addr) (n_2 : Nat) (c_2 : Nat) (p_3 : Option Addr) (n_3 : Nat) (c_3 : Nat) (b_2 : Nat) (p_4 : Option Addr) (n_4 : Nat) (c_4 : Nat) (w : World), n_2 = h_5.length → n_3 = own_1.length → n_4 = marks.length → Mem (cel b_1 64 [(Value.int .i64 h_1), (Value.bool h_2), (Value.int .i64 h_3), (Value.int .i64 h_4), (Value.slice p_2 n_2 c_2), (Value.slice p_3 n_3 c_3), (Value.pointer (some (Addr.mk b_2 0 none))), (Value.int .i64 now)] :: row enc55 55 2 p_2 c_2 h_5 :: row enc55 55 2 p_3 c_3 own_1 :: cel b_2 74 [(Value.slice p_4 n_4 c_4), (Value.int .i64 mean), (Value.int .i64 dev), (Value.bool any)] :: row enc86 86 2 p_4 c_4 marks :: FL) w → KX1 r h_1 h_2 h_3 h_4 h_5 own_1 marks mean dev any now → R (Value.tuple #[(Value.pointer (some (Addr.mk b_1 0 none))), (Value.int .i64 r)]) w) :
  CallV Try.prog 9 #[(Value.slice p_1 n_1 c_1)] w R := by
  refine punch_New_call ?_
  unfold punch_New
  unfold punch_New_wp at hp
  subst hl_own
  obtain ⟨Q, hq, hp⟩ := hp
  refine ⟨fun own0p own0l own0c t10 w => p_1 = own0p ∧ own.length = own0l ∧ c_1 = own0c ∧ Q t10 ∧ Mem (FL) w, ?_, ?_⟩
  · rintro own0p own0l own0c t10 w ⟨rfl, rfl, rfl, hp, h⟩
    replace hp := hq t10 hp
    unfold punch_New_j1
    refine cond_both hp (fun hp => ?_) (fun hp => ?_)
    · exact hR 1 _ h hp
    refine slices_Clone_sl_api_Addr_api_Addr_ok (FL := FL) (fun w h => (hF_own _ (h.drop 0))) rfl hc_own h hp ?_
    rintro rs p_2 n_2 c_2 w rfl h hp
    have cpp_2 := rowCap h 0 rfl
    refine ⟨_, _, _, rfl, ?_⟩
    refine rtt_New_ok h hp ?_
    rintro marks mean dev any b_1 p_3 n_3 c_3 w rfl h hp
    have cpp_3 := rowCap h 1 rfl
    refine ⟨_, rfl, ?_⟩
    refine newL (o := [(Value.int .i64 0), (Value.bool false), (Value.int .i64 0), (Value.int .i64 0), (Value.slice none 0 0), (Value.slice p_2 rs.length c_2), (Value.pointer (some (Addr.mk b_1 0 none))), (Value.int .i64 0)]) h ?_
    intro b_2 w h
    replace h := rowNil enc55 55 2 h
    replace h := h.sel [1, 0, 2, 0, 0] 0
    dsimp only [pickL, pickR, nthH, delH, dropH, List.cons_append, List.nil_append] at h
    exact hRX1 0 0 false 0 0 ([] : List (Int × Int)) rs marks mean dev any 0 b_2 (none ) 0 0 p_2 rs.length c_2 b_1 p_3 marks.length c_3 _ rfl rfl rfl h hp
  clear hq
  refine cond_both hp (fun hp => ?_) (fun hp => ?_)
  · exact ⟨rfl, rfl, rfl, hp, h⟩
  replace h : Mem ((fun (_ : Unit) => HL []) () :: FL) _ := h.pack 0 [] rfl
  refine slices_ContainsFunc_sl_api_Addr_api_Addr_ok (FL := FL) (A1 := (fun (_ : Unit) => HL [])) (Y1 := (fun x_1 s K_1 => punch_New_c1_wp x_1.1 x_1.2 (fun (r : Bool) => K_1 r s))) (σ1 := Unit) (s_1 := ()) ?_ (fun w h => (hF_own _ (h.drop 0))) rfl hc_own h hp ?_
  · intro x_1 s K FL2 w R hx h hp hR
    replace h := h.unpack
    dsimp only [pickL, pickR, nthH, delH, dropH, List.cons_append, List.nil_append] at h
    refine calleeFn (by kernel_rfl) ?_
    refine punch_New_c1_ok h hp ?_
    intro r w h hp
    exact hR r s _ (h.pack 0 [] rfl) hp
  intro r s_1 w h hp
  replace h := h.unpack
  dsimp only [pickL, pickR, nthH, delH, dropH, List.cons_append, List.nil_append] at h
  refine ⟨_, rfl, ?_⟩
  exact ⟨rfl, rfl, rfl, hp, h⟩

/-! (*embrasure/punch.Puncher).on (24) -/
def punch_Puncher_on_wp (h_1 : Int) (h_2 : Bool) (h_3 : Int) (h_4 : Int) (mean : Int) (dev : Int) (any : Bool) (now : Int) (now_1 : Int) (K : Bool → Int → Prop) : Prop :=
  joinP1 (fun (t14 : Bool) => cond t14 (K false now) (K true now_1)) (fun (Q : Bool → Prop) => cond (decide ((now_1 : Int) < now)) (Q true) (Q (decide ((now_1 : Int) > 1099511627776))))
theorem punch_Puncher_on_ok {b_1 : Nat} {p_1 : Option Addr} {n_1 : Nat} {c_1 : Nat} {p_2 : Option Addr} {n_2 : Nat} {c_2 : Nat} {b_2 : Nat} {p_3 : Option Addr} {n_3 : Nat} {c_3 : Nat} {h_1 : Int} {h_2 : Bool} {h_3 : Int} {h_4 : Int} {mean : Int} {dev : Int} {any : Bool} {now : Int} {now_1 : Int} {FL : List HP} {w : World} {K : Bool → Int → Prop} {R : Value → World → Prop}
  (h : Mem (cel b_1 64 [(Value.int .i64 h_1), (Value.bool h_2), (Value.int .i64 h_3), (Value.int .i64 h_4), (Value.slice p_1 n_1 c_1), (Value.slice p_2 n_2 c_2), (Value.pointer (some (Addr.mk b_2 0 none))), (Value.int .i64 now)] :: cel b_2 74 [(Value.slice p_3 n_3 c_3), (Value.int .i64 mean), (Value.int .i64 dev), (Value.bool any)] :: FL) w) (hp : punch_Puncher_on_wp h_1 h_2 h_3 h_4 mean dev any now now_1 K)
  (hR : ∀ (r : Bool) (now_2 : Int) (w : World), Mem (cel b_1 64 [(Value.int .i64 h_1), (Value.bool h_2), (Value.int .i64 h_3), (Value.int .i64 h_4), (Value.slice p_1 n_1 c_1), (Value.slice p_2 n_2 c_2), (Value.pointer (some (Addr.mk b_2 0 none))), (Value.int .i64 now_2)] :: cel b_2 74 [(Value.slice p_3 n_3 c_3), (Value.int .i64 mean), (Value.int .i64 dev), (Value.bool any)] :: FL) w → K r now_2 → R (Value.bool r) w) :
  CallV Try.prog 24 #[(Value.pointer (some (Addr.mk b_1 0 none))), (Value.int .i64 now_1)] w R := by
  refine punch_Puncher_on_call ?_
  unfold punch_Puncher_on
  unfold punch_Puncher_on_wp at hp
  obtain ⟨Q, hq, hp⟩ := hp
  refine ⟨fun p0 now1 t14 w => (some (Addr.mk b_1 0 none)) = p0 ∧ now_1 = now1 ∧ Q t14 ∧ Mem (cel b_1 64 [(Value.int .i64 h_1), (Value.bool h_2), (Value.int .i64 h_3), (Value.int .i64 h_4), (Value.slice p_1 n_1 c_1), (Value.slice p_2 n_2 c_2), (Value.pointer (some (Addr.mk b_2 0 none))), (Value.int .i64 now)] :: cel b_2 74 [(Value.slice p_3 n_3 c_3), (Value.int .i64 mean), (Value.int .i64 dev), (Value.bool any)] :: FL) w, ?_, ?_⟩
  · rintro p0 now1 t14 w ⟨rfl, rfl, hp, h⟩
    replace hp := hq t14 hp
    unfold punch_Puncher_on_j1
    refine cond_both hp (fun hp => ?_) (fun hp => ?_)
    · exact hR false now _ h hp
    refine ⟨_, rfl, ?_⟩
    refine storeL (ys := [(Value.int .i64 now_1)]) h 0 7 rfl rfl rfl sz3 rfl rfl ?_
    intro w h
    dsimp only [setH, setVs, setV] at h
    exact hR true now_1 _ h hp
  clear hq
  refine ⟨_, rfl, ?_⟩
  refine ⟨_, cellL h 0 7 rfl rfl rfl, ?_⟩
  refine cond_both hp (fun hp => ?_) (fun hp => ?_)
  · exact ⟨rfl, rfl, hp, h⟩
  exact ⟨rfl, rfl, hp, h⟩

/-! (*embrasure/rtt.Meter).place$1 (51) -/
def rtt_Meter_place_c1_wp (x_no : Int) (x_at : Int) (t : Int) (K : Bool → Prop) : Prop :=
  K ((x_no : Int) == t)
theorem rtt_Meter_place_c1_ok {b_1 : Nat} {x_no : Int} {x_at : Int} {t : Int} {FL : List HP} {w : World} {K : Bool → Prop} {R : Value → World → Prop}
  (h : Mem (cel b_1 52 [(Value.int .u64 t)] :: FL) w) (hp : rtt_Meter_place_c1_wp x_no x_at t K)
  (hR : ∀ (r : Bool) (w : World), Mem (cel b_1 52 [(Value.int .u64 t)] :: FL) w → K r → R (Value.bool r) w) :
  CallV Try.prog 51 #[(Value.agg #[(Value.int .u64 x_no), (Value.int .i64 x_at)]), (Value.pointer (some (Addr.mk b_1 0 none)))] w R := by
  refine rtt_Meter_place_c1_call ?_
  unfold rtt_Meter_place_c1
  unfold rtt_Meter_place_c1_wp at hp
  refine newL (o := [(Value.int .u64 x_no), (Value.int .i64 x_at)]) h ?_
  intro b_2 w h
  refine ⟨_, cellL h 0 0 rfl rfl rfl, ?_⟩
  refine ⟨_, cellL h 1 0 rfl rfl rfl, ?_⟩
  replace h := h.sel [1] 1
  dsimp only [pickL, pickR, nthH, delH, dropH, List.cons_append, List.nil_append] at h
  exact hR ((x_no : Int) == t) _ h hp

/-! slices.IndexFunc[[]embrasure/rtt.mark,embrasure/rtt.mark] (50) -/
def slices_IndexFunc_sl_rtt_mark_rtt_mark_wp {σ1 : Type} (s : List (Int × Int)) (s_1 : σ1) (Y1 : (Int × Int) → σ1 → (Bool → σ1 → Prop) → Prop) (K : Int → σ1 → Prop) : Prop :=
  ∃ (I : Nat → Int → σ1 → Prop), (∃ (n_4 : Nat), I n_4 0 s_1) ∧ ∀ (n_2 : Nat) (t8 : Int) (s_3 : σ1), I n_2 t8 s_3 → (cond (decide ((t8 : Int) < ((s.length : Nat) : Int))) (0 ≤ (t8 : Int) ∧ (t8 : Int) < ((s.length : Nat) : Int) ∧ (∀ (x_1 : Int × Int), s[Int.toNat t8]? = some x_1 → (Y1 x_1 s_3 (fun (t16 : Bool) (s_4 : σ1) => cond t16 (K t8 s_4) (∃ (n_3 : Nat), n_3 < n_2 ∧ I n_3 (IntKind.wrap .i64 (t8 + 1)) s_4))))) (K (-1) s_3))
theorem slices_IndexFunc_sl_rtt_mark_rtt_mark_ok {σ1 : Type} {A1 : σ1 → HP} {p_1 : Option Addr} {n_1 : Nat} {c_1 : Nat} {ff1 : Fn} {fa1 : Array Value} {fc1 : Array Value} {s : List (Int × Int)} {s_1 : σ1} {Y1 : (Int × Int) → σ1 → (Bool → σ1 → Prop) → Prop} {FL : List HP} {w : World} {K : Int → σ1 → Prop} {R : Value → World → Prop}
  (hY1 : ∀ (x0 : Int × Int) (s : σ1) (K : Bool → σ1 → Prop) (FL2 : List HP) (w : World) (R : Value → World → Prop), (∀ w, Mem FL2 w → Mem FL w) → Mem (A1 s :: FL2) w → Y1 x0 s K → (∀ (r : Bool) (s : σ1) (w : World), Mem (A1 s :: FL2) w → K r s → R (Value.bool r) w) → CalleeV Try.prog (Value.func ff1 fa1 fc1) #[(Value.agg #[(Value.int .u64 x0.1), (Value.int .i64 x0.2)])] w R)
  (hF_s : ∀ w, Mem FL w → Rd w 2 p_1 enc86 s) (hl_s : n_1 = s.length) (hc_s : n_1 ≤ c_1)
  (h : Mem (A1 s_1 :: FL) w) (hp : slices_IndexFunc_sl_rtt_mark_rtt_mark_wp s s_1 Y1 K)
  (hR : ∀ (r : Int) (s_2 : σ1) (w : World), Mem (A1 s_2 :: FL) w → K r s_2 → R (Value.int .i64 r) w) :
  CallV Try.prog 50 #[(Value.slice p_1 n_1 c_1), (Value.func ff1 fa1 fc1)] w R := by
  refine slices_IndexFunc_sl_rtt_mark_rtt_mark_call ?_
  unfold slices_IndexFunc_sl_rtt_mark_rtt_mark
  unfold slices_IndexFunc_sl_rtt_mark_rtt_mark_wp at hp
  subst hl_s
  obtain ⟨I, ⟨n_4, h0⟩, hq⟩ := hp
  refine ⟨fun n_2 s0p s0l s0c f1 t7 t8 w => ∃ (s_3 : σ1), p_1 = s0p ∧ s.length = s0l ∧ c_1 = s0c ∧ (Value.func ff1 fa1 fc1) = f1 ∧ ((s.length : Nat) : Int) = t7 ∧ I n_2 t8 s_3 ∧ Mem (A1 s_3 :: FL) w, ⟨n_4, s_1, rfl, rfl, rfl, rfl, rfl, h0, h⟩, ?_⟩
  clear h0 h
  rintro n_2 s0p s0l s0c f1 t7 t8 w ⟨s_3, rfl, rfl, rfl, rfl, rfl, hp, h⟩
  replace hp := hq n_2 t8 s_3 hp
  clear hq
  unfold slices_IndexFunc_sl_rtt_mark_rtt_mark_l1
  refine cond_both' hp (fun hp => ?_) (fun hp => ?_)
  · exact hR (-1) s_3 _ h hp
  obtain ⟨ia_1, ja_1, hp⟩ := hp
  obtain ⟨a_1, ha_1⟩ := rdAddr (hF_s _ (h.drop 1)) rfl ia_1 ja_1
  refine ⟨a_1, ha_1, ia_1, ja_1, ?_⟩
  obtain ⟨x_1, hx_1, hc⟩ := rdCell (hF_s _ (h.drop 1)) ha_1 rfl ia_1 ja_1
  replace hp := hp x_1 hx_1
  refine ⟨_, hc 0 _ rfl, _, hc 1 _ rfl, ?_⟩
  refine hY1 x_1 _ _ (FL) _ _ (fun _ h => Mem.drop 0 h) h hp ?_
  intro t16 s_4 w h hp
  refine ⟨_, rfl, ?_⟩
  refine cond_both hp (fun hp => ?_) (fun hp => ?_)
  · exact hR t8 s_4 _ h hp
  obtain ⟨n_3, hn, hp⟩ := hp
  exact ⟨n_3, hn, s_4, rfl, rfl, rfl, rfl, rfl, hp, h⟩

/-! (*embrasure/rtt.Meter).place (43) -/
def rtt_Meter_place_wp (marks : List (Int × Int)) (mean : Int) (dev : Int) (any : Bool) (no : Int) (K : Int → Prop) : Prop :=
  slices_IndexFunc_sl_rtt_mark_rtt_mark_wp marks () (fun x_1 s K_1 => rtt_Meter_place_c1_wp x_1.1 x_1.2 no (fun (r : Bool) => K_1 r s)) (fun (r : Int) (s_1 : (Unit)) => K r)
theorem rtt_Meter_place_ok {b_1 : Nat} {p_1 : Option Addr} {c_1 : Nat} {marks : List (Int × Int)} {mean : Int} {dev : Int} {any : Bool} {no : Int} {FL : List HP} {w : World} {K : Int → Prop} {R : Value → World → Prop}
  (h : Mem (cel b_1 74 [(Value.slice p_1 marks.length c_1), (Value.int .i64 mean), (Value.int .i64 dev), (Value.bool any)] :: row enc86 86 2 p_1 c_1 marks :: FL) w) (hp : rtt_Meter_place_wp marks mean dev any no K)
  (hR : ∀ (r : Int) (w : World), Mem (cel b_1 74 [(Value.slice p_1 marks.length c_1), (Value.int .i64 mean), (Value.int .i64 dev), (Value.bool any)] :: row enc86 86 2 p_1 c_1 marks :: FL) w → K r → R (Value.int .i64 r) w) :
  CallV Try.prog 43 #[(Value.pointer (some (Addr.mk b_1 0 none))), (Value.int .u64 no)] w R := by
  refine rtt_Meter_place_call ?_
  unfold rtt_Meter_place
  unfold rtt_Meter_place_wp at hp
  have cpp_1 := rowCap h 1 rfl
  refine newL (o := [(Value.int .u64 no)]) h ?_
  intro b_2 w h
  refine ⟨_, rfl, ?_⟩
  refine ⟨_, _, _, cellL h 1 0 rfl rfl rfl, ?_⟩
  replace h : Mem ((fun (_ : Unit) => HL [cel b_2 52 [(Value.int .u64 no)]]) () :: cel b_1 74 [(Value.slice p_1 marks.length c_1), (Value.int .i64 mean), (Value.int .i64 dev), (Value.bool any)] :: row enc86 86 2 p_1 c_1 marks :: FL) _ := h.pack 1 [cel b_2 52 [(Value.int .u64 no)]] rfl
  refine slices_IndexFunc_sl_rtt_mark_rtt_mark_ok (FL := cel b_1 74 [(Value.slice p_1 marks.length c_1), (Value.int .i64 mean), (Value.int .i64 dev), (Value.bool any)] :: row enc86 86 2 p_1 c_1 marks :: FL) (A1 := (fun (_ : Unit) => HL [cel b_2 52 [(Value.int .u64 no)]])) (Y1 := (fun x_1 s K_1 => rtt_Meter_place_c1_wp x_1.1 x_1.2 no (fun (r : Bool) => K_1 r s))) (σ1 := Unit) (s_1 := ()) ?_ (fun w h => (rowRd h 1 encL86 rfl)) rfl cpp_1 h hp ?_
  · intro x_1 s K FL2 w R hx h hp hR
    replace h := h.unpack
    dsimp only [pickL, pickR, nthH, delH, dropH, List.cons_append, List.nil_append] at h
    refine calleeFn (by kernel_rfl) ?_
    refine rtt_Meter_place_c1_ok h hp ?_
    intro r w h hp
    exact hR r s _ (h.pack 1 [cel b_2 52 [(Value.int .u64 no)]] rfl) hp
  intro r s_1 w h hp
  replace h := h.unpack
  dsimp only [pickL, pickR, nthH, delH, dropH, List.cons_append, List.nil_append] at h
  refine ⟨_, rfl, ?_⟩
  replace h := h.sel [1, 1] 1
  dsimp only [pickL, pickR, nthH, delH, dropH, List.cons_append, List.nil_append] at h
  exact hR r _ h hp

/-! (*embrasure/rtt.Meter).drop (44) -/
def rtt_Meter_drop_wp (marks : List (Int × Int)) (mean : Int) (dev : Int) (any : Bool) (i : Int) (K : List (Int × Int) → Prop) : Prop :=
  0 ≤ (i : Int) ∧ (i : Int) ≤ ((marks.length : Nat) : Int) ∧ 0 ≤ (i : Int) ∧ (i : Int) ≤ (i : Int) ∧ (0 ≤ ((IntKind.wrap .i64 (i + 1)) : Int) ∧ ((IntKind.wrap .i64 (i + 1)) : Int) ≤ ((marks.length : Nat) : Int) ∧ ((((marks.take (Int.toNat i)).drop 0).length + ((marks.take marks.length).drop (Int.toNat (IntKind.wrap .i64 (i + 1)))).length) * 16 ≤ 140737488355328 ∧ (K (((marks.take (Int.toNat i)).drop 0) ++ ((marks.take marks.length).drop (Int.toNat (IntKind.wrap .i64 (i + 1))))))))
theorem rtt_Meter_drop_ok {b_1 : Nat} {p_1 : Option Addr} {c_1 : Nat} {marks : List (Int × Int)} {mean : Int} {dev : Int} {any : Bool} {i : Int} {FL : List HP} {w : World} {K : List (Int × Int) → Prop} {R : Value → World → Prop}
  (h : Mem (cel b_1 74 [(Value.slice p_1 marks.length c_1), (Value.int .i64 mean), (Value.int .i64 dev), (Value.bool any)] :: row enc86 86 2 p_1 c_1 marks :: FL) w) (hp : rtt_Meter_drop_wp marks mean dev any i K)
  (hR : ∀ (marks_1 : List (Int × Int)) (p_2 : Option Addr) (n_1 : Nat) (c_2 : Nat) (w : World), n_1 = marks_1.length → Mem (cel b_1 74 [(Value.slice p_2 n_1 c_2), (Value.int .i64 mean), (Value.int .i64 dev), (Value.bool any)] :: row enc86 86 2 p_2 c_2 marks_1 :: FL) w → K marks_1 → R undef w) :
  CallV Try.prog 44 #[(Value.pointer (some (Addr.mk b_1 0 none))), (Value.int .i64 i)] w R := by
  refine rtt_Meter_drop_call ?_
  unfold rtt_Meter_drop
  unfold rtt_Meter_drop_wp at hp
  have cpp_1 := rowCap h 1 rfl
  replace h := h.drew
  refine ⟨_, rfl, ?_⟩
  refine ⟨_, _, _, cellL h 0 0 rfl rfl rfl, ?_⟩
  obtain ⟨g_1ma, g_1mb, g_1ha, g_1hb, hp⟩ := hp
  have vg_1_lh : 0 ≤ (Int.toNat i) := (Nat.zero_le _)
  have vg_1_hm : (Int.toNat i) ≤ (Int.toNat i) := (natLe2 g_1ha g_1ma g_1hb)
  have vg_1_mc : (Int.toNat i) ≤ c_1 := (Nat.le_trans (natLe g_1ma g_1mb) cpp_1)
  have vg_1_hl : (Int.toNat i) ≤ marks.length := (leLen g_1ha (Int.le_trans g_1hb g_1mb) rfl)
  refine ⟨g_1ma, (leCap g_1mb cpp_1), g_1ha, (leNat g_1ma g_1hb), ?_⟩
  refine ⟨_, rfl, ?_⟩
  refine ⟨_, _, _, cellL h 0 0 rfl rfl rfl, ?_⟩
  obtain ⟨g_2la, g_2lb, hp⟩ := hp
  have vg_2_lh : (Int.toNat (IntKind.wrap .i64 (i + 1))) ≤ marks.length := (natLe g_2la g_2lb)
  have vg_2_hm : marks.length ≤ c_1 := cpp_1
  have vg_2_mc : c_1 ≤ c_1 := (Nat.le_refl _)
  have vg_2_hl : marks.length ≤ marks.length := (Nat.le_of_eq rfl)
  refine ⟨g_2la, g_2lb, ?_⟩
  have sr := (Rd.view (rowRd h 1 encL86 rfl) (l := (Int.toNat (IntKind.wrap .i64 (i + 1)))) (h := marks.length) (m := c_1) vg_2_hm)
  replace h := rowShrink h 1 encL86 rfl (l := 0) (hi := (Int.toNat i)) (m := (Int.toNat i)) vg_1_lh vg_1_hm vg_1_mc vg_1_hl
  dsimp only [setH, setVs, setV] at h
  obtain ⟨hb, hp⟩ := hp
  refine appendL slt72 und72 encL86 encO86 h 1 rfl (viewLen vg_1_hl) sr (viewLen vg_2_hl) hb ?_
  intro p_3 c_3 w h
  dsimp only [setH, setVs, setV] at h
  have cpp_3 := rowCap h 1 rfl
  refine ⟨_, _, _, rfl, ?_⟩
  refine ⟨_, rfl, ?_⟩
  refine storeL (ys := [(Value.slice p_3 (((marks.take (Int.toNat i)).drop 0) ++ ((marks.take marks.length).drop (Int.toNat (IntKind.wrap .i64 (i + 1))))).length c_3)]) h 0 0 rfl rfl rfl sz72 rfl rfl ?_
  intro w h
  dsimp only [setH, setVs, setV] at h
  exact hR (((marks.take (Int.toNat i)).drop 0) ++ ((marks.take marks.length).drop (Int.toNat (IntKind.wrap .i64 (i + 1))))) p_3 ((((marks.take (Int.toNat i)).drop 0) ++ ((marks.take marks.length).drop (Int.toNat (IntKind.wrap .i64 (i + 1))))).length) c_3 _ rfl h hp

/-! (*embrasure/rtt.Meter).Sent (33) -/
def rtt_Meter_Sent_wp (marks : List (Int × Int)) (mean : Int) (dev : Int) (any : Bool) (now : Int) (no : Int) (K : Int → List (Int × Int) → Prop) : Prop :=
  joinP1 (fun (t13 : Bool) => cond t13 (K 1 marks) (joinP1 (fun (marks_2 : List (Int × Int)) => (marks_2.length + [(no, now)].length) * 16 ≤ 140737488355328 ∧ (cond (decide (((((marks_2 ++ [(no, now)]).length : Nat) : Int) : Int) > 30)) (rtt_Meter_drop_wp (marks_2 ++ [(no, now)]) mean dev any 0 (fun (marks_4 : List (Int × Int)) => K 0 marks_4)) (K 0 (marks_2 ++ [(no, now)])))) (fun (Q_1 : List (Int × Int) → Prop) => rtt_Meter_place_wp marks mean dev any no (fun (r : Int) => cond (decide ((r : Int) ≥ 0)) (rtt_Meter_drop_wp marks mean dev any r (fun (marks_3 : List (Int × Int)) => Q_1 marks_3)) (Q_1 marks))))) (fun (Q : Bool → Prop) => cond (decide ((now : Int) < 0)) (Q true) (Q (decide ((now : Int) > 1099511627776))))
theorem rtt_Meter_Sent_ok {b_1 : Nat} {p_1 : Option Addr} {c_1 : Nat} {marks : List (Int × Int)} {mean : Int} {dev : Int} {any : Bool} {now : Int} {no : Int} {FL : List HP} {w : World} {K : Int → List (Int × Int) → Prop} {R : Value → World → Prop}
  (h : Mem (cel b_1 74 [(Value.slice p_1 marks.length c_1), (Value.int .i64 mean), (Value.int .i64 dev), (Value.bool any)] :: row enc86 86 2 p_1 c_1 marks :: FL) w) (hp : rtt_Meter_Sent_wp marks mean dev any now no K)
  (hR : ∀ (r : Int) (marks_1 : List (Int × Int)) (p_2 : Option Addr) (n_1 : Nat) (c_2 : Nat) (w : World), n_1 = marks_1.length → Mem (cel b_1 74 [(Value.slice p_2 n_1 c_2), (Value.int .i64 mean), (Value.int .i64 dev), (Value.bool any)] :: row enc86 86 2 p_2 c_2 marks_1 :: FL) w → K r marks_1 → R (Value.int .i64 r) w) :
  CallV Try.prog 33 #[(Value.pointer (some (Addr.mk b_1 0 none))), (Value.int .i64 now), (Value.int .u64 no)] w R := by
  refine rtt_Meter_Sent_call ?_
  unfold rtt_Meter_Sent
  unfold rtt_Meter_Sent_wp at hp
  have cpp_1 := rowCap h 1 rfl
  obtain ⟨Q, hq, hp⟩ := hp
  refine ⟨fun m0 now1 no2 t13 w => (some (Addr.mk b_1 0 none)) = m0 ∧ now = now1 ∧ no = no2 ∧ Q t13 ∧ Mem (cel b_1 74 [(Value.slice p_1 marks.length c_1), (Value.int .i64 mean), (Value.int .i64 dev), (Value.bool any)] :: row enc86 86 2 p_1 c_1 marks :: FL) w, ?_, ?_⟩
  · rintro m0 now1 no2 t13 w ⟨rfl, rfl, rfl, hp, h⟩
    replace hp := hq t13 hp
    unfold rtt_Meter_Sent_j1
    refine cond_both hp (fun hp => ?_) (fun hp => ?_)
    · exact hR 1 marks p_1 marks.length c_1 _ rfl h hp
    obtain ⟨Q_1, hq, hp⟩ := hp
    refine ⟨fun m0_1 now1_1 no2_1 w => ∃ (marks_2 : List (Int × Int)), ∃ (p_3 : Option Addr), ∃ (n_2 : Nat), ∃ (c_3 : Nat), (some (Addr.mk b_1 0 none)) = m0_1 ∧ now = now1_1 ∧ no = no2_1 ∧ n_2 = marks_2.length ∧ Q_1 marks_2 ∧ Mem (cel b_1 74 [(Value.slice p_3 n_2 c_3), (Value.int .i64 mean), (Value.int .i64 dev), (Value.bool any)] :: row enc86 86 2 p_3 c_3 marks_2 :: FL) w, ?_, ?_⟩
    · rintro m0_1 now1_1 no2_1 w ⟨marks_2, p_3, n_2, c_3, rfl, rfl, rfl, rfl, hp, h⟩
      replace hp := hq marks_2 hp
      unfold rtt_Meter_Sent_j2
      have cpp_3 := rowCap h 1 rfl
      refine ⟨_, rfl, ?_⟩
      refine ⟨_, _, _, cellL h 0 0 rfl rfl rfl, ?_⟩
      refine newL (o := [(Value.int .u64 no), (Value.int .i64 now)]) h ?_
      intro b_2 w h
      have sr := (celRd h 0 encL86 rfl [(no, now)] rfl)
      obtain ⟨hb, hp⟩ := hp
      refine appendL slt72 und72 encL86 encO86 h 2 rfl rfl sr rfl hb ?_
      intro p_5 c_5 w h
      dsimp only [setH, setVs, setV] at h
      have cpp_5 := rowCap h 2 rfl
      refine ⟨_, _, _, rfl, ?_⟩
      refine ⟨_, rfl, ?_⟩
      refine storeL (ys := [(Value.slice p_5 (marks_2 ++ [(no, now)]).length c_5)]) h 1 0 rfl rfl rfl sz72 rfl rfl ?_
      intro w h
      dsimp only [setH, setVs, setV] at h
      refine ⟨_, rfl, ?_⟩
      refine ⟨_, _, _, cellL h 1 0 rfl rfl rfl, ?_⟩
      refine cond_both' hp (fun hp => ?_) (fun hp => ?_)
      · replace h := h.sel [1, 1] 1
        dsimp only [pickL, pickR, nthH, delH, dropH, List.cons_append, List.nil_append] at h
        exact hR 0 (marks_2 ++ [(no, now)]) p_5 ((marks_2 ++ [(no, now)]).length) c_5 _ rfl h hp
      replace h := h.pick [1, 1]
      dsimp only [pickL, pickR, nthH, delH, dropH, List.cons_append, List.nil_append] at h
      refine rtt_Meter_drop_ok h hp ?_
      rintro marks_4 p_6 n_4 c_6 w rfl h hp
      have cpp_6 := rowCap h 1 rfl
      refine ⟨rfl, ?_⟩
      replace h := h.sel [0, 0] 1
      dsimp only [pickL, pickR, nthH, delH, dropH, List.cons_append, List.nil_append] at h
      exact hR 0 marks_4 p_6 marks_4.length c_6 _ rfl h hp
    clear hq
    refine rtt_Meter_place_ok h hp ?_
    intro r w h hp
    have cpp_1 := rowCap h 1 rfl
    refine ⟨_, rfl, ?_⟩
    refine cond_both' hp (fun hp => ?_) (fun hp => ?_)
    · exact ⟨marks, p_1, marks.length, c_1, rfl, rfl, rfl, rfl, hp, h⟩
    refine rtt_Meter_drop_ok h hp ?_
    rintro marks_3 p_4 n_3 c_4 w rfl h hp
    have cpp_4 := rowCap h 1 rfl
    refine ⟨rfl, ?_⟩
    exact ⟨marks_3, p_4, marks_3.length, c_4, rfl, rfl, rfl, rfl, hp, h⟩
  clear hq
  refine cond_both hp (fun hp => ?_) (fun hp => ?_)
  · exact ⟨rfl, rfl, rfl, hp, h⟩
  exact ⟨rfl, rfl, rfl, hp, h⟩

/-! (*embrasure/rtt.Meter).Way (45) -/
def rtt_Meter_Way_wp (mean : Int) (dev : Int) (any : Bool) (K : Int → Prop) : Prop :=
  K (IntKind.wrap .i64 (Int.tdiv mean 8))
theorem rtt_Meter_Way_ok {b_1 : Nat} {p_1 : Option Addr} {n_1 : Nat} {c_1 : Nat} {mean : Int} {dev : Int} {any : Bool} {FL : List HP} {w : World} {K : Int → Prop} {R : Value → World → Prop}
  (h : Mem (cel b_1 74 [(Value.slice p_1 n_1 c_1), (Value.int .i64 mean), (Value.int .i64 dev), (Value.bool any)] :: FL) w) (hp : rtt_Meter_Way_wp mean dev any K)
  (hR : ∀ (r : Int) (w : World), Mem (cel b_1 74 [(Value.slice p_1 n_1 c_1), (Value.int .i64 mean), (Value.int .i64 dev), (Value.bool any)] :: FL) w → K r → R (Value.int .i64 r) w) :
  CallV Try.prog 45 #[(Value.pointer (some (Addr.mk b_1 0 none)))] w R := by
  refine rtt_Meter_Way_call ?_
  unfold rtt_Meter_Way
  unfold rtt_Meter_Way_wp at hp
  refine ⟨_, rfl, ?_⟩
  refine ⟨_, cellL h 0 1 rfl rfl rfl, ?_⟩
  refine ⟨by decide, ?_⟩
  exact hR (IntKind.wrap .i64 (Int.tdiv mean 8)) _ h hp

/-! (*embrasure/rtt.Meter).Wait (34) -/
def rtt_Meter_Wait_wp (mean : Int) (dev : Int) (any : Bool) (K : Int → Prop) : Prop :=
  cond (!any) (K 20) (rtt_Meter_Way_wp mean dev any (fun (r : Int) => K (if (10000 : Int) < (if (2 : Int) > (IntKind.wrap .i64 (r + dev)) then 2 else (IntKind.wrap .i64 (r + dev))) then 10000 else (if (2 : Int) > (IntKind.wrap .i64 (r + dev)) then 2 else (IntKind.wrap .i64 (r + dev))))))
theorem rtt_Meter_Wait_ok {b_1 : Nat} {p_1 : Option Addr} {n_1 : Nat} {c_1 : Nat} {mean : Int} {dev : Int} {any : Bool} {FL : List HP} {w : World} {K : Int → Prop} {R : Value → World → Prop}
  (h : Mem (cel b_1 74 [(Value.slice p_1 n_1 c_1), (Value.int .i64 mean), (Value.int .i64 dev), (Value.bool any)] :: FL) w) (hp : rtt_Meter_Wait_wp mean dev any K)
  (hR : ∀ (r : Int) (w : World), Mem (cel b_1 74 [(Value.slice p_1 n_1 c_1), (Value.int .i64 mean), (Value.int .i64 dev), (Value.bool any)] :: FL) w → K r → R (Value.int .i64 r) w) :
  CallV Try.prog 34 #[(Value.pointer (some (Addr.mk b_1 0 none)))] w R := by
  refine rtt_Meter_Wait_call ?_
  unfold rtt_Meter_Wait
  unfold rtt_Meter_Wait_wp at hp
  refine ⟨_, rfl, ?_⟩
  refine ⟨_, cellL h 0 3 rfl rfl rfl, ?_⟩
  refine cond_both hp (fun hp => ?_) (fun hp => ?_)
  · exact hR 20 _ h hp
  replace h := h.drew
  refine ⟨fun w => Mem (cel b_1 74 [(Value.slice p_1 n_1 c_1), (Value.int .i64 mean), (Value.int .i64 dev), (Value.bool any)] :: FL) w, (h.sel [0] 0), ?_⟩
  refine ⟨_, rfl, ?_⟩
  refine ⟨_, cellL h 0 2 rfl rfl rfl, ?_⟩
  refine ⟨?_, ?_⟩
  · intro w h
    change Mem _ _ at h
    refine ⟨_, cellL h 0 2 rfl rfl rfl, ?_⟩
    exact ⟨rfl, rfl⟩
  refine rtt_Meter_Way_ok h hp ?_
  intro r w h hp
  refine ⟨_, rfl, ?_⟩
  refine ⟨(h.sel [0] 0), ?_⟩
  exact hR (if (10000 : Int) < (if (2 : Int) > (IntKind.wrap .i64 (r + dev)) then 2 else (IntKind.wrap .i64 (r + dev))) then 10000 else (if (2 : Int) > (IntKind.wrap .i64 (r + dev)) then 2 else (IntKind.wrap .i64 (r + dev)))) _ h hp

/-! (*embrasure/punch.Puncher).punch (36) -/
def punch_Puncher_punch_wp (h_1 : Int) (h_2 : Bool) (h_3 : Int) (h_4 : Int) (own : List (Int × Int)) (mean : Int) (dev : Int) (any : Bool) (now : Int) (answered : Int) (m_1 : List ((Option Addr × Nat × Nat) × List (Int))) (m_2 : List ((Option Addr × Nat × Nat) × List (Int))) (m_3 : List ((Option Addr × Nat × Nat) × List (Int × Int))) (K : Int → Option Addr × Nat × Nat → Option Addr × Nat × Nat → Option Addr × Nat × Nat → List ((Option Addr × Nat × Nat) × List (Int)) → List ((Option Addr × Nat × Nat) × List (Int)) → List ((Option Addr × Nat × Nat) × List (Int × Int)) → Prop) : Prop :=
  (slices_Clone_sl_api_Addr_api_Addr_wp own (fun (rs : List (Int × Int)) => ∀ (hd : Option Addr × Nat × Nat), hd.2.1 = [(IntKind.wrap .u64 h_3), answered].length → (∀ (hd_1 : Option Addr × Nat × Nat), hd_1.2.1 = rs.length → (∀ (hd_2 : Option Addr × Nat × Nat), hd_2.2.1 = ([] : List (Int)).length → (K 17 hd hd_1 hd_2 (m_1 ++ [(hd_2, ([] : List (Int)))]) (m_2 ++ [(hd, [(IntKind.wrap .u64 h_3), answered])]) (m_3 ++ [(hd_1, rs)])))))) ∧ (slices_Clone_sl_api_Addr_api_Addr_wp own (fun (rs_1 : List (Int × Int)) => ∀ (hd_3 : Option Addr × Nat × Nat), hd_3.2.1 = [(IntKind.wrap .u64 h_3), answered].length → (∀ (hd_4 : Option Addr × Nat × Nat), hd_4.2.1 = rs_1.length → (∀ (hd_5 : Option Addr × Nat × Nat), hd_5.2.1 = ([] : List (Int)).length → (K 17 hd_3 hd_4 hd_5 (m_1 ++ [(hd_5, ([] : List (Int)))]) (m_2 ++ [(hd_3, [(IntKind.wrap .u64 h_3), answered])]) (m_3 ++ [(hd_4, rs_1)]))))))
theorem punch_Puncher_punch_ok {b_1 : Nat} {p_1 : Option Addr} {n_1 : Nat} {c_1 : Nat} {p_2 : Option Addr} {c_2 : Nat} {b_2 : Nat} {p_3 : Option Addr} {n_2 : Nat} {c_3 : Nat} {h_1 : Int} {h_2 : Bool} {h_3 : Int} {h_4 : Int} {own : List (Int × Int)} {mean : Int} {dev : Int} {any : Bool} {now : Int} {answered : Int} {m_1 : List ((Option Addr × Nat × Nat) × List (Int))} {m_2 : List ((Option Addr × Nat × Nat) × List (Int))} {m_3 : List ((Option Addr × Nat × Nat) × List (Int × Int))} {FL : List HP} {w : World} {K : Int → Option Addr × Nat × Nat → Option Addr × Nat × Nat → Option Addr × Nat × Nat → List ((Option Addr × Nat × Nat) × List (Int)) → List ((Option Addr × Nat × Nat) × List (Int)) → List ((Option Addr × Nat × Nat) × List (Int × Int)) → Prop} {R : Value → World → Prop}
  (h : Mem (cel b_1 64 [(Value.int .i64 h_1), (Value.bool h_2), (Value.int .i64 h_3), (Value.int .i64 h_4), (Value.slice p_1 n_1 c_1), (Value.slice p_2 own.length c_2), (Value.pointer (some (Addr.mk b_2 0 none))), (Value.int .i64 now)] :: row enc55 55 2 p_2 c_2 own :: cel b_2 74 [(Value.slice p_3 n_2 c_3), (Value.int .i64 mean), (Value.int .i64 dev), (Value.bool any)] :: poolP enc5 5 1 m_1 :: poolP enc52 52 1 m_2 :: poolP enc55 55 2 m_3 :: FL) w) (hp : punch_Puncher_punch_wp h_1 h_2 h_3 h_4 own mean dev any now answered m_1 m_2 m_3 K)
  (hR : ∀ (r : Int) (hd : Option Addr × Nat × Nat) (hd_1 : Option Addr × Nat × Nat) (hd_2 : Option Addr × Nat × Nat) (m_4 : List ((Option Addr × Nat × Nat) × List (Int))) (m_5 : List ((Option Addr × Nat × Nat) × List (Int))) (m_6 : List ((Option Addr × Nat × Nat) × List (Int × Int))) (w : World), Mem (cel b_1 64 [(Value.int .i64 h_1), (Value.bool h_2), (Value.int .i64 h_3), (Value.int .i64 h_4), (Value.slice p_1 n_1 c_1), (Value.slice p_2 own.length c_2), (Value.pointer (some (Addr.mk b_2 0 none))), (Value.int .i64 now)] :: row enc55 55 2 p_2 c_2 own :: cel b_2 74 [(Value.slice p_3 n_2 c_3), (Value.int .i64 mean), (Value.int .i64 dev), (Value.bool any)] :: poolP enc5 5 1 m_4 :: poolP enc52 52 1 m_5 :: poolP enc55 55 2 m_6 :: FL) w → K r hd hd_1 hd_2 m_4 m_5 m_6 → R (Value.agg #[(Value.int .i64 r), (Value.slice hd.1 hd.2.1 hd.2.2), (Value.slice hd_1.1 hd_1.2.1 hd_1.2.2), (Value.slice hd_2.1 hd_2.2.1 hd_2.2.2)]) w) :
  CallV Try.prog 36 #[(Value.pointer (some (Addr.mk b_1 0 none))), (Value.int .u64 answered)] w R := by
  refine punch_Puncher_punch_call ?_
  unfold punch_Puncher_punch
  unfold punch_Puncher_punch_wp at hp
  have cpp_2 := rowCap h 1 rfl
  refine newL (o := [(Value.int .i64 0), (Value.slice none 0 0), (Value.slice none 0 0), (Value.slice none 0 0)]) h ?_
  intro b_3 w h
  replace h := h.drew
  refine ⟨fun w => Mem (cel b_1 64 [(Value.int .i64 h_1), (Value.bool h_2), (Value.int .i64 h_3), (Value.int .i64 h_4), (Value.slice p_1 n_1 c_1), (Value.slice p_2 own.length c_2), (Value.pointer (some (Addr.mk b_2 0 none))), (Value.int .i64 now)] :: FL) w, (h.sel [1] 6), ?_⟩
  refine ⟨_, rfl, ?_⟩
  refine ⟨_, cellL h 1 2 rfl rfl rfl, ?_⟩
  refine ⟨?_, ?_⟩
  · intro w h
    change Mem _ _ at h
    refine ⟨_, cellL h 0 2 rfl rfl rfl, ?_⟩
    exact ⟨rfl, rfl⟩
  refine ⟨_, rfl, ?_⟩
  refine ⟨_, _, _, cellL h 1 5 rfl rfl rfl, ?_⟩
  refine ⟨?_, ?_⟩
  · intro w h
    change Mem _ _ at h
    refine ⟨_, _, _, cellL h 0 5 rfl rfl rfl, ?_⟩
    exact ⟨rfl, rfl⟩
  refine ⟨?_, ?_⟩
  · replace hp := hp.1
    refine newL (o := [(Value.int .u64 (IntKind.wrap .u64 h_3)), (Value.int .u64 answered)]) h ?_
    intro b_4 w h
    refine ⟨(h.sel [2] 7), ?_⟩
    refine slices_Clone_sl_api_Addr_api_Addr_ok (FL := cel b_4 52 [(Value.int .u64 (IntKind.wrap .u64 h_3)), (Value.int .u64 answered)] :: cel b_3 37 [(Value.int .i64 0), (Value.slice none 0 0), (Value.slice none 0 0), (Value.slice none 0 0)] :: cel b_1 64 [(Value.int .i64 h_1), (Value.bool h_2), (Value.int .i64 h_3), (Value.int .i64 h_4), (Value.slice p_1 n_1 c_1), (Value.slice p_2 own.length c_2), (Value.pointer (some (Addr.mk b_2 0 none))), (Value.int .i64 now)] :: row enc55 55 2 p_2 c_2 own :: cel b_2 74 [(Value.slice p_3 n_2 c_3), (Value.int .i64 mean), (Value.int .i64 dev), (Value.bool any)] :: poolP enc5 5 1 m_1 :: poolP enc52 52 1 m_2 :: poolP enc55 55 2 m_3 :: FL) (fun w h => (rowRd h 3 encL55 rfl)) rfl cpp_2 h hp ?_
    rintro rs p_4 n_3 c_4 w rfl h hp
    have cpp_4 := rowCap h 0 rfl
    refine ⟨_, _, _, rfl, ?_⟩
    refine ⟨(h.sel [3] 8), ?_⟩
    replace h := rowOfCel h 1 encL52 rfl [(IntKind.wrap .u64 h_3), answered] rfl
    dsimp only [setH, setVs, setV] at h
    replace h := rowNil enc5 5 1 h
    refine storeL (ys := [(Value.int .i64 17), (Value.slice (some ⟨b_4, 0, none⟩) 2 2), (Value.slice p_4 rs.length c_4), (Value.slice none  0 0)]) h 3 0 rfl rfl rfl sz37 rfl rfl ?_
    intro w h
    dsimp only [setH, setVs, setV] at h
    refine ⟨_, cellL h 3 0 rfl rfl rfl, _, _, _, cellL h 3 1 rfl rfl rfl, _, _, _, cellL h 3 2 rfl rfl rfl, _, _, _, cellL h 3 3 rfl rfl rfl, ?_⟩
    replace h := h.pick [2, 7]
    dsimp only [pickL, pickR, nthH, delH, dropH, List.cons_append, List.nil_append] at h
    let hd : Hd := ((some ⟨b_4, 0, none⟩), [(IntKind.wrap .u64 h_3), answered].length, 2)
    replace hp := hp hd rfl
    replace h : Mem (poolP enc52 52 1 (m_2 ++ [(hd, [(IntKind.wrap .u64 h_3), answered])]) :: row enc5 5 1 (none ) 0 ([] : List (Int)) :: row enc55 55 2 p_4 c_4 rs :: cel b_3 37 [(Value.int .i64 17), (Value.slice hd.1 hd.2.1 hd.2.2), (Value.slice p_4 rs.length c_4), (Value.slice none  0 0)] :: cel b_1 64 [(Value.int .i64 h_1), (Value.bool h_2), (Value.int .i64 h_3), (Value.int .i64 h_4), (Value.slice p_1 n_1 c_1), (Value.slice p_2 own.length c_2), (Value.pointer (some (Addr.mk b_2 0 none))), (Value.int .i64 now)] :: row enc55 55 2 p_2 c_2 own :: cel b_2 74 [(Value.slice p_3 n_2 c_3), (Value.int .i64 mean), (Value.int .i64 dev), (Value.bool any)] :: poolP enc5 5 1 m_1 :: poolP enc55 55 2 m_3 :: FL) _ := poolPush h
    replace h := h.pick [2, 7]
    dsimp only [pickL, pickR, nthH, delH, dropH, List.cons_append, List.nil_append] at h
    let hd_1 : Hd := (p_4, rs.length, c_4)
    replace hp := hp hd_1 rfl
    replace h : Mem (poolP enc55 55 2 (m_3 ++ [(hd_1, rs)]) :: poolP enc52 52 1 (m_2 ++ [(hd, [(IntKind.wrap .u64 h_3), answered])]) :: row enc5 5 1 (none ) 0 ([] : List (Int)) :: cel b_3 37 [(Value.int .i64 17), (Value.slice hd.1 hd.2.1 hd.2.2), (Value.slice hd_1.1 hd_1.2.1 hd_1.2.2), (Value.slice none  0 0)] :: cel b_1 64 [(Value.int .i64 h_1), (Value.bool h_2), (Value.int .i64 h_3), (Value.int .i64 h_4), (Value.slice p_1 n_1 c_1), (Value.slice p_2 own.length c_2), (Value.pointer (some (Addr.mk b_2 0 none))), (Value.int .i64 now)] :: row enc55 55 2 p_2 c_2 own :: cel b_2 74 [(Value.slice p_3 n_2 c_3), (Value.int .i64 mean), (Value.int .i64 dev), (Value.bool any)] :: poolP enc5 5 1 m_1 :: FL) _ := poolPush h
    replace h := h.pick [2, 6]
    dsimp only [pickL, pickR, nthH, delH, dropH, List.cons_append, List.nil_append] at h
    let hd_2 : Hd := (none , ([] : List (Int)).length, 0)
    replace hp := hp hd_2 rfl
    replace h : Mem (poolP enc5 5 1 (m_1 ++ [(hd_2, ([] : List (Int)))]) :: poolP enc55 55 2 (m_3 ++ [(hd_1, rs)]) :: poolP enc52 52 1 (m_2 ++ [(hd, [(IntKind.wrap .u64 h_3), answered])]) :: cel b_3 37 [(Value.int .i64 17), (Value.slice hd.1 hd.2.1 hd.2.2), (Value.slice hd_1.1 hd_1.2.1 hd_1.2.2), (Value.slice hd_2.1 hd_2.2.1 hd_2.2.2)] :: cel b_1 64 [(Value.int .i64 h_1), (Value.bool h_2), (Value.int .i64 h_3), (Value.int .i64 h_4), (Value.slice p_1 n_1 c_1), (Value.slice p_2 own.length c_2), (Value.pointer (some (Addr.mk b_2 0 none))), (Value.int .i64 now)] :: row enc55 55 2 p_2 c_2 own :: cel b_2 74 [(Value.slice p_3 n_2 c_3), (Value.int .i64 mean), (Value.int .i64 dev), (Value.bool any)] :: FL) _ := poolPush h
    replace h := h.sel [4, 4, 4, 0, 1, 0] 1
    dsimp only [pickL, pickR, nthH, delH, dropH, List.cons_append, List.nil_append] at h
    exact hR 17 hd hd_1 hd_2 (m_1 ++ [(hd_2, ([] : List (Int)))]) (m_2 ++ [(hd, [(IntKind.wrap .u64 h_3), answered])]) (m_3 ++ [(hd_1, rs)]) _ h hp
  replace hp := hp.2
  refine slices_Clone_sl_api_Addr_api_Addr_ok (FL := cel b_3 37 [(Value.int .i64 0), (Value.slice none 0 0), (Value.slice none 0 0), (Value.slice none 0 0)] :: cel b_1 64 [(Value.int .i64 h_1), (Value.bool h_2), (Value.int .i64 h_3), (Value.int .i64 h_4), (Value.slice p_1 n_1 c_1), (Value.slice p_2 own.length c_2), (Value.pointer (some (Addr.mk b_2 0 none))), (Value.int .i64 now)] :: row enc55 55 2 p_2 c_2 own :: cel b_2 74 [(Value.slice p_3 n_2 c_3), (Value.int .i64 mean), (Value.int .i64 dev), (Value.bool any)] :: poolP enc5 5 1 m_1 :: poolP enc52 52 1 m_2 :: poolP enc55 55 2 m_3 :: FL) (fun w h => (rowRd h 2 encL55 rfl)) rfl cpp_2 h hp ?_
  rintro rs_1 p_6 n_4 c_5 w rfl h hp
  have cpp_6 := rowCap h 0 rfl
  refine ⟨_, _, _, rfl, ?_⟩
  refine ⟨(h.sel [2] 7), ?_⟩
  refine newL (o := [(Value.int .u64 (IntKind.wrap .u64 h_3)), (Value.int .u64 answered)]) h ?_
  intro b_5 w h
  refine ⟨(h.sel [3] 8), ?_⟩
  replace h := rowOfCel h 0 encL52 rfl [(IntKind.wrap .u64 h_3), answered] rfl
  dsimp only [setH, setVs, setV] at h
  replace h := rowNil enc5 5 1 h
  refine storeL (ys := [(Value.int .i64 17), (Value.slice (some ⟨b_5, 0, none⟩) 2 2), (Value.slice p_6 rs_1.length c_5), (Value.slice none   0 0)]) h 3 0 rfl rfl rfl sz37 rfl rfl ?_
  intro w h
  dsimp only [setH, setVs, setV] at h
  refine ⟨_, cellL h 3 0 rfl rfl rfl, _, _, _, cellL h 3 1 rfl rfl rfl, _, _, _, cellL h 3 2 rfl rfl rfl, _, _, _, cellL h 3 3 rfl rfl rfl, ?_⟩
  replace h := h.pick [1, 7]
  dsimp only [pickL, pickR, nthH, delH, dropH, List.cons_append, List.nil_append] at h
  let hd_3 : Hd := ((some ⟨b_5, 0, none⟩), [(IntKind.wrap .u64 h_3), answered].length, 2)
  replace hp := hp hd_3 rfl
  replace h : Mem (poolP enc52 52 1 (m_2 ++ [(hd_3, [(IntKind.wrap .u64 h_3), answered])]) :: row enc5 5 1 (none  ) 0 ([] : List (Int)) :: row enc55 55 2 p_6 c_5 rs_1 :: cel b_3 37 [(Value.int .i64 17), (Value.slice hd_3.1 hd_3.2.1 hd_3.2.2), (Value.slice p_6 rs_1.length c_5), (Value.slice none   0 0)] :: cel b_1 64 [(Value.int .i64 h_1), (Value.bool h_2), (Value.int .i64 h_3), (Value.int .i64 h_4), (Value.slice p_1 n_1 c_1), (Value.slice p_2 own.length c_2), (Value.pointer (some (Addr.mk b_2 0 none))), (Value.int .i64 now)] :: row enc55 55 2 p_2 c_2 own :: cel b_2 74 [(Value.slice p_3 n_2 c_3), (Value.int .i64 mean), (Value.int .i64 dev), (Value.bool any)] :: poolP enc5 5 1 m_1 :: poolP enc55 55 2 m_3 :: FL) _ := poolPush h
  replace h := h.pick [2, 7]
  dsimp only [pickL, pickR, nthH, delH, dropH, List.cons_append, List.nil_append] at h
  let hd_4 : Hd := (p_6, rs_1.length, c_5)
  replace hp := hp hd_4 rfl
  replace h : Mem (poolP enc55 55 2 (m_3 ++ [(hd_4, rs_1)]) :: poolP enc52 52 1 (m_2 ++ [(hd_3, [(IntKind.wrap .u64 h_3), answered])]) :: row enc5 5 1 (none  ) 0 ([] : List (Int)) :: cel b_3 37 [(Value.int .i64 17), (Value.slice hd_3.1 hd_3.2.1 hd_3.2.2), (Value.slice hd_4.1 hd_4.2.1 hd_4.2.2), (Value.slice none   0 0)] :: cel b_1 64 [(Value.int .i64 h_1), (Value.bool h_2), (Value.int .i64 h_3), (Value.int .i64 h_4), (Value.slice p_1 n_1 c_1), (Value.slice p_2 own.length c_2), (Value.pointer (some (Addr.mk b_2 0 none))), (Value.int .i64 now)] :: row enc55 55 2 p_2 c_2 own :: cel b_2 74 [(Value.slice p_3 n_2 c_3), (Value.int .i64 mean), (Value.int .i64 dev), (Value.bool any)] :: poolP enc5 5 1 m_1 :: FL) _ := poolPush h
  replace h := h.pick [2, 6]
  dsimp only [pickL, pickR, nthH, delH, dropH, List.cons_append, List.nil_append] at h
  let hd_5 : Hd := (none  , ([] : List (Int)).length, 0)
  replace hp := hp hd_5 rfl
  replace h : Mem (poolP enc5 5 1 (m_1 ++ [(hd_5, ([] : List (Int)))]) :: poolP enc55 55 2 (m_3 ++ [(hd_4, rs_1)]) :: poolP enc52 52 1 (m_2 ++ [(hd_3, [(IntKind.wrap .u64 h_3), answered])]) :: cel b_3 37 [(Value.int .i64 17), (Value.slice hd_3.1 hd_3.2.1 hd_3.2.2), (Value.slice hd_4.1 hd_4.2.1 hd_4.2.2), (Value.slice hd_5.1 hd_5.2.1 hd_5.2.2)] :: cel b_1 64 [(Value.int .i64 h_1), (Value.bool h_2), (Value.int .i64 h_3), (Value.int .i64 h_4), (Value.slice p_1 n_1 c_1), (Value.slice p_2 own.length c_2), (Value.pointer (some (Addr.mk b_2 0 none))), (Value.int .i64 now)] :: row enc55 55 2 p_2 c_2 own :: cel b_2 74 [(Value.slice p_3 n_2 c_3), (Value.int .i64 mean), (Value.int .i64 dev), (Value.bool any)] :: FL) _ := poolPush h
  replace h := h.sel [4, 4, 4, 0, 1, 0] 1
  dsimp only [pickL, pickR, nthH, delH, dropH, List.cons_append, List.nil_append] at h
  exact hR 17 hd_3 hd_4 hd_5 (m_1 ++ [(hd_5, ([] : List (Int)))]) (m_2 ++ [(hd_3, [(IntKind.wrap .u64 h_3), answered])]) (m_3 ++ [(hd_4, rs_1)]) _ h hp

/-! embrasure/punch.told (35) -/
def punch_told_wp (m_Kind : Int) (m_Nums : Option Addr × Nat × Nat) (m_Addrs : Option Addr × Nat × Nat) (m_Body : Option Addr × Nat × Nat) (K : List (Int × (Option Addr × Nat × Nat) × Int × (Option Addr × Nat × Nat) × (Option Addr × Nat × Nat) × (Option Addr × Nat × Nat)) → Prop) : Prop :=
  K [(0, ((none, 0, 0) : Option Addr × Nat × Nat), m_Kind, m_Nums, m_Addrs, m_Body)]
theorem punch_told_ok {m_Kind : Int} {m_Nums : Option Addr × Nat × Nat} {m_Addrs : Option Addr × Nat × Nat} {m_Body : Option Addr × Nat × Nat} {FL : List HP} {w : World} {K : List (Int × (Option Addr × Nat × Nat) × Int × (Option Addr × Nat × Nat) × (Option Addr × Nat × Nat) × (Option Addr × Nat × Nat)) → Prop} {R : Value → World → Prop}
  (h : Mem (FL) w) (hp : punch_told_wp m_Kind m_Nums m_Addrs m_Body K)
  (hR : ∀ (rs : List (Int × (Option Addr × Nat × Nat) × Int × (Option Addr × Nat × Nat) × (Option Addr × Nat × Nat) × (Option Addr × Nat × Nat))) (p_1 : Option Addr) (n_1 : Nat) (c_1 : Nat) (w : World), n_1 = rs.length → Mem (row enc39 39 6 p_1 c_1 rs :: FL) w → K rs → R (Value.slice p_1 n_1 c_1) w) :
  CallV Try.prog 35 #[(Value.agg #[(Value.int .i64 m_Kind), (Value.slice m_Nums.1 m_Nums.2.1 m_Nums.2.2), (Value.slice m_Addrs.1 m_Addrs.2.1 m_Addrs.2.2), (Value.slice m_Body.1 m_Body.2.1 m_Body.2.2)])] w R := by
  refine punch_told_call ?_
  unfold punch_told
  unfold punch_told_wp at hp
  refine newL (o := [(Value.int .i64 m_Kind), (Value.slice m_Nums.1 m_Nums.2.1 m_Nums.2.2), (Value.slice m_Addrs.1 m_Addrs.2.1 m_Addrs.2.2), (Value.slice m_Body.1 m_Body.2.1 m_Body.2.2)]) h ?_
  intro b_1 w h
  refine ⟨_, cellL h 0 0 rfl rfl rfl, _, _, _, cellL h 0 1 rfl rfl rfl, _, _, _, cellL h 0 2 rfl rfl rfl, _, _, _, cellL h 0 3 rfl rfl rfl, ?_⟩
  refine newL (o := [(Value.int .i64 0), (Value.slice none 0 0), (Value.int .i64 m_Kind), (Value.slice m_Nums.1 m_Nums.2.1 m_Nums.2.2), (Value.slice m_Addrs.1 m_Addrs.2.1 m_Addrs.2.2), (Value.slice m_Body.1 m_Body.2.1 m_Body.2.2)]) h ?_
  intro b_2 w h
  replace h := rowOfCel h 0 encL39 rfl [(0, ((none, 0, 0) : Option Addr × Nat × Nat), m_Kind, m_Nums, m_Addrs, m_Body)] rfl
  dsimp only [setH, setVs, setV] at h
  replace h := h.sel [0] 1
  dsimp only [pickL, pickR, nthH, delH, dropH, List.cons_append, List.nil_append] at h
  exact hR [(0, ((none, 0, 0) : Option Addr × Nat × Nat), m_Kind, m_Nums, m_Addrs, m_Body)] (some ⟨b_2, 0, none⟩) 1 1 _ rfl h hp

/-! (*embrasure/punch.Puncher).ask (25) -/
def punch_Puncher_ask_wp (h_1 : Int) (h_2 : Bool) (h_3 : Int) (h_4 : Int) (own : List (Int × Int)) (marks : List (Int × Int)) (mean : Int) (dev : Int) (any : Bool) (now : Int) (m_1 : List ((Option Addr × Nat × Nat) × List (Int))) (m_2 : List ((Option Addr × Nat × Nat) × List (Int))) (m_3 : List ((Option Addr × Nat × Nat) × List (Int × Int))) (K : List (Int × (Option Addr × Nat × Nat) × Int × (Option Addr × Nat × Nat) × (Option Addr × Nat × Nat) × (Option Addr × Nat × Nat)) → Int → Int → List (Int × Int) → List ((Option Addr × Nat × Nat) × List (Int)) → List ((Option Addr × Nat × Nat) × List (Int)) → List ((Option Addr × Nat × Nat) × List (Int × Int)) → Prop) : Prop :=
  rtt_Meter_Sent_wp marks mean dev any now (IntKind.wrap .u64 h_3) (fun (r : Int) (marks_2 : List (Int × Int)) => rtt_Meter_Wait_wp mean dev any (fun (r_1 : Int) => punch_Puncher_punch_wp 1 h_2 h_3 (IntKind.wrap .i64 (now + r_1)) own mean dev any now 0 m_1 m_2 m_3 (fun (r_2 : Int) (hd : Option Addr × Nat × Nat) (hd_1 : Option Addr × Nat × Nat) (hd_2 : Option Addr × Nat × Nat) (m_7 : List ((Option Addr × Nat × Nat) × List (Int))) (m_8 : List ((Option Addr × Nat × Nat) × List (Int))) (m_9 : List ((Option Addr × Nat × Nat) × List (Int × Int))) => punch_told_wp r_2 hd hd_1 hd_2 (fun (rs : List (Int × (Option Addr × Nat × Nat) × Int × (Option Addr × Nat × Nat) × (Option Addr × Nat × Nat) × (Option Addr × Nat × Nat))) => K rs 1 (IntKind.wrap .i64 (now + r_1)) marks_2 m_7 m_8 m_9))))
theorem punch_Puncher_ask_ok {b_1 : Nat} {p_1 : Option Addr} {n_1 : Nat} {c_1 : Nat} {p_2 : Option Addr} {c_2 : Nat} {b_2 : Nat} {p_3 : Option Addr} {c_3 : Nat} {h_1 : Int} {h_2 : Bool} {h_3 : Int} {h_4 : Int} {own : List (Int × Int)} {marks : List (Int × Int)} {mean : Int} {dev : Int} {any : Bool} {now : Int} {m_1 : List ((Option Addr × Nat × Nat) × List (Int))} {m_2 : List ((Option Addr × Nat × Nat) × List (Int))} {m_3 : List ((Option Addr × Nat × Nat) × List (Int × Int))} {FL : List HP} {w : World} {K : List (Int × (Option Addr × Nat × Nat) × Int × (Option Addr × Nat × Nat) × (Option Addr × Nat × Nat) × (Option Addr × Nat × Nat)) → Int → Int → List (Int × Int) → List ((Option Addr × Nat × Nat) × List (Int)) → List ((Option Addr × Nat × Nat) × List (Int)) → List ((Option Addr × Nat × Nat) × List (Int × Int)) → Prop} {R : Value → World → Prop}
  (h : Mem (cel b_1 64 [(Value.int .i64 h_1), (Value.bool h_2), (Value.int .i64 h_3), (Value.int .i64 h_4), (Value.slice p_1 n_1 c_1), (Value.slice p_2 own.length c_2), (Value.pointer (some (Addr.mk b_2 0 none))), (Value.int .i64 now)] :: row enc55 55 2 p_2 c_2 own :: cel b_2 74 [(Value.slice p_3 marks.length c_3), (Value.int .i64 mean), (Value.int .i64 dev), (Value.bool any)] :: row enc86 86 2 p_3 c_3 marks :: poolP enc5 5 1 m_1 :: poolP enc52 52 1 m_2 :: poolP enc55 55 2 m_3 :: FL) w) (hp : punch_Puncher_ask_wp h_1 h_2 h_3 h_4 own marks mean dev any now m_1 m_2 m_3 K)
  (hR : ∀ (rs : List (Int × (Option Addr × Nat × Nat) × Int × (Option Addr × Nat × Nat) × (Option Addr × Nat × Nat) × (Option Addr × Nat × Nat))) (h_5 : Int) (h_6 : Int) (marks_1 : List (Int × Int)) (m_4 : List ((Option Addr × Nat × Nat) × List (Int))) (m_5 : List ((Option Addr × Nat × Nat) × List (Int))) (m_6 : List ((Option Addr × Nat × Nat) × List (Int × Int))) (p_5 : Option Addr) (n_3 : Nat) (c_5 : Nat) (p_4 : Option Addr) (n_2 : Nat) (c_4 : Nat) (w : World), n_3 = rs.length → n_2 = marks_1.length → Mem (row enc39 39 6 p_5 c_5 rs :: cel b_1 64 [(Value.int .i64 h_5), (Value.bool h_2), (Value.int .i64 h_3), (Value.int .i64 h_6), (Value.slice p_1 n_1 c_1), (Value.slice p_2 own.length c_2), (Value.pointer (some (Addr.mk b_2 0 none))), (Value.int .i64 now)] :: row enc55 55 2 p_2 c_2 own :: cel b_2 74 [(Value.slice p_4 n_2 c_4), (Value.int .i64 mean), (Value.int .i64 dev), (Value.bool any)] :: row enc86 86 2 p_4 c_4 marks_1 :: poolP enc5 5 1 m_4 :: poolP enc52 52 1 m_5 :: poolP enc55 55 2 m_6 :: FL) w → K rs h_5 h_6 marks_1 m_4 m_5 m_6 → R (Value.slice p_5 n_3 c_5) w) :
  CallV Try.prog 25 #[(Value.pointer (some (Addr.mk b_1 0 none)))] w R := by
  refine punch_Puncher_ask_call ?_
  unfold punch_Puncher_ask
  unfold punch_Puncher_ask_wp at hp
  have cpp_2 := rowCap h 1 rfl
  have cpp_3 := rowCap h 3 rfl
  replace h := h.drew
  refine ⟨_, rfl, ?_⟩
  refine ⟨_, cellL h 0 6 rfl rfl rfl, ?_⟩
  refine ⟨_, rfl, ?_⟩
  refine ⟨_, cellL h 0 7 rfl rfl rfl, ?_⟩
  refine ⟨_, rfl, ?_⟩
  refine ⟨_, cellL h 0 2 rfl rfl rfl, ?_⟩
  replace h := h.pick [2, 2]
  dsimp only [pickL, pickR, nthH, delH, dropH, List.cons_append, List.nil_append] at h
  refine rtt_Meter_Sent_ok h hp ?_
  rintro r marks_2 p_5 n_3 c_5 w rfl h hp
  have cpp_5 := rowCap h 1 rfl
  refine ⟨_, rfl, ?_⟩
  replace h := h.drew
  refine ⟨fun w => Mem (cel b_1 64 [(Value.int .i64 h_1), (Value.bool h_2), (Value.int .i64 h_3), (Value.int .i64 h_4), (Value.slice p_1 n_1 c_1), (Value.slice p_2 own.length c_2), (Value.pointer (some (Addr.mk b_2 0 none))), (Value.int .i64 now)] :: FL) w, (h.sel [2] 6), ?_⟩
  refine ⟨_, rfl, ?_⟩
  refine ⟨_, cellL h 2 7 rfl rfl rfl, ?_⟩
  refine ⟨?_, ?_⟩
  · intro w h
    change Mem _ _ at h
    refine ⟨_, cellL h 0 7 rfl rfl rfl, ?_⟩
    exact ⟨rfl, rfl⟩
  refine ⟨_, rfl, ?_⟩
  refine ⟨_, cellL h 2 6 rfl rfl rfl, ?_⟩
  refine rtt_Meter_Wait_ok h hp ?_
  intro r_1 w h hp
  refine ⟨_, rfl, ?_⟩
  refine ⟨(h.sel [2] 6), ?_⟩
  refine ⟨_, rfl, ?_⟩
  refine storeL (ys := [(Value.int .i64 1)]) h 2 0 rfl rfl rfl sz3 rfl rfl ?_
  intro w h
  dsimp only [setH, setVs, setV] at h
  refine ⟨_, rfl, ?_⟩
  refine storeL (ys := [(Value.int .i64 (IntKind.wrap .i64 (now + r_1)))]) h 2 3 rfl rfl rfl sz3 rfl rfl ?_
  intro w h
  dsimp only [setH, setVs, setV] at h
  replace h := h.pick [2, 2, 0, 1, 1, 1]
  dsimp only [pickL, pickR, nthH, delH, dropH, List.cons_append, List.nil_append] at h
  refine punch_Puncher_punch_ok h hp ?_
  intro r_2 hd hd_1 hd_2 m_7 m_8 m_9 w h hp
  have cpp_2 := rowCap h 1 rfl
  refine ⟨_, _, _, _, _, _, _, _, _, _, rfl, ?_⟩
  refine punch_told_ok (m_Nums := hd) (m_Addrs := hd_1) (m_Body := hd_2) h hp ?_
  rintro rs p_6 n_4 c_6 w rfl h hp
  have cpp_6 := rowCap h 0 rfl
  refine ⟨_, _, _, rfl, ?_⟩
  replace h := h.sel [0, 0, 0, 0, 3, 0, 0, 0] 0
  dsimp only [pickL, pickR, nthH, delH, dropH, List.cons_append, List.nil_append] at h
  exact hR rs 1 (IntKind.wrap .i64 (now + r_1)) marks_2 m_7 m_8 m_9 p_6 rs.length c_6 p_5 marks_2.length c_5 _ rfl rfl h hp

/-! (*embrasure/punch.Puncher).Begin (10) -/
def punch_Puncher_Begin_wp (h_1 : Int) (h_2 : Bool) (h_3 : Int) (h_4 : Int) (own : List (Int × Int)) (marks : List (Int × Int)) (mean : Int) (dev : Int) (any : Bool) (now : Int) (now_1 : Int) (m_1 : List ((Option Addr × Nat × Nat) × List (Int))) (m_2 : List ((Option Addr × Nat × Nat) × List (Int))) (m_3 : List ((Option Addr × Nat × Nat) × List (Int × Int))) (K : List (Int × (Option Addr × Nat × Nat) × Int × (Option Addr × Nat × Nat) × (Option Addr × Nat × Nat) × (Option Addr × Nat × Nat)) → Int → Bool → Int → Int → Int → List (Int × Int) → List ((Option Addr × Nat × Nat) × List (Int)) → List ((Option Addr × Nat × Nat) × List (Int)) → List ((Option Addr × Nat × Nat) × List (Int × Int)) → Prop) : Prop :=
  joinP2 (fun (now_3 : Int) (t16 : Bool) => cond t16 (K ([] : List (Int × (Option Addr × Nat × Nat) × Int × (Option Addr × Nat × Nat) × (Option Addr × Nat × Nat) × (Option Addr × Nat × Nat))) h_1 h_2 h_3 h_4 now_3 marks m_1 m_2 m_3) (punch_Puncher_ask_wp h_1 true 1 h_4 own marks mean dev any now_3 m_1 m_2 m_3 (fun (rs : List (Int × (Option Addr × Nat × Nat) × Int × (Option Addr × Nat × Nat) × (Option Addr × Nat × Nat) × (Option Addr × Nat × Nat))) (h_9 : Int) (h_10 : Int) (marks_2 : List (Int × Int)) (m_7 : List ((Option Addr × Nat × Nat) × List (Int))) (m_8 : List ((Option Addr × Nat × Nat) × List (Int))) (m_9 : List ((Option Addr × Nat × Nat) × List (Int × Int))) => K rs h_9 true 1 h_10 now_3 marks_2 m_7 m_8 m_9))) (fun (Q : Int → Bool → Prop) => cond ((h_1 : Int) != 0) (Q now true) (punch_Puncher_on_wp h_1 h_2 h_3 h_4 mean dev any now now_1 (fun (r : Bool) (now_4 : Int) => Q now_4 (!r))))
theorem punch_Puncher_Begin_ok {b_1 : Nat} {p_1 : Option Addr} {n_1 : Nat} {c_1 : Nat} {p_2 : Option Addr} {c_2 : Nat} {b_2 : Nat} {p_3 : Option Addr} {c_3 : Nat} {h_1 : Int} {h_2 : Bool} {h_3 : Int} {h_4 : Int} {own : List (Int × Int)} {marks : List (Int × Int)} {mean : Int} {dev : Int} {any : Bool} {now : Int} {now_1 : Int} {m_1 : List ((Option Addr × Nat × Nat) × List (Int))} {m_2 : List ((Option Addr × Nat × Nat) × List (Int))} {m_3 : List ((Option Addr × Nat × Nat) × List (Int × Int))} {FL : List HP} {w : World} {K : List (Int × (Option Addr × Nat × Nat) × Int × (Option Addr × Nat × Nat) × (Option Addr × Nat × Nat) × (Option Addr × Nat × Nat)) → Int → Bool → Int → Int → Int → List (Int × Int) → List ((Option Addr × Nat × Nat) × List (Int)) → List ((Option Addr × Nat × Nat) × List (Int)) → List ((Option Addr × Nat × Nat) × List (Int × Int)) → Prop} {R : Value → World → Prop}
  (h : Mem (cel b_1 64 [(Value.int .i64 h_1), (Value.bool h_2), (Value.int .i64 h_3), (Value.int .i64 h_4), (Value.slice p_1 n_1 c_1), (Value.slice p_2 own.length c_2), (Value.pointer (some (Addr.mk b_2 0 none))), (Value.int .i64 now)] :: row enc55 55 2 p_2 c_2 own :: cel b_2 74 [(Value.slice p_3 marks.length c_3), (Value.int .i64 mean), (Value.int .i64 dev), (Value.bool any)] :: row enc86 86 2 p_3 c_3 marks :: poolP enc5 5 1 m_1 :: poolP enc52 52 1 m_2 :: poolP enc55 55 2 m_3 :: FL) w) (hp : punch_Puncher_Begin_wp h_1 h_2 h_3 h_4 own marks mean dev any now now_1 m_1 m_2 m_3 K)
  (hR : ∀ (rs : List (Int × (Option Addr × Nat × Nat) × Int × (Option Addr × Nat × Nat) × (Option Addr × Nat × Nat) × (Option Addr × Nat × Nat))) (h_5 : Int) (h_6 : Bool) (h_7 : Int) (h_8 : Int) (now_2 : Int) (marks_1 : List (Int × Int)) (m_4 : List ((Option Addr × Nat × Nat) × List (Int))) (m_5 : List ((Option Addr × Nat × Nat) × List (Int))) (m_6 : List ((Option Addr × Nat × Nat) × List (Int × Int))) (p_5 : Option Addr) (n_3 : Nat) (c_5 : Nat) (p_4 : Option Addr) (n_2 : Nat) (c_4 : Nat) (w : World), n_3 = rs.length → n_2 = marks_1.length → Mem (row enc39 39 6 p_5 c_5 rs :: cel b_1 64 [(Value.int .i64 h_5), (Value.bool h_6), (Value.int .i64 h_7), (Value.int .i64 h_8), (Value.slice p_1 n_1 c_1), (Value.slice p_2 own.length c_2), (Value.pointer (some (Addr.mk b_2 0 none))), (Value.int .i64 now_2)] :: row enc55 55 2 p_2 c_2 own :: cel b_2 74 [(Value.slice p_4 n_2 c_4), (Value.int .i64 mean), (Value.int .i64 dev), (Value.bool any)] :: row enc86 86 2 p_4 c_4 marks_1 :: poolP enc5 5 1 m_4 :: poolP enc52 52 1 m_5 :: poolP enc55 55 2 m_6 :: FL) w → K rs h_5 h_6 h_7 h_8 now_2 marks_1 m_4 m_5 m_6 → R (Value.slice p_5 n_3 c_5) w) :
  CallV Try.prog 10 #[(Value.pointer (some (Addr.mk b_1 0 none))), (Value.int .i64 now_1)] w R := by
  refine punch_Puncher_Begin_call ?_
  unfold punch_Puncher_Begin
  unfold punch_Puncher_Begin_wp at hp
  have cpp_2 := rowCap h 1 rfl
  have cpp_3 := rowCap h 3 rfl
  obtain ⟨Q, hq, hp⟩ := hp
  refine ⟨fun p0 t16 w => ∃ (now_3 : Int), (some (Addr.mk b_1 0 none)) = p0 ∧ Q now_3 t16 ∧ Mem (cel b_1 64 [(Value.int .i64 h_1), (Value.bool h_2), (Value.int .i64 h_3), (Value.int .i64 h_4), (Value.slice p_1 n_1 c_1), (Value.slice p_2 own.length c_2), (Value.pointer (some (Addr.mk b_2 0 none))), (Value.int .i64 now_3)] :: row enc55 55 2 p_2 c_2 own :: cel b_2 74 [(Value.slice p_3 marks.length c_3), (Value.int .i64 mean), (Value.int .i64 dev), (Value.bool any)] :: row enc86 86 2 p_3 c_3 marks :: poolP enc5 5 1 m_1 :: poolP enc52 52 1 m_2 :: poolP enc55 55 2 m_3 :: FL) w, ?_, ?_⟩
  · rintro p0 t16 w ⟨now_3, rfl, hp, h⟩
    replace hp := hq now_3 t16 hp
    unfold punch_Puncher_Begin_j1
    refine cond_both hp (fun hp => ?_) (fun hp => ?_)
    · replace h := rowNil enc39 39 6 h
      exact hR ([] : List (Int × (Option Addr × Nat × Nat) × Int × (Option Addr × Nat × Nat) × (Option Addr × Nat × Nat) × (Option Addr × Nat × Nat))) h_1 h_2 h_3 h_4 now_3 marks m_1 m_2 m_3 (none ) 0 0 p_3 marks.length c_3 _ rfl rfl h hp
    refine ⟨_, rfl, ?_⟩
    refine storeL (ys := [(Value.bool true)]) h 0 1 rfl rfl rfl sz4 rfl rfl ?_
    intro w h
    dsimp only [setH, setVs, setV] at h
    refine ⟨_, rfl, ?_⟩
    refine storeL (ys := [(Value.int .i64 1)]) h 0 2 rfl rfl rfl sz3 rfl rfl ?_
    intro w h
    dsimp only [setH, setVs, setV] at h
    refine punch_Puncher_ask_ok h hp ?_
    rintro rs h_9 h_10 marks_2 m_7 m_8 m_9 p_6 n_3 c_5 p_7 n_4 c_6 w rfl rfl h hp
    have cpp_6 := rowCap h 0 rfl
    have cpp_2 := rowCap h 2 rfl
    have cpp_7 := rowCap h 4 rfl
    refine ⟨_, _, _, rfl, ?_⟩
    exact hR rs h_9 true 1 h_10 now_3 marks_2 m_7 m_8 m_9 p_6 rs.length c_5 p_7 marks_2.length c_6 _ rfl rfl h hp
  clear hq
  refine ⟨_, rfl, ?_⟩
  refine ⟨_, cellL h 0 0 rfl rfl rfl, ?_⟩
  refine cond_both hp (fun hp => ?_) (fun hp => ?_)
  · exact ⟨now, rfl, hp, h⟩
  replace h := h.pick [0, 1]
  dsimp only [pickL, pickR, nthH, delH, dropH, List.cons_append, List.nil_append] at h
  refine punch_Puncher_on_ok h hp ?_
  intro r now_4 w h hp
  refine ⟨_, rfl, ?_⟩
  replace h := h.sel [0, 1, 0, 0, 0, 0, 0] 0
  dsimp only [pickL, pickR, nthH, delH, dropH, List.cons_append, List.nil_append] at h
  exact ⟨now_4, rfl, hp, h⟩

/-! embrasure/rtt.abs (52) -/
def rtt_abs_wp (n_1 : Int) (K : Int → Prop) : Prop :=
  K (if ((IntKind.wrap .i64 (0 - n_1)) : Int) > n_1 then (IntKind.wrap .i64 (0 - n_1)) else n_1)
theorem rtt_abs_ok {n_1 : Int} {FL : List HP} {w : World} {K : Int → Prop} {R : Value → World → Prop}
  (h : Mem (FL) w) (hp : rtt_abs_wp n_1 K)
  (hR : ∀ (r : Int) (w : World), Mem (FL) w → K r → R (Value.int .i64 r) w) :
  CallV Try.prog 52 #[(Value.int .i64 n_1)] w R := by
  refine rtt_abs_call ?_
  unfold rtt_abs
  unfold rtt_abs_wp at hp
  exact hR (if ((IntKind.wrap .i64 (0 - n_1)) : Int) > n_1 then (IntKind.wrap .i64 (0 - n_1)) else n_1) _ h hp

/-! (*embrasure/rtt.Meter).sample (46) -/
def rtt_Meter_sample_wp (mean : Int) (dev : Int) (any : Bool) (s : Int) (K : Int → Int → Bool → Prop) : Prop :=
  cond (!any) (K (IntKind.wrap .i64 (8 * s)) (IntKind.wrap .i64 (2 * s)) true) (rtt_abs_wp (IntKind.wrap .i64 (s - (IntKind.wrap .i64 (Int.tdiv mean 8)))) (fun (r : Int) => K (IntKind.wrap .i64 (mean + (IntKind.wrap .i64 (s - (IntKind.wrap .i64 (Int.tdiv mean 8)))))) (IntKind.wrap .i64 (dev + (IntKind.wrap .i64 (r - (IntKind.wrap .i64 (Int.tdiv dev 4)))))) any))
theorem rtt_Meter_sample_ok {b_1 : Nat} {p_1 : Option Addr} {n_1 : Nat} {c_1 : Nat} {mean : Int} {dev : Int} {any : Bool} {s : Int} {FL : List HP} {w : World} {K : Int → Int → Bool → Prop} {R : Value → World → Prop}
  (h : Mem (cel b_1 74 [(Value.slice p_1 n_1 c_1), (Value.int .i64 mean), (Value.int .i64 dev), (Value.bool any)] :: FL) w) (hp : rtt_Meter_sample_wp mean dev any s K)
  (hR : ∀ (mean_1 : Int) (dev_1 : Int) (any_1 : Bool) (w : World), Mem (cel b_1 74 [(Value.slice p_1 n_1 c_1), (Value.int .i64 mean_1), (Value.int .i64 dev_1), (Value.bool any_1)] :: FL) w → K mean_1 dev_1 any_1 → R undef w) :
  CallV Try.prog 46 #[(Value.pointer (some (Addr.mk b_1 0 none))), (Value.int .i64 s)] w R := by
  refine rtt_Meter_sample_call ?_
  unfold rtt_Meter_sample
  unfold rtt_Meter_sample_wp at hp
  refine ⟨_, rfl, ?_⟩
  refine ⟨_, cellL h 0 3 rfl rfl rfl, ?_⟩
  refine cond_both hp (fun hp => ?_) (fun hp => ?_)
  · refine ⟨_, rfl, ?_⟩
    refine storeL (ys := [(Value.int .i64 (IntKind.wrap .i64 (8 * s)))]) h 0 1 rfl rfl rfl sz3 rfl rfl ?_
    intro w h
    dsimp only [setH, setVs, setV] at h
    refine ⟨_, rfl, ?_⟩
    refine storeL (ys := [(Value.int .i64 (IntKind.wrap .i64 (2 * s)))]) h 0 2 rfl rfl rfl sz3 rfl rfl ?_
    intro w h
    dsimp only [setH, setVs, setV] at h
    refine ⟨_, rfl, ?_⟩
    refine storeL (ys := [(Value.bool true)]) h 0 3 rfl rfl rfl sz4 rfl rfl ?_
    intro w h
    dsimp only [setH, setVs, setV] at h
    exact hR (IntKind.wrap .i64 (8 * s)) (IntKind.wrap .i64 (2 * s)) true _ h hp
  refine ⟨_, rfl, ?_⟩
  refine ⟨_, cellL h 0 1 rfl rfl rfl, ?_⟩
  refine ⟨by decide, ?_⟩
  replace h := h.drew
  refine ⟨fun w => Mem (cel b_1 74 [(Value.slice p_1 n_1 c_1), (Value.int .i64 mean), (Value.int .i64 dev), (Value.bool any)] :: FL) w, (h.sel [0] 0), ?_⟩
  refine ⟨_, rfl, ?_⟩
  refine ⟨_, cellL h 0 2 rfl rfl rfl, ?_⟩
  refine ⟨?_, ?_⟩
  · intro w h
    change Mem _ _ at h
    refine ⟨_, cellL h 0 2 rfl rfl rfl, ?_⟩
    exact ⟨rfl, rfl⟩
  refine ⟨_, rfl, ?_⟩
  refine ⟨_, cellL h 0 2 rfl rfl rfl, ?_⟩
  refine ⟨?_, ?_⟩
  · intro w h
    change Mem _ _ at h
    refine ⟨_, cellL h 0 2 rfl rfl rfl, ?_⟩
    exact ⟨rfl, rfl⟩
  refine ⟨by decide, ?_⟩
  refine rtt_abs_ok h hp ?_
  intro r w h hp
  refine ⟨_, rfl, ?_⟩
  refine ⟨(h.sel [0] 0), ?_⟩
  refine ⟨_, rfl, ?_⟩
  refine storeL (ys := [(Value.int .i64 (IntKind.wrap .i64 (dev + (IntKind.wrap .i64 (r - (IntKind.wrap .i64 (Int.tdiv dev 4)))))))]) h 0 2 rfl rfl rfl sz3 rfl rfl ?_
  intro w h
  dsimp only [setH, setVs, setV] at h
  refine ⟨_, rfl, ?_⟩
  refine ⟨_, cellL h 0 1 rfl rfl rfl, ?_⟩
  refine ⟨_, rfl, ?_⟩
  refine storeL (ys := [(Value.int .i64 (IntKind.wrap .i64 (mean + (IntKind.wrap .i64 (s - (IntKind.wrap .i64 (Int.tdiv mean 8)))))))]) h 0 1 rfl rfl rfl sz3 rfl rfl ?_
  intro w h
  dsimp only [setH, setVs, setV] at h
  exact hR (IntKind.wrap .i64 (mean + (IntKind.wrap .i64 (s - (IntKind.wrap .i64 (Int.tdiv mean 8)))))) (IntKind.wrap .i64 (dev + (IntKind.wrap .i64 (r - (IntKind.wrap .i64 (Int.tdiv dev 4)))))) any _ h hp

/-! (*embrasure/rtt.Meter).Got (37) -/
def rtt_Meter_Got_wp (marks : List (Int × Int)) (mean : Int) (dev : Int) (any : Bool) (now : Int) (no : Int) (K : Int → Int → List (Int × Int) → Int → Int → Bool → Prop) : Prop :=
  rtt_Meter_place_wp marks mean dev any no (fun (r : Int) => cond (decide ((r : Int) < 0)) (K 0 5 marks mean dev any) (joinP1 (fun (t16 : Bool) => cond t16 (K 0 1 marks mean dev any) (0 ≤ (r : Int) ∧ (r : Int) < ((marks.length : Nat) : Int) ∧ (∀ (x_2 : Int × Int), marks[Int.toNat r]? = some x_2 → (rtt_Meter_drop_wp marks mean dev any r (fun (marks_2 : List (Int × Int)) => rtt_Meter_sample_wp mean dev any (if (10000 : Int) < (IntKind.wrap .i64 (now - x_2.2)) then 10000 else (IntKind.wrap .i64 (now - x_2.2))) (fun (mean_2 : Int) (dev_2 : Int) (any_2 : Bool) => K (if (10000 : Int) < (IntKind.wrap .i64 (now - x_2.2)) then 10000 else (IntKind.wrap .i64 (now - x_2.2))) 0 marks_2 mean_2 dev_2 any_2)))))) (fun (Q : Bool → Prop) => 0 ≤ (r : Int) ∧ (r : Int) < ((marks.length : Nat) : Int) ∧ (∀ (x_1 : Int × Int), marks[Int.toNat r]? = some x_1 → (cond (decide ((now : Int) < x_1.2)) (Q true) (Q (decide ((now : Int) > 1099511627776))))))))
theorem rtt_Meter_Got_ok {b_1 : Nat} {p_1 : Option Addr} {c_1 : Nat} {marks : List (Int × Int)} {mean : Int} {dev : Int} {any : Bool} {now : Int} {no : Int} {FL : List HP} {w : World} {K : Int → Int → List (Int × Int) → Int → Int → Bool → Prop} {R : Value → World → Prop}
  (h : Mem (cel b_1 74 [(Value.slice p_1 marks.length c_1), (Value.int .i64 mean), (Value.int .i64 dev), (Value.bool any)] :: row enc86 86 2 p_1 c_1 marks :: FL) w) (hp : rtt_Meter_Got_wp marks mean dev any now no K)
  (hR : ∀ (r : Int) (r_1 : Int) (marks_1 : List (Int × Int)) (mean_1 : Int) (dev_1 : Int) (any_1 : Bool) (p_2 : Option Addr) (n_1 : Nat) (c_2 : Nat) (w : World), n_1 = marks_1.length → Mem (cel b_1 74 [(Value.slice p_2 n_1 c_2), (Value.int .i64 mean_1), (Value.int .i64 dev_1), (Value.bool any_1)] :: row enc86 86 2 p_2 c_2 marks_1 :: FL) w → K r r_1 marks_1 mean_1 dev_1 any_1 → R (Value.tuple #[(Value.int .i64 r), (Value.int .i64 r_1)]) w) :
  CallV Try.prog 37 #[(Value.pointer (some (Addr.mk b_1 0 none))), (Value.int .i64 now), (Value.int .u64 no)] w R := by
  refine rtt_Meter_Got_call ?_
  unfold rtt_Meter_Got
  unfold rtt_Meter_Got_wp at hp
  have cpp_1 := rowCap h 1 rfl
  refine rtt_Meter_place_ok h hp ?_
  intro r w h hp
  have cpp_1 := rowCap h 1 rfl
  refine ⟨_, rfl, ?_⟩
  refine cond_both hp (fun hp => ?_) (fun hp => ?_)
  · exact hR 0 5 marks mean dev any p_1 marks.length c_1 _ rfl h hp
  obtain ⟨Q, hq, hp⟩ := hp
  refine ⟨fun m0 now1 i8 t16 w => (some (Addr.mk b_1 0 none)) = m0 ∧ now = now1 ∧ r = i8 ∧ Q t16 ∧ Mem (cel b_1 74 [(Value.slice p_1 marks.length c_1), (Value.int .i64 mean), (Value.int .i64 dev), (Value.bool any)] :: row enc86 86 2 p_1 c_1 marks :: FL) w, ?_, ?_⟩
  · rintro m0 now1 i8 t16 w ⟨rfl, rfl, rfl, hp, h⟩
    replace hp := hq t16 hp
    unfold rtt_Meter_Got_j1
    refine cond_both hp (fun hp => ?_) (fun hp => ?_)
    · exact hR 0 1 marks mean dev any p_1 marks.length c_1 _ rfl h hp
    refine ⟨_, rfl, ?_⟩
    refine ⟨_, _, _, cellL h 0 0 rfl rfl rfl, ?_⟩
    obtain ⟨ia_2, ja_2, hp⟩ := hp
    obtain ⟨a_2, ha_2⟩ := rdAddr (rowRd h 1 encL86 rfl) rfl ia_2 ja_2
    refine ⟨a_2, ha_2, ia_2, ja_2, ?_⟩
    obtain ⟨x_2, hx_2, hc⟩ := rdCell (rowRd h 1 encL86 rfl) ha_2 rfl ia_2 ja_2
    replace hp := hp x_2 hx_2
    refine ⟨_, hc 1 _ rfl, ?_⟩
    refine rtt_Meter_drop_ok h hp ?_
    rintro marks_2 p_3 n_2 c_3 w rfl h hp
    have cpp_3 := rowCap h 1 rfl
    refine ⟨rfl, ?_⟩
    refine rtt_Meter_sample_ok h hp ?_
    intro mean_2 dev_2 any_2 w h hp
    refine ⟨rfl, ?_⟩
    exact hR (if (10000 : Int) < (IntKind.wrap .i64 (now - x_2.2)) then 10000 else (IntKind.wrap .i64 (now - x_2.2))) 0 marks_2 mean_2 dev_2 any_2 p_3 marks_2.length c_3 _ rfl h hp
  clear hq
  refine ⟨_, rfl, ?_⟩
  refine ⟨_, _, _, cellL h 0 0 rfl rfl rfl, ?_⟩
  obtain ⟨ia_1, ja_1, hp⟩ := hp
  obtain ⟨a_1, ha_1⟩ := rdAddr (rowRd h 1 encL86 rfl) rfl ia_1 ja_1
  refine ⟨a_1, ha_1, ia_1, ja_1, ?_⟩
  obtain ⟨x_1, hx_1, hc⟩ := rdCell (rowRd h 1 encL86 rfl) ha_1 rfl ia_1 ja_1
  replace hp := hp x_1 hx_1
  refine ⟨_, hc 1 _ rfl, ?_⟩
  refine cond_both hp (fun hp => ?_) (fun hp => ?_)
  · exact ⟨rfl, rfl, rfl, hp, h⟩
  exact ⟨rfl, rfl, rfl, hp, h⟩

/-! (*embrasure/punch.Puncher).heardPunch (26) -/
def punch_Puncher_heardPunch_wp (h_1 : Int) (h_2 : Bool) (h_3 : Int) (h_4 : Int) (h_5 : List (Int × Int)) (own : List (Int × Int)) (marks : List (Int × Int)) (mean : Int) (dev : Int) (any : Bool) (now : Int) (m_Kind : Int) (m_Nums : List (Int)) (m_Addrs : List (Int × Int)) (m_Body : List (Int)) (m_1 : List ((Option Addr × Nat × Nat) × List (Int))) (m_2 : List ((Option Addr × Nat × Nat) × List (Int))) (m_3 : List ((Option Addr × Nat × Nat) × List (Int × Int))) (K : List (Int × (Option Addr × Nat × Nat) × Int × (Option Addr × Nat × Nat) × (Option Addr × Nat × Nat) × (Option Addr × Nat × Nat)) → Int → Int → Int → List (Int × Int) → List (Int × Int) → Int → Int → Bool → List ((Option Addr × Nat × Nat) × List (Int)) → List ((Option Addr × Nat × Nat) × List (Int)) → List ((Option Addr × Nat × Nat) × List (Int × Int)) → Prop) : Prop :=
  0 ≤ (0 : Int) ∧ (0 : Int) < ((m_Nums.length : Nat) : Int) ∧ (∀ (x_1 : Int), m_Nums[Int.toNat 0]? = some x_1 → (joinP1 (fun (t12 : Bool) => cond t12 (K ([] : List (Int × (Option Addr × Nat × Nat) × Int × (Option Addr × Nat × Nat) × (Option Addr × Nat × Nat) × (Option Addr × Nat × Nat))) h_1 h_3 h_4 h_5 marks mean dev any m_1 m_2 m_3) (joinP1 (fun (t19 : Bool) => cond t19 (slices_Clone_sl_api_Addr_api_Addr_wp m_Addrs (fun (rs : List (Int × Int)) => punch_Puncher_punch_wp 2 h_2 (IntKind.wrap .i64 x_1) (IntKind.wrap .i64 (now + 100)) own mean dev any now 1 m_1 m_2 m_3 (fun (r : Int) (hd : Option Addr × Nat × Nat) (hd_1 : Option Addr × Nat × Nat) (hd_2 : Option Addr × Nat × Nat) (m_7 : List ((Option Addr × Nat × Nat) × List (Int))) (m_8 : List ((Option Addr × Nat × Nat) × List (Int))) (m_9 : List ((Option Addr × Nat × Nat) × List (Int × Int))) => punch_told_wp r hd hd_1 hd_2 (fun (rs_1 : List (Int × (Option Addr × Nat × Nat) × Int × (Option Addr × Nat × Nat) × (Option Addr × Nat × Nat) × (Option Addr × Nat × Nat))) => K rs_1 2 (IntKind.wrap .i64 x_1) (IntKind.wrap .i64 (now + 100)) rs marks mean dev any m_7 m_8 m_9)))) (joinP1 (fun (t88 : Bool) => cond t88 (slices_Clone_sl_api_Addr_api_Addr_wp m_Addrs (fun (rs_2 : List (Int × Int)) => rtt_Meter_Got_wp marks mean dev any now x_1 (fun (r_1 : Int) (r_2 : Int) (marks_2 : List (Int × Int)) (mean_2 : Int) (dev_2 : Int) (any_2 : Bool) => ∀ (hd_3 : Option Addr × Nat × Nat), hd_3.2.1 = [x_1].length → (punch_told_wp 18 hd_3 ((none, 0, 0) : Option Addr × Nat × Nat) ((none, 0, 0) : Option Addr × Nat × Nat) (fun (rs_3 : List (Int × (Option Addr × Nat × Nat) × Int × (Option Addr × Nat × Nat) × (Option Addr × Nat × Nat) × (Option Addr × Nat × Nat))) => K rs_3 2 h_3 (IntKind.wrap .i64 (now + (IntKind.wrap .i64 (Int.tdiv r_1 2)))) rs_2 marks_2 mean_2 dev_2 any_2 m_1 (m_2 ++ [(hd_3, [x_1])]) m_3))))) (K ([] : List (Int × (Option Addr × Nat × Nat) × Int × (Option Addr × Nat × Nat) × (Option Addr × Nat × Nat) × (Option Addr × Nat × Nat))) h_1 h_3 h_4 h_5 marks mean dev any m_1 m_2 m_3)) (fun (Q_2 : Bool → Prop) => 0 ≤ (1 : Int) ∧ (1 : Int) < ((m_Nums.length : Nat) : Int) ∧ (∀ (x_3 : Int), m_Nums[Int.toNat 1]? = some x_3 → (cond ((x_3 : Int) == 1) (cond h_2 (cond ((h_1 : Int) == 1) (Q_2 ((x_1 : Int) == (IntKind.wrap .u64 h_3))) (Q_2 false)) (Q_2 false)) (Q_2 false)))))) (fun (Q_1 : Bool → Prop) => 0 ≤ (1 : Int) ∧ (1 : Int) < ((m_Nums.length : Nat) : Int) ∧ (∀ (x_2 : Int), m_Nums[Int.toNat 1]? = some x_2 → (cond ((x_2 : Int) == 0) (cond (!h_2) (cond ((h_1 : Int) != 4) (cond ((h_1 : Int) != 5) (Q_1 (decide ((x_1 : Int) ≥ (IntKind.wrap .u64 h_3)))) (Q_1 false)) (Q_1 false)) (Q_1 false)) (Q_1 false)))))) (fun (Q : Bool → Prop) => cond (decide ((x_1 : Int) < 1)) (Q true) (Q (decide ((x_1 : Int) > 3))))))
theorem punch_Puncher_heardPunch_ok {b_1 : Nat} {p_1 : Option Addr} {c_1 : Nat} {p_2 : Option Addr} {c_2 : Nat} {b_2 : Nat} {p_3 : Option Addr} {c_3 : Nat} {p_4 : Option Addr} {n_1 : Nat} {c_4 : Nat} {p_5 : Option Addr} {n_2 : Nat} {c_5 : Nat} {p_6 : Option Addr} {n_3 : Nat} {c_6 : Nat} {h_1 : Int} {h_2 : Bool} {h_3 : Int} {h_4 : Int} {h_5 : List (Int × Int)} {own : List (Int × Int)} {marks : List (Int × Int)} {mean : Int} {dev : Int} {any : Bool} {now : Int} {m_Kind : Int} {m_Nums : List (Int)} {m_Addrs : List (Int × Int)} {m_Body : List (Int)} {m_1 : List ((Option Addr × Nat × Nat) × List (Int))} {m_2 : List ((Option Addr × Nat × Nat) × List (Int))} {m_3 : List ((Option Addr × Nat × Nat) × List (Int × Int))} {FL : List HP} {w : World} {K : List (Int × (Option Addr × Nat × Nat) × Int × (Option Addr × Nat × Nat) × (Option Addr × Nat × Nat) × (Option Addr × Nat × Nat)) → Int → Int → Int → List (Int × Int) → List (Int × Int) → Int → Int → Bool → List ((Option Addr × Nat × Nat) × List (Int)) → List ((Option Addr × Nat × Nat) × List (Int)) → List ((Option Addr × Nat × Nat) × List (Int × Int)) → Prop} {R : Value → World → Prop}
  (hF_m_Nums : ∀ w, Mem (poolP enc5 5 1 m_1 :: poolP enc52 52 1 m_2 :: poolP enc55 55 2 m_3 :: FL) w → Rd w 1 p_4 enc52 m_Nums) (hl_m_Nums : n_1 = m_Nums.length) (hc_m_Nums : n_1 ≤ c_4)
  (hF_m_Addrs : ∀ w, Mem (poolP enc5 5 1 m_1 :: poolP enc52 52 1 m_2 :: poolP enc55 55 2 m_3 :: FL) w → Rd w 2 p_5 enc55 m_Addrs) (hl_m_Addrs : n_2 = m_Addrs.length) (hc_m_Addrs : n_2 ≤ c_5)
  (hF_m_Body : ∀ w, Mem (poolP enc5 5 1 m_1 :: poolP enc52 52 1 m_2 :: poolP enc55 55 2 m_3 :: FL) w → Rd w 1 p_6 enc5 m_Body) (hl_m_Body : n_3 = m_Body.length) (hc_m_Body : n_3 ≤ c_6)
  (h : Mem (cel b_1 64 [(Value.int .i64 h_1), (Value.bool h_2), (Value.int .i64 h_3), (Value.int .i64 h_4), (Value.slice p_1 h_5.length c_1), (Value.slice p_2 own.length c_2), (Value.pointer (some (Addr.mk b_2 0 none))), (Value.int .i64 now)] :: row enc55 55 2 p_1 c_1 h_5 :: row enc55 55 2 p_2 c_2 own :: cel b_2 74 [(Value.slice p_3 marks.length c_3), (Value.int .i64 mean), (Value.int .i64 dev), (Value.bool any)] :: row enc86 86 2 p_3 c_3 marks :: poolP enc5 5 1 m_1 :: poolP enc52 52 1 m_2 :: poolP enc55 55 2 m_3 :: FL) w) (hp : punch_Puncher_heardPunch_wp h_1 h_2 h_3 h_4 h_5 own marks mean dev any now m_Kind m_Nums m_Addrs m_Body m_1 m_2 m_3 K)
  (hR : ∀ (rs : List (Int × (Option Addr × Nat × Nat) × Int × (Option Addr × Nat × Nat) × (Option Addr × Nat × Nat) × (Option Addr × Nat × Nat))) (h_6 : Int) (h_7 : Int) (h_8 : Int) (h_9 : List (Int × Int)) (marks_1 : List (Int × Int)) (mean_1 : Int) (dev_1 : Int) (any_1 : Bool) (m_4 : List ((Option Addr × Nat × Nat) × List (Int))) (m_5 : List ((Option Addr × Nat × Nat) × List (Int))) (m_6 : List ((Option Addr × Nat × Nat) × List (Int × Int))) (p_9 : Option Addr) (n_6 : Nat) (c_9 : Nat) (p_7 : Option Addr) (n_4 : Nat) (c_7 : Nat) (p_8 : Option Addr) (n_5 : Nat) (c_8 : Nat) (w : World), n_6 = rs.length → n_4 = h_9.length → n_5 = marks_1.length → Mem (row enc39 39 6 p_9 c_9 rs :: cel b_1 64 [(Value.int .i64 h_6), (Value.bool h_2), (Value.int .i64 h_7), (Value.int .i64 h_8), (Value.slice p_7 n_4 c_7), (Value.slice p_2 own.length c_2), (Value.pointer (some (Addr.mk b_2 0 none))), (Value.int .i64 now)] :: row enc55 55 2 p_7 c_7 h_9 :: row enc55 55 2 p_2 c_2 own :: cel b_2 74 [(Value.slice p_8 n_5 c_8), (Value.int .i64 mean_1), (Value.int .i64 dev_1), (Value.bool any_1)] :: row enc86 86 2 p_8 c_8 marks_1 :: poolP enc5 5 1 m_4 :: poolP enc52 52 1 m_5 :: poolP enc55 55 2 m_6 :: FL) w → K rs h_6 h_7 h_8 h_9 marks_1 mean_1 dev_1 any_1 m_4 m_5 m_6 → R (Value.slice p_9 n_6 c_9) w) :
  CallV Try.prog 26 #[(Value.pointer (some (Addr.mk b_1 0 none))), (Value.agg #[(Value.int .i64 m_Kind), (Value.slice p_4 n_1 c_4), (Value.slice p_5 n_2 c_5), (Value.slice p_6 n_3 c_6)])] w R := by
  refine punch_Puncher_heardPunch_call ?_
  unfold punch_Puncher_heardPunch
  unfold punch_Puncher_heardPunch_wp at hp
  subst hl_m_Nums
  subst hl_m_Addrs
  subst hl_m_Body
  have cpp_1 := rowCap h 1 rfl
  have cpp_2 := rowCap h 2 rfl
  have cpp_3 := rowCap h 4 rfl
  refine newL (o := [(Value.int .i64 m_Kind), (Value.slice p_4 m_Nums.length c_4), (Value.slice p_5 m_Addrs.length c_5), (Value.slice p_6 m_Body.length c_6)]) h ?_
  intro b_3 w h
  refine ⟨_, _, _, cellL h 0 1 rfl rfl rfl, ?_⟩
  obtain ⟨ia_1, ja_1, hp⟩ := hp
  obtain ⟨a_1, ha_1⟩ := rdAddr (hF_m_Nums _ (Mem.pick (Mem.pick (Mem.pick (h.sel [6, 6, 6] 6) [1, 1]) [1, 1]) [1, 1])) rfl ia_1 ja_1
  refine ⟨a_1, ha_1, ia_1, ja_1, ?_⟩
  obtain ⟨x_1, hx_1, hc⟩ := rdCell0 (hF_m_Nums _ (Mem.pick (Mem.pick (Mem.pick (h.sel [6, 6, 6] 6) [1, 1]) [1, 1]) [1, 1])) ha_1 rfl ia_1 ja_1
  replace hp := hp x_1 hx_1
  refine ⟨_, hc _ rfl, ?_⟩
  obtain ⟨Q, hq, hp⟩ := hp
  refine ⟨fun p0 m3 try5 t12 w => (some (Addr.mk b_1 0 none)) = p0 ∧ (Addr.mk b_3 0 none) = m3 ∧ x_1 = try5 ∧ Q t12 ∧ Mem (cel b_3 37 [(Value.int .i64 m_Kind), (Value.slice p_4 m_Nums.length c_4), (Value.slice p_5 m_Addrs.length c_5), (Value.slice p_6 m_Body.length c_6)] :: cel b_1 64 [(Value.int .i64 h_1), (Value.bool h_2), (Value.int .i64 h_3), (Value.int .i64 h_4), (Value.slice p_1 h_5.length c_1), (Value.slice p_2 own.length c_2), (Value.pointer (some (Addr.mk b_2 0 none))), (Value.int .i64 now)] :: row enc55 55 2 p_1 c_1 h_5 :: row enc55 55 2 p_2 c_2 own :: cel b_2 74 [(Value.slice p_3 marks.length c_3), (Value.int .i64 mean), (Value.int .i64 dev), (Value.bool any)] :: row enc86 86 2 p_3 c_3 marks :: poolP enc5 5 1 m_1 :: poolP enc52 52 1 m_2 :: poolP enc55 55 2 m_3 :: FL) w, ?_, ?_⟩
  · rintro p0 m3 try5 t12 w ⟨rfl, rfl, rfl, hp, h⟩
    replace hp := hq t12 hp
    unfold punch_Puncher_heardPunch_j1
    refine cond_both hp (fun hp => ?_) (fun hp => ?_)
    · replace h := rowNil enc39 39 6 h
      replace h := h.sel [0, 1, 1, 1, 1, 1, 1, 1, 1] 1
      dsimp only [pickL, pickR, nthH, delH, dropH, List.cons_append, List.nil_append] at h
      exact hR ([] : List (Int × (Option Addr × Nat × Nat) × Int × (Option Addr × Nat × Nat) × (Option Addr × Nat × Nat) × (Option Addr × Nat × Nat))) h_1 h_3 h_4 h_5 marks mean dev any m_1 m_2 m_3 (none ) 0 0 p_1 h_5.length c_1 p_3 marks.length c_3 _ rfl rfl rfl h hp
    obtain ⟨Q_1, hq, hp⟩ := hp
    refine ⟨fun p0_1 m3_1 try5_1 t19 w => (some (Addr.mk b_1 0 none)) = p0_1 ∧ (Addr.mk b_3 0 none) = m3_1 ∧ x_1 = try5_1 ∧ Q_1 t19 ∧ Mem (cel b_3 37 [(Value.int .i64 m_Kind), (Value.slice p_4 m_Nums.length c_4), (Value.slice p_5 m_Addrs.length c_5), (Value.slice p_6 m_Body.length c_6)] :: cel b_1 64 [(Value.int .i64 h_1), (Value.bool h_2), (Value.int .i64 h_3), (Value.int .i64 h_4), (Value.slice p_1 h_5.length c_1), (Value.slice p_2 own.length c_2), (Value.pointer (some (Addr.mk b_2 0 none))), (Value.int .i64 now)] :: row enc55 55 2 p_1 c_1 h_5 :: row enc55 55 2 p_2 c_2 own :: cel b_2 74 [(Value.slice p_3 marks.length c_3), (Value.int .i64 mean), (Value.int .i64 dev), (Value.bool any)] :: row enc86 86 2 p_3 c_3 marks :: poolP enc5 5 1 m_1 :: poolP enc52 52 1 m_2 :: poolP enc55 55 2 m_3 :: FL) w, ?_, ?_⟩
    · rintro p0_1 m3_1 try5_1 t19 w ⟨rfl, rfl, rfl, hp, h⟩
      replace hp := hq t19 hp
      unfold punch_Puncher_heardPunch_j2
      refine cond_both hp (fun hp => ?_) (fun hp => ?_)
      · refine ⟨_, _, _, cellL h 0 2 rfl rfl rfl, ?_⟩
        refine slices_Clone_sl_api_Addr_api_Addr_ok (FL := cel b_3 37 [(Value.int .i64 m_Kind), (Value.slice p_4 m_Nums.length c_4), (Value.slice p_5 m_Addrs.length c_5), (Value.slice p_6 m_Body.length c_6)] :: cel b_1 64 [(Value.int .i64 h_1), (Value.bool h_2), (Value.int .i64 h_3), (Value.int .i64 h_4), (Value.slice p_1 h_5.length c_1), (Value.slice p_2 own.length c_2), (Value.pointer (some (Addr.mk b_2 0 none))), (Value.int .i64 now)] :: row enc55 55 2 p_1 c_1 h_5 :: row enc55 55 2 p_2 c_2 own :: cel b_2 74 [(Value.slice p_3 marks.length c_3), (Value.int .i64 mean), (Value.int .i64 dev), (Value.bool any)] :: row enc86 86 2 p_3 c_3 marks :: poolP enc5 5 1 m_1 :: poolP enc52 52 1 m_2 :: poolP enc55 55 2 m_3 :: FL) (fun w h => (hF_m_Addrs _ (Mem.pick (Mem.pick (Mem.pick (h.sel [6, 6, 6] 6) [1, 1]) [1, 1]) [1, 1]))) rfl hc_m_Addrs h hp ?_
        rintro rs p_10 n_6 c_9 w rfl h hp
        have cpp_10 := rowCap h 0 rfl
        refine ⟨_, _, _, rfl, ?_⟩
        refine ⟨_, rfl, ?_⟩
        refine storeL (ys := [(Value.slice p_10 rs.length c_9)]) h 2 4 rfl rfl rfl sz22 rfl rfl ?_
        intro w h
        dsimp only [setH, setVs, setV] at h
        refine ⟨_, rfl, ?_⟩
        refine storeL (ys := [(Value.int .i64 (IntKind.wrap .i64 x_1))]) h 2 2 rfl rfl rfl sz3 rfl rfl ?_
        intro w h
        dsimp only [setH, setVs, setV] at h
        refine ⟨_, rfl, ?_⟩
        refine ⟨_, cellL h 2 7 rfl rfl rfl, ?_⟩
        refine ⟨_, rfl, ?_⟩
        refine storeL (ys := [(Value.int .i64 2)]) h 2 0 rfl rfl rfl sz3 rfl rfl ?_
        intro w h
        dsimp only [setH, setVs, setV] at h
        refine ⟨_, rfl, ?_⟩
        refine storeL (ys := [(Value.int .i64 (IntKind.wrap .i64 (now + 100)))]) h 2 3 rfl rfl rfl sz3 rfl rfl ?_
        intro w h
        dsimp only [setH, setVs, setV] at h
        replace h := h.pick [2, 3, 3, 4, 4, 4]
        dsimp only [pickL, pickR, nthH, delH, dropH, List.cons_append, List.nil_append] at h
        refine punch_Puncher_punch_ok h hp ?_
        intro r hd hd_1 hd_2 m_7 m_8 m_9 w h hp
        have cpp_2 := rowCap h 1 rfl
        refine ⟨_, _, _, _, _, _, _, _, _, _, rfl, ?_⟩
        refine punch_told_ok (m_Nums := hd) (m_Addrs := hd_1) (m_Body := hd_2) h hp ?_
        rintro rs_1 p_11 n_7 c_10 w rfl h hp
        have cpp_11 := rowCap h 0 rfl
        refine ⟨_, _, _, rfl, ?_⟩
        replace h := h.sel [0, 0, 5, 0, 0, 5, 0, 0, 0] 2
        dsimp only [pickL, pickR, nthH, delH, dropH, List.cons_append, List.nil_append] at h
        exact hR rs_1 2 (IntKind.wrap .i64 x_1) (IntKind.wrap .i64 (now + 100)) rs marks mean dev any m_7 m_8 m_9 p_11 rs_1.length c_10 p_10 rs.length c_9 p_3 marks.length c_3 _ rfl rfl rfl h hp
      obtain ⟨Q_2, hq, hp⟩ := hp
      refine ⟨fun p0_2 m3_2 try5_2 t88 w => (some (Addr.mk b_1 0 none)) = p0_2 ∧ (Addr.mk b_3 0 none) = m3_2 ∧ x_1 = try5_2 ∧ Q_2 t88 ∧ Mem (cel b_3 37 [(Value.int .i64 m_Kind), (Value.slice p_4 m_Nums.length c_4), (Value.slice p_5 m_Addrs.length c_5), (Value.slice p_6 m_Body.length c_6)] :: cel b_1 64 [(Value.int .i64 h_1), (Value.bool h_2), (Value.int .i64 h_3), (Value.int .i64 h_4), (Value.slice p_1 h_5.length c_1), (Value.slice p_2 own.length c_2), (Value.pointer (some (Addr.mk b_2 0 none))), (Value.int .i64 now)] :: row enc55 55 2 p_1 c_1 h_5 :: row enc55 55 2 p_2 c_2 own :: cel b_2 74 [(Value.slice p_3 marks.length c_3), (Value.int .i64 mean), (Value.int .i64 dev), (Value.bool any)] :: row enc86 86 2 p_3 c_3 marks :: poolP enc5 5 1 m_1 :: poolP enc52 52 1 m_2 :: poolP enc55 55 2 m_3 :: FL) w, ?_, ?_⟩
      · rintro p0_2 m3_2 try5_2 t88 w ⟨rfl, rfl, rfl, hp, h⟩
        replace hp := hq t88 hp
        unfold punch_Puncher_heardPunch_j3
        refine cond_both' hp (fun hp => ?_) (fun hp => ?_)
        · replace h := rowNil enc39 39 6 h
          replace h := h.sel [0, 1, 1, 1, 1, 1, 1, 1, 1] 1
          dsimp only [pickL, pickR, nthH, delH, dropH, List.cons_append, List.nil_append] at h
          exact hR ([] : List (Int × (Option Addr × Nat × Nat) × Int × (Option Addr × Nat × Nat) × (Option Addr × Nat × Nat) × (Option Addr × Nat × Nat))) h_1 h_3 h_4 h_5 marks mean dev any m_1 m_2 m_3 (none  ) 0 0 p_1 h_5.length c_1 p_3 marks.length c_3 _ rfl rfl rfl h hp
        refine ⟨_, _, _, cellL h 0 2 rfl rfl rfl, ?_⟩
        refine slices_Clone_sl_api_Addr_api_Addr_ok (FL := cel b_3 37 [(Value.int .i64 m_Kind), (Value.slice p_4 m_Nums.length c_4), (Value.slice p_5 m_Addrs.length c_5), (Value.slice p_6 m_Body.length c_6)] :: cel b_1 64 [(Value.int .i64 h_1), (Value.bool h_2), (Value.int .i64 h_3), (Value.int .i64 h_4), (Value.slice p_1 h_5.length c_1), (Value.slice p_2 own.length c_2), (Value.pointer (some (Addr.mk b_2 0 none))), (Value.int .i64 now)] :: row enc55 55 2 p_1 c_1 h_5 :: row enc55 55 2 p_2 c_2 own :: cel b_2 74 [(Value.slice p_3 marks.length c_3), (Value.int .i64 mean), (Value.int .i64 dev), (Value.bool any)] :: row enc86 86 2 p_3 c_3 marks :: poolP enc5 5 1 m_1 :: poolP enc52 52 1 m_2 :: poolP enc55 55 2 m_3 :: FL) (fun w h => (hF_m_Addrs _ (Mem.pick (Mem.pick (Mem.pick (h.sel [6, 6, 6] 6) [1, 1]) [1, 1]) [1, 1]))) rfl hc_m_Addrs h hp ?_
        rintro rs_2 p_12 n_8 c_11 w rfl h hp
        have cpp_12 := rowCap h 0 rfl
        refine ⟨_, _, _, rfl, ?_⟩
        refine ⟨_, rfl, ?_⟩
        refine storeL (ys := [(Value.slice p_12 rs_2.length c_11)]) h 2 4 rfl rfl rfl sz22 rfl rfl ?_
        intro w h
        dsimp only [setH, setVs, setV] at h
        replace h := h.drew
        refine ⟨_, rfl, ?_⟩
        refine ⟨_, cellL h 2 6 rfl rfl rfl, ?_⟩
        refine ⟨_, rfl, ?_⟩
        refine ⟨_, cellL h 2 7 rfl rfl rfl, ?_⟩
        replace h := h.pick [5, 5]
        dsimp only [pickL, pickR, nthH, delH, dropH, List.cons_append, List.nil_append] at h
        refine rtt_Meter_Got_ok h hp ?_
        rintro r_1 r_2 marks_2 mean_2 dev_2 any_2 p_13 n_9 c_12 w rfl h hp
        have cpp_13 := rowCap h 1 rfl
        refine ⟨_, _, rfl, ?_⟩
        refine ⟨_, rfl, ?_⟩
        refine ⟨_, rfl, ?_⟩
        refine ⟨_, rfl, ?_⟩
        refine ⟨_, cellL h 4 7 rfl rfl rfl, ?_⟩
        refine ⟨by decide, ?_⟩
        refine ⟨_, rfl, ?_⟩
        refine storeL (ys := [(Value.int .i64 2)]) h 4 0 rfl rfl rfl sz3 rfl rfl ?_
        intro w h
        dsimp only [setH, setVs, setV] at h
        refine ⟨_, rfl, ?_⟩
        refine storeL (ys := [(Value.int .i64 (IntKind.wrap .i64 (now + (IntKind.wrap .i64 (Int.tdiv r_1 2)))))]) h 4 3 rfl rfl rfl sz3 rfl rfl ?_
        intro w h
        dsimp only [setH, setVs, setV] at h
        refine newL (o := [(Value.int .u64 x_1)]) h ?_
        intro b_4 w h
        replace h := rowOfCel h 0 encL52 rfl [x_1] rfl
        dsimp only [setH, setVs, setV] at h
        replace h := h.pick [0, 8]
        dsimp only [pickL, pickR, nthH, delH, dropH, List.cons_append, List.nil_append] at h
        let hd_3 : Hd := ((some ⟨b_4, 0, none⟩), [x_1].length, 1)
        replace hp := hp hd_3 rfl
        replace h : Mem (poolP enc52 52 1 (m_2 ++ [(hd_3, [x_1])]) :: cel b_2 74 [(Value.slice p_13 marks_2.length c_12), (Value.int .i64 mean_2), (Value.int .i64 dev_2), (Value.bool any_2)] :: row enc86 86 2 p_13 c_12 marks_2 :: row enc55 55 2 p_12 c_11 rs_2 :: cel b_3 37 [(Value.int .i64 m_Kind), (Value.slice p_4 m_Nums.length c_4), (Value.slice p_5 m_Addrs.length c_5), (Value.slice p_6 m_Body.length c_6)] :: cel b_1 64 [(Value.int .i64 2), (Value.bool h_2), (Value.int .i64 h_3), (Value.int .i64 (IntKind.wrap .i64 (now + (IntKind.wrap .i64 (Int.tdiv r_1 2))))), (Value.slice p_12 rs_2.length c_11), (Value.slice p_2 own.length c_2), (Value.pointer (some (Addr.mk b_2 0 none))), (Value.int .i64 now)] :: row enc55 55 2 p_1 c_1 h_5 :: row enc55 55 2 p_2 c_2 own :: poolP enc5 5 1 m_1 :: poolP enc55 55 2 m_3 :: FL) _ := poolPush h
        refine punch_told_ok (m_Nums := hd_3) (m_Addrs := ((none, 0, 0) : Option Addr × Nat × Nat)) (m_Body := ((none, 0, 0) : Option Addr × Nat × Nat)) h hp ?_
        rintro rs_3 p_14 n_10 c_13 w rfl h hp
        have cpp_14 := rowCap h 0 rfl
        refine ⟨_, _, _, rfl, ?_⟩
        replace h := h.sel [0, 5, 3, 5, 1, 1, 3, 0, 2] 2
        dsimp only [pickL, pickR, nthH, delH, dropH, List.cons_append, List.nil_append] at h
        exact hR rs_3 2 h_3 (IntKind.wrap .i64 (now + (IntKind.wrap .i64 (Int.tdiv r_1 2)))) rs_2 marks_2 mean_2 dev_2 any_2 m_1 (m_2 ++ [(hd_3, [x_1])]) m_3 p_14 rs_3.length c_13 p_12 rs_2.length c_11 p_13 marks_2.length c_12 _ rfl rfl rfl h hp
      clear hq
      refine ⟨_, _, _, cellL h 0 1 rfl rfl rfl, ?_⟩
      obtain ⟨ia_3, ja_3, hp⟩ := hp
      obtain ⟨a_3, ha_3⟩ := rdAddr (hF_m_Nums _ (Mem.pick (Mem.pick (Mem.pick (h.sel [6, 6, 6] 6) [1, 1]) [1, 1]) [1, 1])) rfl ia_3 ja_3
      refine ⟨a_3, ha_3, ia_3, ja_3, ?_⟩
      obtain ⟨x_3, hx_3, hc⟩ := rdCell0 (hF_m_Nums _ (Mem.pick (Mem.pick (Mem.pick (h.sel [6, 6, 6] 6) [1, 1]) [1, 1]) [1, 1])) ha_3 rfl ia_3 ja_3
      replace hp := hp x_3 hx_3
      refine ⟨_, hc _ rfl, ?_⟩
      refine cond_both' hp (fun hp => ?_) (fun hp => ?_)
      · exact ⟨rfl, rfl, rfl, hp, h⟩
      refine ⟨_, rfl, ?_⟩
      refine ⟨_, cellL h 1 1 rfl rfl rfl, ?_⟩
      refine cond_both' hp (fun hp => ?_) (fun hp => ?_)
      · exact ⟨rfl, rfl, rfl, hp, h⟩
      refine ⟨_, rfl, ?_⟩
      refine ⟨_, cellL h 1 0 rfl rfl rfl, ?_⟩
      refine cond_both' hp (fun hp => ?_) (fun hp => ?_)
      · exact ⟨rfl, rfl, rfl, hp, h⟩
      refine ⟨_, rfl, ?_⟩
      refine ⟨_, cellL h 1 2 rfl rfl rfl, ?_⟩
      exact ⟨rfl, rfl, rfl, hp, h⟩
    clear hq
    refine ⟨_, _, _, cellL h 0 1 rfl rfl rfl, ?_⟩
    obtain ⟨ia_2, ja_2, hp⟩ := hp
    obtain ⟨a_2, ha_2⟩ := rdAddr (hF_m_Nums _ (Mem.pick (Mem.pick (Mem.pick (h.sel [6, 6, 6] 6) [1, 1]) [1, 1]) [1, 1])) rfl ia_2 ja_2
    refine ⟨a_2, ha_2, ia_2, ja_2, ?_⟩
    obtain ⟨x_2, hx_2, hc⟩ := rdCell0 (hF_m_Nums _ (Mem.pick (Mem.pick (Mem.pick (h.sel [6, 6, 6] 6) [1, 1]) [1, 1]) [1, 1])) ha_2 rfl ia_2 ja_2
    replace hp := hp x_2 hx_2
    refine ⟨_, hc _ rfl, ?_⟩
    refine cond_both' hp (fun hp => ?_) (fun hp => ?_)
    · exact ⟨rfl, rfl, rfl, hp, h⟩
    refine ⟨_, rfl, ?_⟩
    refine ⟨_, cellL h 1 1 rfl rfl rfl, ?_⟩
    refine cond_both' hp (fun hp => ?_) (fun hp => ?_)
    · exact ⟨rfl, rfl, rfl, hp, h⟩
    refine ⟨_, rfl, ?_⟩
    refine ⟨_, cellL h 1 0 rfl rfl rfl, ?_⟩
    refine cond_both' hp (fun hp => ?_) (fun hp => ?_)
    · exact ⟨rfl, rfl, rfl, hp, h⟩
    refine ⟨_, rfl, ?_⟩
    refine ⟨_, cellL h 1 0 rfl rfl rfl, ?_⟩
    refine cond_both' hp (fun hp => ?_) (fun hp => ?_)
    · exact ⟨rfl, rfl, rfl, hp, h⟩
    refine ⟨_, rfl, ?_⟩
    refine ⟨_, cellL h 1 2 rfl rfl rfl, ?_⟩
    exact ⟨rfl, rfl, rfl, hp, h⟩
  clear hq
  refine cond_both hp (fun hp => ?_) (fun hp => ?_)
  · exact ⟨rfl, rfl, rfl, hp, h⟩
  exact ⟨rfl, rfl, rfl, hp, h⟩

/-! (*embrasure/punch.Puncher).dial (30) -/
def punch_Puncher_dial_wp (h_1 : Int) (h_2 : Bool) (h_3 : Int) (h_4 : Int) (h_5 : List (Int × Int)) (mean : Int) (dev : Int) (any : Bool) (now : Int) (m_1 : List ((Option Addr × Nat × Nat) × List (Int × Int))) (K : List (Int × (Option Addr × Nat × Nat) × Int × (Option Addr × Nat × Nat) × (Option Addr × Nat × Nat) × (Option Addr × Nat × Nat)) → Int → Int → List ((Option Addr × Nat × Nat) × List (Int × Int)) → Prop) : Prop :=
  slices_Clone_sl_api_Addr_api_Addr_wp h_5 (fun (rs : List (Int × Int)) => ∀ (hd : Option Addr × Nat × Nat), hd.2.1 = rs.length → (K [(1, hd, 0, ((none, 0, 0) : Option Addr × Nat × Nat), ((none, 0, 0) : Option Addr × Nat × Nat), ((none, 0, 0) : Option Addr × Nat × Nat))] 3 (IntKind.wrap .i64 (now + 20)) (m_1 ++ [(hd, rs)])))
theorem punch_Puncher_dial_ok {b_1 : Nat} {p_1 : Option Addr} {c_1 : Nat} {p_2 : Option Addr} {n_1 : Nat} {c_2 : Nat} {b_2 : Nat} {p_3 : Option Addr} {n_2 : Nat} {c_3 : Nat} {h_1 : Int} {h_2 : Bool} {h_3 : Int} {h_4 : Int} {h_5 : List (Int × Int)} {mean : Int} {dev : Int} {any : Bool} {now : Int} {m_1 : List ((Option Addr × Nat × Nat) × List (Int × Int))} {FL : List HP} {w : World} {K : List (Int × (Option Addr × Nat × Nat) × Int × (Option Addr × Nat × Nat) × (Option Addr × Nat × Nat) × (Option Addr × Nat × Nat)) → Int → Int → List ((Option Addr × Nat × Nat) × List (Int × Int)) → Prop} {R : Value → World → Prop}
  (h : Mem (cel b_1 64 [(Value.int .i64 h_1), (Value.bool h_2), (Value.int .i64 h_3), (Value.int .i64 h_4), (Value.slice p_1 h_5.length c_1), (Value.slice p_2 n_1 c_2), (Value.pointer (some (Addr.mk b_2 0 none))), (Value.int .i64 now)] :: row enc55 55 2 p_1 c_1 h_5 :: cel b_2 74 [(Value.slice p_3 n_2 c_3), (Value.int .i64 mean), (Value.int .i64 dev), (Value.bool any)] :: poolP enc55 55 2 m_1 :: FL) w) (hp : punch_Puncher_dial_wp h_1 h_2 h_3 h_4 h_5 mean dev any now m_1 K)
  (hR : ∀ (rs : List (Int × (Option Addr × Nat × Nat) × Int × (Option Addr × Nat × Nat) × (Option Addr × Nat × Nat) × (Option Addr × Nat × Nat))) (h_6 : Int) (h_7 : Int) (m_2 : List ((Option Addr × Nat × Nat) × List (Int × Int))) (p_4 : Option Addr) (n_3 : Nat) (c_4 : Nat) (w : World), n_3 = rs.length → Mem (row enc39 39 6 p_4 c_4 rs :: cel b_1 64 [(Value.int .i64 h_6), (Value.bool h_2), (Value.int .i64 h_3), (Value.int .i64 h_7), (Value.slice p_1 h_5.length c_1), (Value.slice p_2 n_1 c_2), (Value.pointer (some (Addr.mk b_2 0 none))), (Value.int .i64 now)] :: row enc55 55 2 p_1 c_1 h_5 :: cel b_2 74 [(Value.slice p_3 n_2 c_3), (Value.int .i64 mean), (Value.int .i64 dev), (Value.bool any)] :: poolP enc55 55 2 m_2 :: FL) w → K rs h_6 h_7 m_2 → R (Value.slice p_4 n_3 c_4) w) :
  CallV Try.prog 30 #[(Value.pointer (some (Addr.mk b_1 0 none)))] w R := by
  refine punch_Puncher_dial_call ?_
  unfold punch_Puncher_dial
  unfold punch_Puncher_dial_wp at hp
  have cpp_1 := rowCap h 1 rfl
  refine ⟨_, rfl, ?_⟩
  refine ⟨_, cellL h 0 7 rfl rfl rfl, ?_⟩
  refine ⟨_, rfl, ?_⟩
  refine storeL (ys := [(Value.int .i64 3)]) h 0 0 rfl rfl rfl sz3 rfl rfl ?_
  intro w h
  dsimp only [setH, setVs, setV] at h
  refine ⟨_, rfl, ?_⟩
  refine storeL (ys := [(Value.int .i64 (IntKind.wrap .i64 (now + 20)))]) h 0 3 rfl rfl rfl sz3 rfl rfl ?_
  intro w h
  dsimp only [setH, setVs, setV] at h
  refine ⟨_, rfl, ?_⟩
  refine ⟨_, _, _, cellL h 0 4 rfl rfl rfl, ?_⟩
  refine slices_Clone_sl_api_Addr_api_Addr_ok (FL := cel b_1 64 [(Value.int .i64 3), (Value.bool h_2), (Value.int .i64 h_3), (Value.int .i64 (IntKind.wrap .i64 (now + 20))), (Value.slice p_1 h_5.length c_1), (Value.slice p_2 n_1 c_2), (Value.pointer (some (Addr.mk b_2 0 none))), (Value.int .i64 now)] :: row enc55 55 2 p_1 c_1 h_5 :: cel b_2 74 [(Value.slice p_3 n_2 c_3), (Value.int .i64 mean), (Value.int .i64 dev), (Value.bool any)] :: poolP enc55 55 2 m_1 :: FL) (fun w h => (rowRd h 1 encL55 rfl)) rfl cpp_1 h hp ?_
  rintro rs p_4 n_3 c_4 w rfl h hp
  have cpp_4 := rowCap h 0 rfl
  refine ⟨_, _, _, rfl, ?_⟩
  replace h := h.pick [0, 3]
  dsimp only [pickL, pickR, nthH, delH, dropH, List.cons_append, List.nil_append] at h
  let hd : Hd := (p_4, rs.length, c_4)
  replace hp := hp hd rfl
  replace h : Mem (poolP enc55 55 2 (m_1 ++ [(hd, rs)]) :: cel b_1 64 [(Value.int .i64 3), (Value.bool h_2), (Value.int .i64 h_3), (Value.int .i64 (IntKind.wrap .i64 (now + 20))), (Value.slice p_1 h_5.length c_1), (Value.slice p_2 n_1 c_2), (Value.pointer (some (Addr.mk b_2 0 none))), (Value.int .i64 now)] :: row enc55 55 2 p_1 c_1 h_5 :: cel b_2 74 [(Value.slice p_3 n_2 c_3), (Value.int .i64 mean), (Value.int .i64 dev), (Value.bool any)] :: FL) _ := poolPush h
  refine newL (o := [(Value.int .i64 1), (Value.slice hd.1 hd.2.1 hd.2.2), (Value.int .i64 0), (Value.slice none 0 0), (Value.slice none 0 0), (Value.slice none 0 0)]) h ?_
  intro b_3 w h
  replace h := rowOfCel h 0 encL39 rfl [(1, hd, 0, ((none, 0, 0) : Option Addr × Nat × Nat), ((none, 0, 0) : Option Addr × Nat × Nat), ((none, 0, 0) : Option Addr × Nat × Nat))] rfl
  dsimp only [setH, setVs, setV] at h
  replace h := h.sel [0, 1, 1, 1, 0] 0
  dsimp only [pickL, pickR, nthH, delH, dropH, List.cons_append, List.nil_append] at h
  exact hR [(1, hd, 0, ((none, 0, 0) : Option Addr × Nat × Nat), ((none, 0, 0) : Option Addr × Nat × Nat), ((none, 0, 0) : Option Addr × Nat × Nat))] 3 (IntKind.wrap .i64 (now + 20)) (m_1 ++ [(hd, rs)]) (some ⟨b_3, 0, none⟩) 1 1 _ rfl h hp

/-! (*embrasure/punch.Puncher).heardSync (27) -/
def punch_Puncher_heardSync_wp (h_1 : Int) (h_2 : Bool) (h_3 : Int) (h_4 : Int) (h_5 : List (Int × Int)) (mean : Int) (dev : Int) (any : Bool) (now : Int) (m_Kind : Int) (m_Nums : List (Int)) (m_Addrs : List (Int × Int)) (m_Body : List (Int)) (m_1 : List ((Option Addr × Nat × Nat) × List (Int × Int))) (K : List (Int × (Option Addr × Nat × Nat) × Int × (Option Addr × Nat × Nat) × (Option Addr × Nat × Nat) × (Option Addr × Nat × Nat)) → Int → Int → List ((Option Addr × Nat × Nat) × List (Int × Int)) → Prop) : Prop :=
  joinP1 (fun (t30 : Bool) => cond t30 (K ([] : List (Int × (Option Addr × Nat × Nat) × Int × (Option Addr × Nat × Nat) × (Option Addr × Nat × Nat) × (Option Addr × Nat × Nat))) h_1 h_4 m_1) (punch_Puncher_dial_wp h_1 h_2 h_3 h_4 h_5 mean dev any now m_1 (fun (rs : List (Int × (Option Addr × Nat × Nat) × Int × (Option Addr × Nat × Nat) × (Option Addr × Nat × Nat) × (Option Addr × Nat × Nat))) (h_8 : Int) (h_9 : Int) (m_3 : List ((Option Addr × Nat × Nat) × List (Int × Int))) => K rs h_8 h_9 m_3))) (fun (Q : Bool → Prop) => cond h_2 (Q true) (cond ((h_1 : Int) != 2) (Q true) (0 ≤ (0 : Int) ∧ (0 : Int) < ((m_Nums.length : Nat) : Int) ∧ (∀ (x_1 : Int), m_Nums[Int.toNat 0]? = some x_1 → (Q ((x_1 : Int) != (IntKind.wrap .u64 h_3)))))))
theorem punch_Puncher_heardSync_ok {b_1 : Nat} {p_1 : Option Addr} {c_1 : Nat} {p_2 : Option Addr} {n_1 : Nat} {c_2 : Nat} {b_2 : Nat} {p_3 : Option Addr} {n_2 : Nat} {c_3 : Nat} {p_4 : Option Addr} {n_3 : Nat} {c_4 : Nat} {p_5 : Option Addr} {n_4 : Nat} {c_5 : Nat} {p_6 : Option Addr} {n_5 : Nat} {c_6 : Nat} {h_1 : Int} {h_2 : Bool} {h_3 : Int} {h_4 : Int} {h_5 : List (Int × Int)} {mean : Int} {dev : Int} {any : Bool} {now : Int} {m_Kind : Int} {m_Nums : List (Int)} {m_Addrs : List (Int × Int)} {m_Body : List (Int)} {m_1 : List ((Option Addr × Nat × Nat) × List (Int × Int))} {FL : List HP} {w : World} {K : List (Int × (Option Addr × Nat × Nat) × Int × (Option Addr × Nat × Nat) × (Option Addr × Nat × Nat) × (Option Addr × Nat × Nat)) → Int → Int → List ((Option Addr × Nat × Nat) × List (Int × Int)) → Prop} {R : Value → World → Prop}
  (hF_m_Nums : ∀ w, Mem (poolP enc55 55 2 m_1 :: FL) w → Rd w 1 p_4 enc52 m_Nums) (hl_m_Nums : n_3 = m_Nums.length) (hc_m_Nums : n_3 ≤ c_4)
  (hF_m_Addrs : ∀ w, Mem (poolP enc55 55 2 m_1 :: FL) w → Rd w 2 p_5 enc55 m_Addrs) (hl_m_Addrs : n_4 = m_Addrs.length) (hc_m_Addrs : n_4 ≤ c_5)
  (hF_m_Body : ∀ w, Mem (poolP enc55 55 2 m_1 :: FL) w → Rd w 1 p_6 enc5 m_Body) (hl_m_Body : n_5 = m_Body.length) (hc_m_Body : n_5 ≤ c_6)
  (h : Mem (cel b_1 64 [(Value.int .i64 h_1), (Value.bool h_2), (Value.int .i64 h_3), (Value.int .i64 h_4), (Value.slice p_1 h_5.length c_1), (Value.slice p_2 n_1 c_2), (Value.pointer (some (Addr.mk b_2 0 none))), (Value.int .i64 now)] :: row enc55 55 2 p_1 c_1 h_5 :: cel b_2 74 [(Value.slice p_3 n_2 c_3), (Value.int .i64 mean), (Value.int .i64 dev), (Value.bool any)] :: poolP enc55 55 2 m_1 :: FL) w) (hp : punch_Puncher_heardSync_wp h_1 h_2 h_3 h_4 h_5 mean dev any now m_Kind m_Nums m_Addrs m_Body m_1 K)
  (hR : ∀ (rs : List (Int × (Option Addr × Nat × Nat) × Int × (Option Addr × Nat × Nat) × (Option Addr × Nat × Nat) × (Option Addr × Nat × Nat))) (h_6 : Int) (h_7 : Int) (m_2 : List ((Option Addr × Nat × Nat) × List (Int × Int))) (p_7 : Option Addr) (n_6 : Nat) (c_7 : Nat) (w : World), n_6 = rs.length → Mem (row enc39 39 6 p_7 c_7 rs :: cel b_1 64 [(Value.int .i64 h_6), (Value.bool h_2), (Value.int .i64 h_3), (Value.int .i64 h_7), (Value.slice p_1 h_5.length c_1), (Value.slice p_2 n_1 c_2), (Value.pointer (some (Addr.mk b_2 0 none))), (Value.int .i64 now)] :: row enc55 55 2 p_1 c_1 h_5 :: cel b_2 74 [(Value.slice p_3 n_2 c_3), (Value.int .i64 mean), (Value.int .i64 dev), (Value.bool any)] :: poolP enc55 55 2 m_2 :: FL) w → K rs h_6 h_7 m_2 → R (Value.slice p_7 n_6 c_7) w) :
  CallV Try.prog 27 #[(Value.pointer (some (Addr.mk b_1 0 none))), (Value.agg #[(Value.int .i64 m_Kind), (Value.slice p_4 n_3 c_4), (Value.slice p_5 n_4 c_5), (Value.slice p_6 n_5 c_6)])] w R := by
  refine punch_Puncher_heardSync_call ?_
  unfold punch_Puncher_heardSync
  unfold punch_Puncher_heardSync_wp at hp
  subst hl_m_Nums
  subst hl_m_Addrs
  subst hl_m_Body
  have cpp_1 := rowCap h 1 rfl
  refine newL (o := [(Value.int .i64 m_Kind), (Value.slice p_4 m_Nums.length c_4), (Value.slice p_5 m_Addrs.length c_5), (Value.slice p_6 m_Body.length c_6)]) h ?_
  intro b_3 w h
  obtain ⟨Q, hq, hp⟩ := hp
  refine ⟨fun p0 t30 w => (some (Addr.mk b_1 0 none)) = p0 ∧ Q t30 ∧ Mem (cel b_3 37 [(Value.int .i64 m_Kind), (Value.slice p_4 m_Nums.length c_4), (Value.slice p_5 m_Addrs.length c_5), (Value.slice p_6 m_Body.length c_6)] :: cel b_1 64 [(Value.int .i64 h_1), (Value.bool h_2), (Value.int .i64 h_3), (Value.int .i64 h_4), (Value.slice p_1 h_5.length c_1), (Value.slice p_2 n_1 c_2), (Value.pointer (some (Addr.mk b_2 0 none))), (Value.int .i64 now)] :: row enc55 55 2 p_1 c_1 h_5 :: cel b_2 74 [(Value.slice p_3 n_2 c_3), (Value.int .i64 mean), (Value.int .i64 dev), (Value.bool any)] :: poolP enc55 55 2 m_1 :: FL) w, ?_, ?_⟩
  · rintro p0 t30 w ⟨rfl, hp, h⟩
    replace hp := hq t30 hp
    unfold punch_Puncher_heardSync_j1
    refine cond_both hp (fun hp => ?_) (fun hp => ?_)
    · replace h := rowNil enc39 39 6 h
      replace h := h.sel [0, 1, 1, 1, 1] 1
      dsimp only [pickL, pickR, nthH, delH, dropH, List.cons_append, List.nil_append] at h
      exact hR ([] : List (Int × (Option Addr × Nat × Nat) × Int × (Option Addr × Nat × Nat) × (Option Addr × Nat × Nat) × (Option Addr × Nat × Nat))) h_1 h_4 m_1 (none ) 0 0 _ rfl h hp
    replace h := h.pick [1, 1, 1, 1]
    dsimp only [pickL, pickR, nthH, delH, dropH, List.cons_append, List.nil_append] at h
    refine punch_Puncher_dial_ok h hp ?_
    rintro rs h_8 h_9 m_3 p_8 n_6 c_7 w rfl h hp
    have cpp_8 := rowCap h 0 rfl
    have cpp_1 := rowCap h 2 rfl
    refine ⟨_, _, _, rfl, ?_⟩
    replace h := h.sel [0, 0, 0, 0, 0] 1
    dsimp only [pickL, pickR, nthH, delH, dropH, List.cons_append, List.nil_append] at h
    exact hR rs h_8 h_9 m_3 p_8 rs.length c_7 _ rfl h hp
  clear hq
  replace h := h.drew
  refine ⟨_, rfl, ?_⟩
  refine ⟨_, cellL h 1 1 rfl rfl rfl, ?_⟩
  refine cond_both hp (fun hp => ?_) (fun hp => ?_)
  · exact ⟨rfl, hp, h⟩
  refine ⟨_, rfl, ?_⟩
  refine ⟨_, cellL h 1 0 rfl rfl rfl, ?_⟩
  refine cond_both hp (fun hp => ?_) (fun hp => ?_)
  · exact ⟨rfl, hp, h⟩
  refine ⟨_, _, _, cellL h 0 1 rfl rfl rfl, ?_⟩
  obtain ⟨ia_1, ja_1, hp⟩ := hp
  obtain ⟨a_1, ha_1⟩ := rdAddr (hF_m_Nums _ (h.sel [4] 4)) rfl ia_1 ja_1
  refine ⟨a_1, ha_1, ia_1, ja_1, ?_⟩
  obtain ⟨x_1, hx_1, hc⟩ := rdCell0 (hF_m_Nums _ (h.sel [4] 4)) ha_1 rfl ia_1 ja_1
  replace hp := hp x_1 hx_1
  refine ⟨_, hc _ rfl, ?_⟩
  refine ⟨_, rfl, ?_⟩
  refine ⟨_, cellL h 1 2 rfl rfl rfl, ?_⟩
  exact ⟨rfl, hp, h⟩

/-! embrasure/wire.nums (47) -/
def wire_nums_wp  (K : Int → Int → Int → Int → Int → Int → Int → Int → Int → Int → Int → Int → Int → Int → Int → Int → Int → Int → Int → Prop) : Prop :=
  K (-1) 4 5 5 6 1 1 3 1 2 2 2 4 2 4 2 1 2 1
theorem wire_nums_ok  {FL : List HP} {w : World} {K : Int → Int → Int → Int → Int → Int → Int → Int → Int → Int → Int → Int → Int → Int → Int → Int → Int → Int → Int → Prop} {R : Value → World → Prop}
  (h : Mem (FL) w) (hp : wire_nums_wp  K)
  (hR : ∀ (r : Int) (r_1 : Int) (r_2 : Int) (r_3 : Int) (r_4 : Int) (r_5 : Int) (r_6 : Int) (r_7 : Int) (r_8 : Int) (r_9 : Int) (r_10 : Int) (r_11 : Int) (r_12 : Int) (r_13 : Int) (r_14 : Int) (r_15 : Int) (r_16 : Int) (r_17 : Int) (r_18 : Int) (w : World), Mem (FL) w → K r r_1 r_2 r_3 r_4 r_5 r_6 r_7 r_8 r_9 r_10 r_11 r_12 r_13 r_14 r_15 r_16 r_17 r_18 → R (Value.agg #[(Value.int .i64 r), (Value.int .i64 r_1), (Value.int .i64 r_2), (Value.int .i64 r_3), (Value.int .i64 r_4), (Value.int .i64 r_5), (Value.int .i64 r_6), (Value.int .i64 r_7), (Value.int .i64 r_8), (Value.int .i64 r_9), (Value.int .i64 r_10), (Value.int .i64 r_11), (Value.int .i64 r_12), (Value.int .i64 r_13), (Value.int .i64 r_14), (Value.int .i64 r_15), (Value.int .i64 r_16), (Value.int .i64 r_17), (Value.int .i64 r_18)]) w) :
  CallV Try.prog 47 #[] w R := by
  refine wire_nums_call ?_
  unfold wire_nums
  unfold wire_nums_wp at hp
  refine newL (o := [(Value.int .i64 0), (Value.int .i64 0), (Value.int .i64 0), (Value.int .i64 0), (Value.int .i64 0), (Value.int .i64 0), (Value.int .i64 0), (Value.int .i64 0), (Value.int .i64 0), (Value.int .i64 0), (Value.int .i64 0), (Value.int .i64 0), (Value.int .i64 0), (Value.int .i64 0), (Value.int .i64 0), (Value.int .i64 0), (Value.int .i64 0), (Value.int .i64 0), (Value.int .i64 0)]) h ?_
  intro b_1 w h
  refine storeL (ys := [(Value.int .i64 (-1)), (Value.int .i64 4), (Value.int .i64 5), (Value.int .i64 5), (Value.int .i64 6), (Value.int .i64 1), (Value.int .i64 1), (Value.int .i64 3), (Value.int .i64 1), (Value.int .i64 2), (Value.int .i64 2), (Value.int .i64 2), (Value.int .i64 4), (Value.int .i64 2), (Value.int .i64 4), (Value.int .i64 2), (Value.int .i64 1), (Value.int .i64 2), (Value.int .i64 1)]) h 0 0 rfl rfl rfl sz87 rfl rfl ?_
  intro w h
  dsimp only [setH, setVs, setV] at h
  refine ⟨_, cellL h 0 0 rfl rfl rfl, _, cellL h 0 1 rfl rfl rfl, _, cellL h 0 2 rfl rfl rfl, _, cellL h 0 3 rfl rfl rfl, _, cellL h 0 4 rfl rfl rfl, _, cellL h 0 5 rfl rfl rfl, _, cellL h 0 6 rfl rfl rfl, _, cellL h 0 7 rfl rfl rfl, _, cellL h 0 8 rfl rfl rfl, _, cellL h 0 9 rfl rfl rfl, _, cellL h 0 10 rfl rfl rfl, _, cellL h 0 11 rfl rfl rfl, _, cellL h 0 12 rfl rfl rfl, _, cellL h 0 13 rfl rfl rfl, _, cellL h 0 14 rfl rfl rfl, _, cellL h 0 15 rfl rfl rfl, _, cellL h 0 16 rfl rfl rfl, _, cellL h 0 17 rfl rfl rfl, _, cellL h 0 18 rfl rfl rfl, ?_⟩
  replace h := h.sel [] 1
  dsimp only [pickL, pickR, nthH, delH, dropH, List.cons_append, List.nil_append] at h
  exact hR (-1) 4 5 5 6 1 1 3 1 2 2 2 4 2 4 2 1 2 1 _ h hp

/-! embrasure/wire.Nums (38) -/
def wire_Nums_wp (kind : Int) (K : Int → Prop) : Prop :=
  wire_nums_wp (fun (r : Int) (r_1 : Int) (r_2 : Int) (r_3 : Int) (r_4 : Int) (r_5 : Int) (r_6 : Int) (r_7 : Int) (r_8 : Int) (r_9 : Int) (r_10 : Int) (r_11 : Int) (r_12 : Int) (r_13 : Int) (r_14 : Int) (r_15 : Int) (r_16 : Int) (r_17 : Int) (r_18 : Int) => joinP1 (fun (t10 : Bool) => cond t10 (K (-1)) (0 ≤ (kind : Int) ∧ (kind : Int) < ((19 : Nat) : Int) ∧ (((kind : Int) = 0 → (K r)) ∧ ((kind : Int) = 1 → (K r_1)) ∧ ((kind : Int) = 2 → (K r_2)) ∧ ((kind : Int) = 3 → (K r_3)) ∧ ((kind : Int) = 4 → (K r_4)) ∧ ((kind : Int) = 5 → (K r_5)) ∧ ((kind : Int) = 6 → (K r_6)) ∧ ((kind : Int) = 7 → (K r_7)) ∧ ((kind : Int) = 8 → (K r_8)) ∧ ((kind : Int) = 9 → (K r_9)) ∧ ((kind : Int) = 10 → (K r_10)) ∧ ((kind : Int) = 11 → (K r_11)) ∧ ((kind : Int) = 12 → (K r_12)) ∧ ((kind : Int) = 13 → (K r_13)) ∧ ((kind : Int) = 14 → (K r_14)) ∧ ((kind : Int) = 15 → (K r_15)) ∧ ((kind : Int) = 16 → (K r_16)) ∧ ((kind : Int) = 17 → (K r_17)) ∧ ((kind : Int) = 18 → (K r_18))))) (fun (Q : Bool → Prop) => cond (decide ((kind : Int) < 1)) (Q true) (Q (decide ((kind : Int) ≥ 19)))))
theorem wire_Nums_ok {kind : Int} {FL : List HP} {w : World} {K : Int → Prop} {R : Value → World → Prop}
  (h : Mem (FL) w) (hp : wire_Nums_wp kind K)
  (hR : ∀ (r : Int) (w : World), Mem (FL) w → K r → R (Value.int .i64 r) w) :
  CallV Try.prog 38 #[(Value.int .i64 kind)] w R := by
  refine wire_Nums_call ?_
  unfold wire_Nums
  unfold wire_Nums_wp at hp
  refine wire_nums_ok h hp ?_
  intro r r_1 r_2 r_3 r_4 r_5 r_6 r_7 r_8 r_9 r_10 r_11 r_12 r_13 r_14 r_15 r_16 r_17 r_18 w h hp
  refine ⟨_, _, _, _, _, _, _, _, _, _, _, _, _, _, _, _, _, _, _, rfl, ?_⟩
  refine newL (o := [(Value.int .i64 0), (Value.int .i64 0), (Value.int .i64 0), (Value.int .i64 0), (Value.int .i64 0), (Value.int .i64 0), (Value.int .i64 0), (Value.int .i64 0), (Value.int .i64 0), (Value.int .i64 0), (Value.int .i64 0), (Value.int .i64 0), (Value.int .i64 0), (Value.int .i64 0), (Value.int .i64 0), (Value.int .i64 0), (Value.int .i64 0), (Value.int .i64 0), (Value.int .i64 0)]) h ?_
  intro b_1 w h
  refine storeL (ys := [(Value.int .i64 r), (Value.int .i64 r_1), (Value.int .i64 r_2), (Value.int .i64 r_3), (Value.int .i64 r_4), (Value.int .i64 r_5), (Value.int .i64 r_6), (Value.int .i64 r_7), (Value.int .i64 r_8), (Value.int .i64 r_9), (Value.int .i64 r_10), (Value.int .i64 r_11), (Value.int .i64 r_12), (Value.int .i64 r_13), (Value.int .i64 r_14), (Value.int .i64 r_15), (Value.int .i64 r_16), (Value.int .i64 r_17), (Value.int .i64 r_18)]) h 0 0 rfl rfl rfl sz87 rfl rfl ?_
  intro w h
  dsimp only [setH, setVs, setV] at h
  obtain ⟨Q, hq, hp⟩ := hp
  refine ⟨fun kind0 all3 t10 w => kind = kind0 ∧ (Addr.mk b_1 0 none) = all3 ∧ Q t10 ∧ Mem (cel b_1 87 [(Value.int .i64 r), (Value.int .i64 r_1), (Value.int .i64 r_2), (Value.int .i64 r_3), (Value.int .i64 r_4), (Value.int .i64 r_5), (Value.int .i64 r_6), (Value.int .i64 r_7), (Value.int .i64 r_8), (Value.int .i64 r_9), (Value.int .i64 r_10), (Value.int .i64 r_11), (Value.int .i64 r_12), (Value.int .i64 r_13), (Value.int .i64 r_14), (Value.int .i64 r_15), (Value.int .i64 r_16), (Value.int .i64 r_17), (Value.int .i64 r_18)] :: FL) w, ?_, ?_⟩
  · rintro kind0 all3 t10 w ⟨rfl, rfl, hp, h⟩
    replace hp := hq t10 hp
    unfold wire_Nums_j1
    refine cond_both hp (fun hp => ?_) (fun hp => ?_)
    · replace h := h.sel [] 1
      dsimp only [pickL, pickR, nthH, delH, dropH, List.cons_append, List.nil_append] at h
      exact hR (-1) _ h hp
    refine ⟨hp.1, hp.2.1, ?_⟩
    obtain ⟨hi0, hi1, hp⟩ := hp
    rcases (by omega : (kind : Int) = 0 ∨ (kind : Int) = 1 ∨ (kind : Int) = 2 ∨ (kind : Int) = 3 ∨ (kind : Int) = 4 ∨ (kind : Int) = 5 ∨ (kind : Int) = 6 ∨ (kind : Int) = 7 ∨ (kind : Int) = 8 ∨ (kind : Int) = 9 ∨ (kind : Int) = 10 ∨ (kind : Int) = 11 ∨ (kind : Int) = 12 ∨ (kind : Int) = 13 ∨ (kind : Int) = 14 ∨ (kind : Int) = 15 ∨ (kind : Int) = 16 ∨ (kind : Int) = 17 ∨ (kind : Int) = 18) with e_1 | e_1 | e_1 | e_1 | e_1 | e_1 | e_1 | e_1 | e_1 | e_1 | e_1 | e_1 | e_1 | e_1 | e_1 | e_1 | e_1 | e_1 | e_1
    · replace hp := hp.1 e_1
      try rw [show Int.toNat kind * 1 = 0 by rw [e_1]; rfl]
      refine ⟨_, cellL h 0 0 rfl rfl rfl, ?_⟩
      replace h := h.sel [] 1
      dsimp only [pickL, pickR, nthH, delH, dropH, List.cons_append, List.nil_append] at h
      exact hR r _ h hp
    · replace hp := hp.2.1 e_1
      try rw [show Int.toNat kind * 1 = 1 by rw [e_1]; rfl]
      refine ⟨_, cellL h 0 1 rfl rfl rfl, ?_⟩
      replace h := h.sel [] 1
      dsimp only [pickL, pickR, nthH, delH, dropH, List.cons_append, List.nil_append] at h
      exact hR r_1 _ h hp
    · replace hp := hp.2.2.1 e_1
      try rw [show Int.toNat kind * 1 = 2 by rw [e_1]; rfl]
      refine ⟨_, cellL h 0 2 rfl rfl rfl, ?_⟩
      replace h := h.sel [] 1
      dsimp only [pickL, pickR, nthH, delH, dropH, List.cons_append, List.nil_append] at h
      exact hR r_2 _ h hp
    · replace hp := hp.2.2.2.1 e_1
      try rw [show Int.toNat kind * 1 = 3 by rw [e_1]; rfl]
      refine ⟨_, cellL h 0 3 rfl rfl rfl, ?_⟩
      replace h := h.sel [] 1
      dsimp only [pickL, pickR, nthH, delH, dropH, List.cons_append, List.nil_append] at h
      exact hR r_3 _ h hp
    · replace hp := hp.2.2.2.2.1 e_1
      try rw [show Int.toNat kind * 1 = 4 by rw [e_1]; rfl]
      refine ⟨_, cellL h 0 4 rfl rfl rfl, ?_⟩
      replace h := h.sel [] 1
      dsimp only [pickL, pickR, nthH, delH, dropH, List.cons_append, List.nil_append] at h
      exact hR r_4 _ h hp
    · replace hp := hp.2.2.2.2.2.1 e_1
      try rw [show Int.toNat kind * 1 = 5 by rw [e_1]; rfl]
      refine ⟨_, cellL h 0 5 rfl rfl rfl, ?_⟩
      replace h := h.sel [] 1
      dsimp only [pickL, pickR, nthH, delH, dropH, List.cons_append, List.nil_append] at h
      exact hR r_5 _ h hp
    · replace hp := hp.2.2.2.2.2.2.1 e_1
      try rw [show Int.toNat kind * 1 = 6 by rw [e_1]; rfl]
      refine ⟨_, cellL h 0 6 rfl rfl rfl, ?_⟩
      replace h := h.sel [] 1
      dsimp only [pickL, pickR, nthH, delH, dropH, List.cons_append, List.nil_append] at h
      exact hR r_6 _ h hp
    · replace hp := hp.2.2.2.2.2.2.2.1 e_1
      try rw [show Int.toNat kind * 1 = 7 by rw [e_1]; rfl]
      refine ⟨_, cellL h 0 7 rfl rfl rfl, ?_⟩
      replace h := h.sel [] 1
      dsimp only [pickL, pickR, nthH, delH, dropH, List.cons_append, List.nil_append] at h
      exact hR r_7 _ h hp
    · replace hp := hp.2.2.2.2.2.2.2.2.1 e_1
      try rw [show Int.toNat kind * 1 = 8 by rw [e_1]; rfl]
      refine ⟨_, cellL h 0 8 rfl rfl rfl, ?_⟩
      replace h := h.sel [] 1
      dsimp only [pickL, pickR, nthH, delH, dropH, List.cons_append, List.nil_append] at h
      exact hR r_8 _ h hp
    · replace hp := hp.2.2.2.2.2.2.2.2.2.1 e_1
      try rw [show Int.toNat kind * 1 = 9 by rw [e_1]; rfl]
      refine ⟨_, cellL h 0 9 rfl rfl rfl, ?_⟩
      replace h := h.sel [] 1
      dsimp only [pickL, pickR, nthH, delH, dropH, List.cons_append, List.nil_append] at h
      exact hR r_9 _ h hp
    · replace hp := hp.2.2.2.2.2.2.2.2.2.2.1 e_1
      try rw [show Int.toNat kind * 1 = 10 by rw [e_1]; rfl]
      refine ⟨_, cellL h 0 10 rfl rfl rfl, ?_⟩
      replace h := h.sel [] 1
      dsimp only [pickL, pickR, nthH, delH, dropH, List.cons_append, List.nil_append] at h
      exact hR r_10 _ h hp
    · replace hp := hp.2.2.2.2.2.2.2.2.2.2.2.1 e_1
      try rw [show Int.toNat kind * 1 = 11 by rw [e_1]; rfl]
      refine ⟨_, cellL h 0 11 rfl rfl rfl, ?_⟩
      replace h := h.sel [] 1
      dsimp only [pickL, pickR, nthH, delH, dropH, List.cons_append, List.nil_append] at h
      exact hR r_11 _ h hp
    · replace hp := hp.2.2.2.2.2.2.2.2.2.2.2.2.1 e_1
      try rw [show Int.toNat kind * 1 = 12 by rw [e_1]; rfl]
      refine ⟨_, cellL h 0 12 rfl rfl rfl, ?_⟩
      replace h := h.sel [] 1
      dsimp only [pickL, pickR, nthH, delH, dropH, List.cons_append, List.nil_append] at h
      exact hR r_12 _ h hp
    · replace hp := hp.2.2.2.2.2.2.2.2.2.2.2.2.2.1 e_1
      try rw [show Int.toNat kind * 1 = 13 by rw [e_1]; rfl]
      refine ⟨_, cellL h 0 13 rfl rfl rfl, ?_⟩
      replace h := h.sel [] 1
      dsimp only [pickL, pickR, nthH, delH, dropH, List.cons_append, List.nil_append] at h
      exact hR r_13 _ h hp
    · replace hp := hp.2.2.2.2.2.2.2.2.2.2.2.2.2.2.1 e_1
      try rw [show Int.toNat kind * 1 = 14 by rw [e_1]; rfl]
      refine ⟨_, cellL h 0 14 rfl rfl rfl, ?_⟩
      replace h := h.sel [] 1
      dsimp only [pickL, pickR, nthH, delH, dropH, List.cons_append, List.nil_append] at h
      exact hR r_14 _ h hp
    · replace hp := hp.2.2.2.2.2.2.2.2.2.2.2.2.2.2.2.1 e_1
      try rw [show Int.toNat kind * 1 = 15 by rw [e_1]; rfl]
      refine ⟨_, cellL h 0 15 rfl rfl rfl, ?_⟩
      replace h := h.sel [] 1
      dsimp only [pickL, pickR, nthH, delH, dropH, List.cons_append, List.nil_append] at h
      exact hR r_15 _ h hp
    · replace hp := hp.2.2.2.2.2.2.2.2.2.2.2.2.2.2.2.2.1 e_1
      try rw [show Int.toNat kind * 1 = 16 by rw [e_1]; rfl]
      refine ⟨_, cellL h 0 16 rfl rfl rfl, ?_⟩
      replace h := h.sel [] 1
      dsimp only [pickL, pickR, nthH, delH, dropH, List.cons_append, List.nil_append] at h
      exact hR r_16 _ h hp
    · replace hp := hp.2.2.2.2.2.2.2.2.2.2.2.2.2.2.2.2.2.1 e_1
      try rw [show Int.toNat kind * 1 = 17 by rw [e_1]; rfl]
      refine ⟨_, cellL h 0 17 rfl rfl rfl, ?_⟩
      replace h := h.sel [] 1
      dsimp only [pickL, pickR, nthH, delH, dropH, List.cons_append, List.nil_append] at h
      exact hR r_17 _ h hp
    · replace hp := hp.2.2.2.2.2.2.2.2.2.2.2.2.2.2.2.2.2.2 e_1
      try rw [show Int.toNat kind * 1 = 18 by rw [e_1]; rfl]
      refine ⟨_, cellL h 0 18 rfl rfl rfl, ?_⟩
      replace h := h.sel [] 1
      dsimp only [pickL, pickR, nthH, delH, dropH, List.cons_append, List.nil_append] at h
      exact hR r_18 _ h hp
  clear hq
  refine cond_both hp (fun hp => ?_) (fun hp => ?_)
  · exact ⟨rfl, rfl, hp, h⟩
  exact ⟨rfl, rfl, hp, h⟩

/-! slices.IndexFunc[[]uint64,uint64] (48) -/
def slices_IndexFunc_sl_uint64_uint64_wp {σ1 : Type} (s : List (Int)) (s_1 : σ1) (Y1 : (Int) → σ1 → (Bool → σ1 → Prop) → Prop) (K : Int → σ1 → Prop) : Prop :=
  ∃ (I : Nat → Int → σ1 → Prop), (∃ (n_4 : Nat), I n_4 0 s_1) ∧ ∀ (n_2 : Nat) (t8 : Int) (s_3 : σ1), I n_2 t8 s_3 → (cond (decide ((t8 : Int) < ((s.length : Nat) : Int))) (0 ≤ (t8 : Int) ∧ (t8 : Int) < ((s.length : Nat) : Int) ∧ (∀ (x_1 : Int), s[Int.toNat t8]? = some x_1 → (Y1 x_1 s_3 (fun (t16 : Bool) (s_4 : σ1) => cond t16 (K t8 s_4) (∃ (n_3 : Nat), n_3 < n_2 ∧ I n_3 (IntKind.wrap .i64 (t8 + 1)) s_4))))) (K (-1) s_3))
theorem slices_IndexFunc_sl_uint64_uint64_ok {σ1 : Type} {A1 : σ1 → HP} {p_1 : Option Addr} {n_1 : Nat} {c_1 : Nat} {ff1 : Fn} {fa1 : Array Value} {fc1 : Array Value} {s : List (Int)} {s_1 : σ1} {Y1 : (Int) → σ1 → (Bool → σ1 → Prop) → Prop} {FL : List HP} {w : World} {K : Int → σ1 → Prop} {R : Value → World → Prop}
  (hY1 : ∀ (x0 : Int) (s : σ1) (K : Bool → σ1 → Prop) (FL2 : List HP) (w : World) (R : Value → World → Prop), (∀ w, Mem FL2 w → Mem FL w) → Mem (A1 s :: FL2) w → Y1 x0 s K → (∀ (r : Bool) (s : σ1) (w : World), Mem (A1 s :: FL2) w → K r s → R (Value.bool r) w) → CalleeV Try.prog (Value.func ff1 fa1 fc1) #[(Value.int .u64 x0)] w R)
  (hF_s : ∀ w, Mem FL w → Rd w 1 p_1 enc52 s) (hl_s : n_1 = s.length) (hc_s : n_1 ≤ c_1)
  (h : Mem (A1 s_1 :: FL) w) (hp : slices_IndexFunc_sl_uint64_uint64_wp s s_1 Y1 K)
  (hR : ∀ (r : Int) (s_2 : σ1) (w : World), Mem (A1 s_2 :: FL) w → K r s_2 → R (Value.int .i64 r) w) :
  CallV Try.prog 48 #[(Value.slice p_1 n_1 c_1), (Value.func ff1 fa1 fc1)] w R := by
  refine slices_IndexFunc_sl_uint64_uint64_call ?_
  unfold slices_IndexFunc_sl_uint64_uint64
  unfold slices_IndexFunc_sl_uint64_uint64_wp at hp
  subst hl_s
  obtain ⟨I, ⟨n_4, h0⟩, hq⟩ := hp
  refine ⟨fun n_2 s0p s0l s0c f1 t7 t8 w => ∃ (s_3 : σ1), p_1 = s0p ∧ s.length = s0l ∧ c_1 = s0c ∧ (Value.func ff1 fa1 fc1) = f1 ∧ ((s.length : Nat) : Int) = t7 ∧ I n_2 t8 s_3 ∧ Mem (A1 s_3 :: FL) w, ⟨n_4, s_1, rfl, rfl, rfl, rfl, rfl, h0, h⟩, ?_⟩
  clear h0 h
  rintro n_2 s0p s0l s0c f1 t7 t8 w ⟨s_3, rfl, rfl, rfl, rfl, rfl, hp, h⟩
  replace hp := hq n_2 t8 s_3 hp
  clear hq
  unfold slices_IndexFunc_sl_uint64_uint64_l1
  refine cond_both' hp (fun hp => ?_) (fun hp => ?_)
  · exact hR (-1) s_3 _ h hp
  obtain ⟨ia_1, ja_1, hp⟩ := hp
  obtain ⟨a_1, ha_1⟩ := rdAddr (hF_s _ (h.drop 1)) rfl ia_1 ja_1
  refine ⟨a_1, ha_1, ia_1, ja_1, ?_⟩
  obtain ⟨x_1, hx_1, hc⟩ := rdCell0 (hF_s _ (h.drop 1)) ha_1 rfl ia_1 ja_1
  replace hp := hp x_1 hx_1
  refine ⟨_, hc _ rfl, ?_⟩
  refine hY1 x_1 _ _ (FL) _ _ (fun _ h => Mem.drop 0 h) h hp ?_
  intro t16 s_4 w h hp
  refine ⟨_, rfl, ?_⟩
  refine cond_both hp (fun hp => ?_) (fun hp => ?_)
  · exact hR t8 s_4 _ h hp
  obtain ⟨n_3, hn, hp⟩ := hp
  exact ⟨n_3, hn, s_4, rfl, rfl, rfl, rfl, rfl, hp, h⟩

/-! slices.ContainsFunc[[]uint64,uint64] (39) -/
def slices_ContainsFunc_sl_uint64_uint64_wp {σ1 : Type} (s : List (Int)) (s_1 : σ1) (Y1 : (Int) → σ1 → (Bool → σ1 → Prop) → Prop) (K : Bool → σ1 → Prop) : Prop :=
  slices_IndexFunc_sl_uint64_uint64_wp s s_1 Y1 (fun (r : Int) (s_3 : σ1) => K (decide ((r : Int) ≥ 0)) s_3)
theorem slices_ContainsFunc_sl_uint64_uint64_ok {σ1 : Type} {A1 : σ1 → HP} {p_1 : Option Addr} {n_1 : Nat} {c_1 : Nat} {ff1 : Fn} {fa1 : Array Value} {fc1 : Array Value} {s : List (Int)} {s_1 : σ1} {Y1 : (Int) → σ1 → (Bool → σ1 → Prop) → Prop} {FL : List HP} {w : World} {K : Bool → σ1 → Prop} {R : Value → World → Prop}
  (hY1 : ∀ (x0 : Int) (s : σ1) (K : Bool → σ1 → Prop) (FL2 : List HP) (w : World) (R : Value → World → Prop), (∀ w, Mem FL2 w → Mem FL w) → Mem (A1 s :: FL2) w → Y1 x0 s K → (∀ (r : Bool) (s : σ1) (w : World), Mem (A1 s :: FL2) w → K r s → R (Value.bool r) w) → CalleeV Try.prog (Value.func ff1 fa1 fc1) #[(Value.int .u64 x0)] w R)
  (hF_s : ∀ w, Mem FL w → Rd w 1 p_1 enc52 s) (hl_s : n_1 = s.length) (hc_s : n_1 ≤ c_1)
  (h : Mem (A1 s_1 :: FL) w) (hp : slices_ContainsFunc_sl_uint64_uint64_wp s s_1 Y1 K)
  (hR : ∀ (r : Bool) (s_2 : σ1) (w : World), Mem (A1 s_2 :: FL) w → K r s_2 → R (Value.bool r) w) :
  CallV Try.prog 39 #[(Value.slice p_1 n_1 c_1), (Value.func ff1 fa1 fc1)] w R := by
  refine slices_ContainsFunc_sl_uint64_uint64_call ?_
  unfold slices_ContainsFunc_sl_uint64_uint64
  unfold slices_ContainsFunc_sl_uint64_uint64_wp at hp
  subst hl_s
  refine slices_IndexFunc_sl_uint64_uint64_ok (FL := FL) (A1 := A1) (Y1 := Y1) (σ1 := σ1) (s_1 := s_1) (fun _ _ _ FL2 w R hx => hY1 _ _ _ FL2 w R (fun w h => (Mem.drop 0 (hx w h)))) (fun w h => (hF_s _ (h.drop 0))) rfl hc_s h hp ?_
  intro r s_3 w h hp
  refine ⟨_, rfl, ?_⟩
  exact hR (decide ((r : Int) ≥ 0)) s_3 _ h hp

/-! math/bits.Len64 (49) -/
def math_bits_Len64_wp (x_1 : Int) (K : Int → Prop) : Prop :=
  joinP2 (fun (x0 : Int) (n2 : Int) => joinP2 (fun (x0_1 : Int) (n2_1 : Int) => joinP2 (fun (x0_2 : Int) (n2_2 : Int) => ∃ (b_1 : UInt8), 0 ≤ ((IntKind.wrap .u8 x0_2) : Int) ∧ (ByteArray.mk ((List.append (List.append [0, 1, 2, 2, 3, 3, 3, 3, 4, 4, 4, 4, 4, 4, 4, 4, 5, 5, 5, 5, 5, 5, 5, 5, 5, 5, 5, 5, 5, 5, 5, 5, 6, 6, 6, 6, 6, 6, 6, 6, 6, 6, 6, 6, 6, 6, 6, 6, 6, 6, 6, 6, 6, 6, 6, 6, 6, 6, 6, 6, 6, 6, 6, 6] [7, 7, 7, 7, 7, 7, 7, 7, 7, 7, 7, 7, 7, 7, 7, 7, 7, 7, 7, 7, 7, 7, 7, 7, 7, 7, 7, 7, 7, 7, 7, 7, 7, 7, 7, 7, 7, 7, 7, 7, 7, 7, 7, 7, 7, 7, 7, 7, 7, 7, 7, 7, 7, 7, 7, 7, 7, 7, 7, 7, 7, 7, 7, 7]) (List.append [8, 8, 8, 8, 8, 8, 8, 8, 8, 8, 8, 8, 8, 8, 8, 8, 8, 8, 8, 8, 8, 8, 8, 8, 8, 8, 8, 8, 8, 8, 8, 8, 8, 8, 8, 8, 8, 8, 8, 8, 8, 8, 8, 8, 8, 8, 8, 8, 8, 8, 8, 8, 8, 8, 8, 8, 8, 8, 8, 8, 8, 8, 8, 8] [8, 8, 8, 8, 8, 8, 8, 8, 8, 8, 8, 8, 8, 8, 8, 8, 8, 8, 8, 8, 8, 8, 8, 8, 8, 8, 8, 8, 8, 8, 8, 8, 8, 8, 8, 8, 8, 8, 8, 8, 8, 8, 8, 8, 8, 8, 8, 8, 8, 8, 8, 8, 8, 8, 8, 8, 8, 8, 8, 8, 8, 8, 8, 8]))).toArray)[Int.toNat (IntKind.wrap .u8 x0_2)]? = some b_1 ∧ (K (IntKind.wrap .i64 (n2_2 + (IntKind.wrap .i64 ((b_1.toNat : Nat) : Int)))))) (fun (Q_2 : Int → Int → Prop) => cond (decide ((x0_1 : Int) ≥ 256)) (Q_2 (Int.fdiv x0_1 (2 ^ (min (Int.toNat 8) (IntKind.bits .u64)))) (IntKind.wrap .i64 (n2_1 + 8))) (Q_2 x0_1 n2_1))) (fun (Q_1 : Int → Int → Prop) => cond (decide ((x0 : Int) ≥ 65536)) (Q_1 (Int.fdiv x0 (2 ^ (min (Int.toNat 16) (IntKind.bits .u64)))) (IntKind.wrap .i64 (n2 + 16))) (Q_1 x0 n2))) (fun (Q : Int → Int → Prop) => cond (decide ((x_1 : Int) ≥ 4294967296)) (Q (Int.fdiv x_1 (2 ^ (min (Int.toNat 32) (IntKind.bits .u64)))) 32) (Q x_1 0))
theorem math_bits_Len64_ok {x_1 : Int} {FL : List HP} {w : World} {K : Int → Prop} {R : Value → World → Prop}
  (h : Mem (FL) w) (hp : math_bits_Len64_wp x_1 K)
  (hR : ∀ (r : Int) (w : World), Mem (FL) w → K r → R (Value.int .i64 r) w) :
  CallV Try.prog 49 #[(Value.int .u64 x_1)] w R := by
  refine math_bits_Len64_call ?_
  unfold math_bits_Len64
  unfold math_bits_Len64_wp at hp
  obtain ⟨Q, hq, hp⟩ := hp
  refine ⟨fun x0 n2 w => Q x0 n2 ∧ Mem (FL) w, ?_, ?_⟩
  · rintro x0 n2 w ⟨hp, h⟩
    replace hp := hq x0 n2 hp
    unfold math_bits_Len64_j1
    obtain ⟨Q_1, hq, hp⟩ := hp
    refine ⟨fun x0_1 n2_1 w => Q_1 x0_1 n2_1 ∧ Mem (FL) w, ?_, ?_⟩
    · rintro x0_1 n2_1 w ⟨hp, h⟩
      replace hp := hq x0_1 n2_1 hp
      unfold math_bits_Len64_j2
      obtain ⟨Q_2, hq, hp⟩ := hp
      refine ⟨fun x0_2 n2_2 w => Q_2 x0_2 n2_2 ∧ Mem (FL) w, ?_, ?_⟩
      · rintro x0_2 n2_2 w ⟨hp, h⟩
        replace hp := hq x0_2 n2_2 hp
        unfold math_bits_Len64_j3
        obtain ⟨b_1, hb_10, hb_11, hp⟩ := hp
        refine ⟨b_1, hb_10, hb_11, ?_⟩
        exact hR (IntKind.wrap .i64 (n2_2 + (IntKind.wrap .i64 ((b_1.toNat : Nat) : Int)))) _ h hp
      clear hq
      refine cond_both' hp (fun hp => ?_) (fun hp => ?_)
      · exact ⟨hp, h⟩
      refine ⟨by decide, ?_⟩
      exact ⟨hp, h⟩
    clear hq
    refine cond_both' hp (fun hp => ?_) (fun hp => ?_)
    · exact ⟨hp, h⟩
    refine ⟨by decide, ?_⟩
    exact ⟨hp, h⟩
  clear hq
  refine cond_both' hp (fun hp => ?_) (fun hp => ?_)
  · exact ⟨hp, h⟩
  refine ⟨by decide, ?_⟩
  exact ⟨hp, h⟩

/-! embrasure/uvar.Len (41) -/
def uvar_Len_wp (v : Int) (K : Int → Prop) : Prop :=
  cond (((Int.fdiv v (2 ^ (min (Int.toNat 63) (IntKind.bits .u64)))) : Int) == 1) (K 0) (math_bits_Len64_wp v (fun (r : Int) => K (if ((IntKind.wrap .i64 (Int.tdiv (IntKind.wrap .i64 ((IntKind.wrap .i64 (r + 7)) - 1)) 7)) : Int) > 1 then (IntKind.wrap .i64 (Int.tdiv (IntKind.wrap .i64 ((IntKind.wrap .i64 (r + 7)) - 1)) 7)) else 1)))
theorem uvar_Len_ok {v : Int} {FL : List HP} {w : World} {K : Int → Prop} {R : Value → World → Prop}
  (h : Mem (FL) w) (hp : uvar_Len_wp v K)
  (hR : ∀ (r : Int) (w : World), Mem (FL) w → K r → R (Value.int .i64 r) w) :
  CallV Try.prog 41 #[(Value.int .u64 v)] w R := by
  refine uvar_Len_call ?_
  unfold uvar_Len
  unfold uvar_Len_wp at hp
  refine ⟨by decide, ?_⟩
  refine cond_both hp (fun hp => ?_) (fun hp => ?_)
  · exact hR 0 _ h hp
  refine math_bits_Len64_ok h hp ?_
  intro r w h hp
  refine ⟨_, rfl, ?_⟩
  refine ⟨by decide, ?_⟩
  exact hR (if ((IntKind.wrap .i64 (Int.tdiv (IntKind.wrap .i64 ((IntKind.wrap .i64 (r + 7)) - 1)) 7)) : Int) > 1 then (IntKind.wrap .i64 (Int.tdiv (IntKind.wrap .i64 ((IntKind.wrap .i64 (r + 7)) - 1)) 7)) else 1) _ h hp

/-! embrasure/wire.May$1 (40) -/
def wire_May_c1_wp (v : Int) (K : Bool → Prop) : Prop :=
  uvar_Len_wp v (fun (r : Int) => K ((r : Int) == 0))
theorem wire_May_c1_ok {v : Int} {FL : List HP} {w : World} {K : Bool → Prop} {R : Value → World → Prop}
  (h : Mem (FL) w) (hp : wire_May_c1_wp v K)
  (hR : ∀ (r : Bool) (w : World), Mem (FL) w → K r → R (Value.bool r) w) :
  CallV Try.prog 40 #[(Value.int .u64 v)] w R := by
  refine wire_May_c1_call ?_
  unfold wire_May_c1
  unfold wire_May_c1_wp at hp
  refine uvar_Len_ok h hp ?_
  intro r w h hp
  refine ⟨_, rfl, ?_⟩
  exact hR ((r : Int) == 0) _ h hp

/-! embrasure/wire.May$2 (42) -/
def wire_May_c2_wp (a_Host : Int) (a_Port : Int) (K : Bool → Prop) : Prop :=
  addr_May_wp a_Host a_Port (fun (r : Bool) => K (!r))
theorem wire_May_c2_ok {a_Host : Int} {a_Port : Int} {FL : List HP} {w : World} {K : Bool → Prop} {R : Value → World → Prop}
  (h : Mem (FL) w) (hp : wire_May_c2_wp a_Host a_Port K)
  (hR : ∀ (r : Bool) (w : World), Mem (FL) w → K r → R (Value.bool r) w) :
  CallV Try.prog 42 #[(Value.agg #[(Value.int .u32 a_Host), (Value.int .i64 a_Port)])] w R := by
  refine wire_May_c2_call ?_
  unfold wire_May_c2
  unfold wire_May_c2_wp at hp
  refine newL (o := [(Value.int .u32 a_Host), (Value.int .i64 a_Port)]) h ?_
  intro b_1 w h
  refine ⟨_, cellL h 0 0 rfl rfl rfl, _, cellL h 0 1 rfl rfl rfl, ?_⟩
  refine addr_May_ok h hp ?_
  intro r w h hp
  refine ⟨_, rfl, ?_⟩
  replace h := h.sel [] 1
  dsimp only [pickL, pickR, nthH, delH, dropH, List.cons_append, List.nil_append] at h
  exact hR (!r) _ h hp

/-! embrasure/wire.May (28) -/
def wire_May_wp (m_Kind : Int) (m_Nums : List (Int)) (m_Addrs : List (Int × Int)) (m_Body : List (Int)) (K : Bool → Prop) : Prop :=
  wire_Nums_wp m_Kind (fun (r : Int) => cond ((((m_Nums.length : Nat) : Int) : Int) == r) (cond (decide ((((m_Addrs.length : Nat) : Int) : Int) ≤ 8)) (cond (decide ((((m_Body.length : Nat) : Int) : Int) ≤ 1000)) (slices_ContainsFunc_sl_uint64_uint64_wp m_Nums () (fun x_1 s K_1 => wire_May_c1_wp x_1 (fun (r : Bool) => K_1 r s)) (fun (r_1 : Bool) (s_1 : (Unit)) => cond (!r_1) (slices_ContainsFunc_sl_api_Addr_api_Addr_wp m_Addrs () (fun x_2 s_2 K_2 => wire_May_c2_wp x_2.1 x_2.2 (fun (r : Bool) => K_2 r s_2)) (fun (r_2 : Bool) (s_3 : (Unit)) => K (!r_2))) (K false))) (K false)) (K false)) (K false))
theorem wire_May_ok {p_1 : Option Addr} {n_1 : Nat} {c_1 : Nat} {p_2 : Option Addr} {n_2 : Nat} {c_2 : Nat} {p_3 : Option Addr} {n_3 : Nat} {c_3 : Nat} {m_Kind : Int} {m_Nums : List (Int)} {m_Addrs : List (Int × Int)} {m_Body : List (Int)} {FL : List HP} {w : World} {K : Bool → Prop} {R : Value → World → Prop}
  (hF_m_Nums : ∀ w, Mem FL w → Rd w 1 p_1 enc52 m_Nums) (hl_m_Nums : n_1 = m_Nums.length) (hc_m_Nums : n_1 ≤ c_1)
  (hF_m_Addrs : ∀ w, Mem FL w → Rd w 2 p_2 enc55 m_Addrs) (hl_m_Addrs : n_2 = m_Addrs.length) (hc_m_Addrs : n_2 ≤ c_2)
  (hF_m_Body : ∀ w, Mem FL w → Rd w 1 p_3 enc5 m_Body) (hl_m_Body : n_3 = m_Body.length) (hc_m_Body : n_3 ≤ c_3)
  (h : Mem (FL) w) (hp : wire_May_wp m_Kind m_Nums m_Addrs m_Body K)
  (hR : ∀ (r : Bool) (w : World), Mem (FL) w → K r → R (Value.bool r) w) :
  CallV Try.prog 28 #[(Value.agg #[(Value.int .i64 m_Kind), (Value.slice p_1 n_1 c_1), (Value.slice p_2 n_2 c_2), (Value.slice p_3 n_3 c_3)])] w R := by
  refine wire_May_call ?_
  unfold wire_May
  unfold wire_May_wp at hp
  subst hl_m_Nums
  subst hl_m_Addrs
  subst hl_m_Body
  refine newL (o := [(Value.int .i64 m_Kind), (Value.slice p_1 m_Nums.length c_1), (Value.slice p_2 m_Addrs.length c_2), (Value.slice p_3 m_Body.length c_3)]) h ?_
  intro b_1 w h
  replace h := h.drew
  refine ⟨fun w => Mem (cel b_1 37 [(Value.int .i64 m_Kind), (Value.slice p_1 m_Nums.length c_1), (Value.slice p_2 m_Addrs.length c_2), (Value.slice p_3 m_Body.length c_3)] :: FL) w, (h.sel [0] 0), ?_⟩
  refine ⟨_, _, _, cellL h 0 1 rfl rfl rfl, ?_⟩
  refine ⟨?_, ?_⟩
  · intro w h
    change Mem _ _ at h
    refine ⟨_, _, _, cellL h 0 1 rfl rfl rfl, ?_⟩
    exact ⟨rfl, rfl⟩
  refine ⟨?_, ?_⟩
  · intro w h
    change Mem _ _ at h
    exact ⟨rfl, rfl⟩
  refine ⟨_, cellL h 0 0 rfl rfl rfl, ?_⟩
  refine wire_Nums_ok h hp ?_
  intro r w h hp
  refine ⟨_, rfl, ?_⟩
  refine ⟨(h.sel [0] 0), ?_⟩
  refine cond_both' hp (fun hp => ?_) (fun hp => ?_)
  · replace h := h.sel [] 1
    dsimp only [pickL, pickR, nthH, delH, dropH, List.cons_append, List.nil_append] at h
    exact hR false _ h hp
  refine ⟨_, _, _, cellL h 0 2 rfl rfl rfl, ?_⟩
  refine ⟨rfl, ?_⟩
  refine cond_both' hp (fun hp => ?_) (fun hp => ?_)
  · replace h := h.sel [] 1
    dsimp only [pickL, pickR, nthH, delH, dropH, List.cons_append, List.nil_append] at h
    exact hR false _ h hp
  refine ⟨_, _, _, cellL h 0 3 rfl rfl rfl, ?_⟩
  refine ⟨rfl, ?_⟩
  refine cond_both' hp (fun hp => ?_) (fun hp => ?_)
  · replace h := h.sel [] 1
    dsimp only [pickL, pickR, nthH, delH, dropH, List.cons_append, List.nil_append] at h
    exact hR false _ h hp
  refine ⟨_, _, _, cellL h 0 1 rfl rfl rfl, ?_⟩
  replace h : Mem ((fun (_ : Unit) => HL []) () :: cel b_1 37 [(Value.int .i64 m_Kind), (Value.slice p_1 m_Nums.length c_1), (Value.slice p_2 m_Addrs.length c_2), (Value.slice p_3 m_Body.length c_3)] :: FL) _ := h.pack 0 [] rfl
  refine slices_ContainsFunc_sl_uint64_uint64_ok (FL := cel b_1 37 [(Value.int .i64 m_Kind), (Value.slice p_1 m_Nums.length c_1), (Value.slice p_2 m_Addrs.length c_2), (Value.slice p_3 m_Body.length c_3)] :: FL) (A1 := (fun (_ : Unit) => HL [])) (Y1 := (fun x_1 s K_1 => wire_May_c1_wp x_1 (fun (r : Bool) => K_1 r s))) (σ1 := Unit) (s_1 := ()) ?_ (fun w h => (hF_m_Nums _ (h.drop 1))) rfl hc_m_Nums h hp ?_
  · intro x_1 s K FL2 w R hx h hp hR
    replace h := h.unpack
    dsimp only [pickL, pickR, nthH, delH, dropH, List.cons_append, List.nil_append] at h
    refine calleeFn (by kernel_rfl) ?_
    refine wire_May_c1_ok h hp ?_
    intro r w h hp
    exact hR r s _ (h.pack 0 [] rfl) hp
  intro r_1 s_1 w h hp
  replace h := h.unpack
  dsimp only [pickL, pickR, nthH, delH, dropH, List.cons_append, List.nil_append] at h
  refine ⟨_, rfl, ?_⟩
  refine ⟨(h.sel [0] 0), ?_⟩
  refine cond_both' hp (fun hp => ?_) (fun hp => ?_)
  · replace h := h.sel [] 1
    dsimp only [pickL, pickR, nthH, delH, dropH, List.cons_append, List.nil_append] at h
    exact hR false _ h hp
  refine ⟨_, _, _, cellL h 0 2 rfl rfl rfl, ?_⟩
  replace h : Mem ((fun (_ : Unit) => HL []) () :: cel b_1 37 [(Value.int .i64 m_Kind), (Value.slice p_1 m_Nums.length c_1), (Value.slice p_2 m_Addrs.length c_2), (Value.slice p_3 m_Body.length c_3)] :: FL) _ := h.pack 0 [] rfl
  refine slices_ContainsFunc_sl_api_Addr_api_Addr_ok (FL := cel b_1 37 [(Value.int .i64 m_Kind), (Value.slice p_1 m_Nums.length c_1), (Value.slice p_2 m_Addrs.length c_2), (Value.slice p_3 m_Body.length c_3)] :: FL) (A1 := (fun (_ : Unit) => HL [])) (Y1 := (fun x_2 s_2 K_2 => wire_May_c2_wp x_2.1 x_2.2 (fun (r : Bool) => K_2 r s_2))) (σ1 := Unit) (s_1 := ()) ?_ (fun w h => (hF_m_Addrs _ (h.drop 1))) rfl hc_m_Addrs h hp ?_
  · intro x_2 s_2 K FL2 w R hx h hp hR
    replace h := h.unpack
    dsimp only [pickL, pickR, nthH, delH, dropH, List.cons_append, List.nil_append] at h
    refine calleeFn (by kernel_rfl) ?_
    refine wire_May_c2_ok h hp ?_
    intro r w h hp
    exact hR r s_2 _ (h.pack 0 [] rfl) hp
  intro r_2 s_3 w h hp
  replace h := h.unpack
  dsimp only [pickL, pickR, nthH, delH, dropH, List.cons_append, List.nil_append] at h
  refine ⟨_, rfl, ?_⟩
  replace h := h.sel [] 1
  dsimp only [pickL, pickR, nthH, delH, dropH, List.cons_append, List.nil_append] at h
  exact hR (!r_2) _ h hp

end Go.Proofs.Ytgelfofenbjjbaa
