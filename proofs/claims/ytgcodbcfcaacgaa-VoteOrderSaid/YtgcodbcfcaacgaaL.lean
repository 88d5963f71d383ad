/- Each function over plain data (printed by a program of this claim's author). -/
import Derived.Test.YtgcodbcfcaacgaaD
import Derived.Test.YtgcodbcfcaacgaaEngZ
import Derived.Test.YtgcodbcfcaacgaaS26
import Derived.Test.YtgcodbcfcaacgaaEngU
namespace Go.Proofs.Ytgcodbcfcaacgaa
open Go Go.Eng Go.Proofs
set_option maxRecDepth 100000
set_option maxHeartbeats 2000000

def enc3 (x : Int) : List Value := [(Value.int .i64 x)]
theorem encL3 : ∀ x, (enc3 x).length = 1 := fun _ => rfl
theorem encO3 : ∀ x, ∀ v ∈ enc3 x, v.oneCell' = true := by intro x v hv; simp only [enc3, List.mem_cons, List.not_mem_nil, or_false] at hv; rcases hv with rfl <;> rfl
def enc5 (x : Int) : List Value := [(Value.int .u8 x)]
theorem encL5 : ∀ x, (enc5 x).length = 1 := fun _ => rfl
theorem encO5 : ∀ x, ∀ v ∈ enc5 x, v.oneCell' = true := by intro x v hv; simp only [enc5, List.mem_cons, List.not_mem_nil, or_false] at hv; rcases hv with rfl <;> rfl
def enc32 (x : Int × Int) : List Value := [(Value.int .u32 x.1), (Value.int .i64 x.2)]
theorem encL32 : ∀ x, (enc32 x).length = 2 := fun _ => rfl
theorem encO32 : ∀ x, ∀ v ∈ enc32 x, v.oneCell' = true := by intro x v hv; simp only [enc32, List.mem_cons, List.not_mem_nil, or_false] at hv; rcases hv with rfl | rfl <;> rfl
def enc34 (x : Int × Int × Int × Int) : List Value := [(Value.int .i64 x.1), (Value.int .u32 x.2.1), (Value.int .u32 x.2.2.1), (Value.int .i64 x.2.2.2)]
theorem encL34 : ∀ x, (enc34 x).length = 4 := fun _ => rfl
theorem encO34 : ∀ x, ∀ v ∈ enc34 x, v.oneCell' = true := by intro x v hv; simp only [enc34, List.mem_cons, List.not_mem_nil, or_false] at hv; rcases hv with rfl | rfl | rfl | rfl <;> rfl
def enc46 (x : Int × Int × Int × Int) : List Value := [(Value.int .u32 x.1), (Value.int .u32 x.2.1), (Value.int .i64 x.2.2.1), (Value.int .i64 x.2.2.2)]
theorem encL46 : ∀ x, (enc46 x).length = 4 := fun _ => rfl
theorem encO46 : ∀ x, ∀ v ∈ enc46 x, v.oneCell' = true := by intro x v hv; simp only [enc46, List.mem_cons, List.not_mem_nil, or_false] at hv; rcases hv with rfl | rfl | rfl | rfl <;> rfl
def va3 (x : Int) : Value := (Value.int .i64 x)
def va32 (x : Int × Int) : Value := (Value.agg #[(Value.int .u32 x.1), (Value.int .i64 x.2)])
theorem sz3 : sizeT Try.prog 3 = some 1 := by kernel_rfl
theorem sz4 : sizeT Try.prog 4 = some 1 := by kernel_rfl
theorem sz27 : sizeT Try.prog 27 = some 1 := by kernel_rfl
theorem sz30 : sizeT Try.prog 30 = some 1 := by kernel_rfl
theorem sz32 : sizeT Try.prog 32 = some 2 := by kernel_rfl
theorem sz34 : sizeT Try.prog 34 = some 4 := by kernel_rfl
theorem sz46 : sizeT Try.prog 46 = some 4 := by kernel_rfl
theorem sz63 : sizeT Try.prog 63 = some 1 := by kernel_rfl
theorem eqG32 : Try.prog.eqGuardType Try.prog.depth 32 = false := by kernel_rfl
theorem eqA32 : isAggB Try.prog 32 = true := by kernel_rfl
theorem eqT32 (a0 : Int) (a1 : Int) (b0 : Int) (b1 : Int) : eqT Try.prog 20 32 [(Value.int .u32 a0), (Value.int .i64 a1)] [(Value.int .u32 b0), (Value.int .i64 b1)] = some (((a0 : Int) == b0) && (((a1 : Int) == b1) && true)) := by kernel_rfl
theorem eqG46 : Try.prog.eqGuardType Try.prog.depth 46 = false := by kernel_rfl
theorem eqA46 : isAggB Try.prog 46 = true := by kernel_rfl
theorem eqT46 (a0 : Int) (a1 : Int) (a2 : Int) (a3 : Int) (b0 : Int) (b1 : Int) (b2 : Int) (b3 : Int) : eqT Try.prog 20 46 [(Value.int .u32 a0), (Value.int .u32 a1), (Value.int .i64 a2), (Value.int .i64 a3)] [(Value.int .u32 b0), (Value.int .u32 b1), (Value.int .i64 b2), (Value.int .i64 b3)] = some (((a0 : Int) == b0) && ((((a1 : Int) == b1) && (((a2 : Int) == b2) && true)) && (((a3 : Int) == b3) && true))) := by kernel_rfl
theorem zr3 : zeroOf Try.prog 3 = some (Value.int .i64 0) := by kernel_rfl
theorem zr46 : zeroOf Try.prog 46 = some (Value.agg #[(Value.int .u32 0), (Value.int .u32 0), (Value.int .i64 0), (Value.int .i64 0)]) := by kernel_rfl
theorem mu63 : Try.prog.underlying 63 = some (.map 32 3) := by kernel_rfl
theorem eqD32 : ∀ a b : Int × Int, (((a.1 : Int) == b.1) && (((a.2 : Int) == b.2) && true)) = decide (a = b) := by
  rintro ⟨a0, a1⟩ ⟨b0, b1⟩
  rw [Bool.eq_iff_iff]
  simp [Prod.ext_iff, and_assoc]
theorem chk32 (e : Bool) (k : Int × Int) (w : World) : (Instr.checkKey e 10000 32 (va32 k)).run Try.prog w = .ok () w := by kernel_rfl
theorem kt32 : KeyT Try.prog 32 va32 := keyStruct (enc := fun k => [(Value.int .u32 k.1), (Value.int .i64 k.2)]) (fun _ => rfl) (by kernel_rfl) eqA32 (fun a b => (eqT32 a.1 a.2 b.1 b.2).trans (congrArg some (eqD32 a b))) chk32 (fun k v hv => by
  simp only [List.mem_cons, List.not_mem_nil, or_false] at hv
  rcases hv with rfl | rfl <;> first | exact sameInt _ _ _ | exact sameBool _ _ | exact sameStr _ _)
theorem slt27 : SlT Try.prog 27 46 (Value.agg #[(Value.int .u32 0), (Value.int .u32 0), (Value.int .i64 0), (Value.int .i64 0)]) 4 32 := ⟨by kernel_rfl, by kernel_rfl, by kernel_rfl, by decide⟩
theorem slt39 : SlT Try.prog 39 32 (Value.agg #[(Value.int .u32 0), (Value.int .i64 0)]) 2 16 := ⟨by kernel_rfl, by kernel_rfl, by kernel_rfl, by decide⟩
theorem undP24 : Try.prog.underlying 24 = some (.pointer (Try.prog.pointee 24)) := by kernel_rfl
theorem undB4 : Try.prog.underlying 4 = some .bool := by kernel_rfl
theorem und27 : Try.prog.underlying 27 = some (.slice 46) := by kernel_rfl
theorem und39 : Try.prog.underlying 39 = some (.slice 32) := by kernel_rfl

/-! embrasure/vote.New (8) -/
def vote_New_wp  (K : List (Int × Int × Int × Int) → Int → Prop) : Prop :=
  K ([] : List (Int × Int × Int × Int)) 0
theorem vote_New_ok  {FL : List HP} {w : World} {K : List (Int × Int × Int × Int) → Int → Prop} {R : Value → World → Prop}
  (h : Mem (FL) w) (hp : vote_New_wp  K)
  (hR : ∀ (list : List (Int × Int × Int × Int)) (now : Int) (b_1 : Nat) (p_1 : Option Addr) (n_1 : Nat) (c_1 : Nat) (w : World), n_1 = list.length → Mem (cel b_1 57 [(Value.slice p_1 n_1 c_1), (Value.int .i64 now)] :: row enc46 46 4 p_1 c_1 list :: FL) w → K list now → R (Value.pointer (some (Addr.mk b_1 0 none))) w) :
  CallV Try.prog 8 #[] w R := by
  refine vote_New_call ?_
  unfold vote_New
  unfold vote_New_wp at hp
  refine newL (o := [(Value.slice none 0 0), (Value.int .i64 0)]) h ?_
  intro b_1 w h
  replace h := rowNil enc46 46 4 h
  replace h := h.sel [1, 0] 0
  dsimp only [pickL, pickR, nthH, delH, dropH, List.cons_append, List.nil_append] at h
  exact hR ([] : List (Int × Int × Int × Int)) 0 b_1 (none ) 0 0 _ rfl h hp

/-! embrasure/addr.May (18) -/
def addr_May_wp (a_Host : Int) (a_Port : Int) (K : Bool → Prop) : Prop :=
  cond ((a_Host : Int) != 0) (cond (decide ((a_Port : Int) ≥ 1)) (K (decide ((a_Port : Int) ≤ 65535))) (K false)) (K false)
theorem addr_May_ok {a_Host : Int} {a_Port : Int} {FL : List HP} {w : World} {K : Bool → Prop} {R : Value → World → Prop}
  (h : Mem (FL) w) (hp : addr_May_wp a_Host a_Port K)
  (hR : ∀ (r : Bool) (w : World), Mem (FL) w → K r → R (Value.bool r) w) :
  CallV Try.prog 18 #[(Value.agg #[(Value.int .u32 a_Host), (Value.int .i64 a_Port)])] w R := by
  refine addr_May_call ?_
  unfold addr_May
  unfold addr_May_wp at hp
  refine newL (o := [(Value.int .u32 a_Host), (Value.int .i64 a_Port)]) h ?_
  intro b_1 w h
  refine ⟨_, cellL h 0 0 rfl rfl rfl, ?_⟩
  refine cond_both' hp (fun hp => ?_) (fun hp => ?_)
  · replace h := h.sel [] 1
    dsimp only [pickL, pickR, nthH, delH, dropH, List.cons_append, List.nil_append] at h
    exact hR false _ h hp
  refine ⟨_, cellL h 0 1 rfl rfl rfl, ?_⟩
  refine cond_both' hp (fun hp => ?_) (fun hp => ?_)
  · replace h := h.sel [] 1
    dsimp only [pickL, pickR, nthH, delH, dropH, List.cons_append, List.nil_append] at h
    exact hR false _ h hp
  refine ⟨_, cellL h 0 1 rfl rfl rfl, ?_⟩
  replace h := h.sel [] 1
  dsimp only [pickL, pickR, nthH, delH, dropH, List.cons_append, List.nil_append] at h
  exact hR (decide ((a_Port : Int) ≤ 65535)) _ h hp

/-! (*embrasure/vote.Box).on$1 (34) -/
def vote_Box_on_c1_wp (v_Group : Int) (v_Addr : Int) (v_Addr_1 : Int) (v_At : Int) (now : Int) (K : Bool → Prop) : Prop :=
  K (decide (((IntKind.wrap .i64 (v_At + 600)) : Int) ≤ now))
theorem vote_Box_on_c1_ok {b_1 : Nat} {b_2 : Nat} {p_1 : Option Addr} {n_1 : Nat} {c_1 : Nat} {v_Group : Int} {v_Addr : Int} {v_Addr_1 : Int} {v_At : Int} {now : Int} {FL : List HP} {w : World} {K : Bool → Prop} {R : Value → World → Prop}
  (h : Mem (cel b_1 24 [(Value.pointer (some (Addr.mk b_2 0 none)))] :: cel b_2 57 [(Value.slice p_1 n_1 c_1), (Value.int .i64 now)] :: FL) w) (hp : vote_Box_on_c1_wp v_Group v_Addr v_Addr_1 v_At now K)
  (hR : ∀ (r : Bool) (w : World), Mem (cel b_1 24 [(Value.pointer (some (Addr.mk b_2 0 none)))] :: cel b_2 57 [(Value.slice p_1 n_1 c_1), (Value.int .i64 now)] :: FL) w → K r → R (Value.bool r) w) :
  CallV Try.prog 34 #[(Value.agg #[(Value.int .u32 v_Group), (Value.int .u32 v_Addr), (Value.int .i64 v_Addr_1), (Value.int .i64 v_At)]), (Value.pointer (some (Addr.mk b_1 0 none)))] w R := by
  refine vote_Box_on_c1_call ?_
  unfold vote_Box_on_c1
  unfold vote_Box_on_c1_wp at hp
  refine newL (o := [(Value.int .u32 v_Group), (Value.int .u32 v_Addr), (Value.int .i64 v_Addr_1), (Value.int .i64 v_At)]) h ?_
  intro b_3 w h
  replace h := h.drew
  refine ⟨_, cellL h 0 3 rfl rfl rfl, ?_⟩
  refine ⟨_, cellL h 1 0 rfl rfl rfl, ?_⟩
  refine ⟨_, rfl, ?_⟩
  refine ⟨_, cellL h 2 1 rfl rfl rfl, ?_⟩
  replace h := h.sel [1, 1] 1
  dsimp only [pickL, pickR, nthH, delH, dropH, List.cons_append, List.nil_append] at h
  exact hR (decide (((IntKind.wrap .i64 (v_At + 600)) : Int) ≤ now)) _ h hp

/-! slices.IndexFunc[[]embrasure/api.Vote,embrasure/api.Vote] (35) -/
def slices_IndexFunc_sl_api_Vote_api_Vote_wp {σ1 : Type} (s : List (Int × Int × Int × Int)) (s_1 : σ1) (Y1 : (Int × Int × Int × Int) → σ1 → (Bool → σ1 → Prop) → Prop) (K : Int → σ1 → Prop) : Prop :=
  ∃ (I : Nat → Int → σ1 → Prop), (∃ (n_4 : Nat), I n_4 0 s_1) ∧ ∀ (n_2 : Nat) (t8 : Int) (s_3 : σ1), I n_2 t8 s_3 → (cond (decide ((t8 : Int) < ((s.length : Nat) : Int))) (0 ≤ (t8 : Int) ∧ (t8 : Int) < ((s.length : Nat) : Int) ∧ (∀ (x_1 : Int × Int × Int × Int), s[Int.toNat t8]? = some x_1 → (Y1 x_1 s_3 (fun (t16 : Bool) (s_4 : σ1) => cond t16 (K t8 s_4) (∃ (n_3 : Nat), n_3 < n_2 ∧ I n_3 (IntKind.wrap .i64 (t8 + 1)) s_4))))) (K (-1) s_3))
theorem slices_IndexFunc_sl_api_Vote_api_Vote_ok {σ1 : Type} {A1 : σ1 → HP} {p_1 : Option Addr} {n_1 : Nat} {c_1 : Nat} {ff1 : Fn} {fa1 : Array Value} {fc1 : Array Value} {s : List (Int × Int × Int × Int)} {s_1 : σ1} {Y1 : (Int × Int × Int × Int) → σ1 → (Bool → σ1 → Prop) → Prop} {FL : List HP} {w : World} {K : Int → σ1 → Prop} {R : Value → World → Prop}
  (hY1 : ∀ (x0 : Int × Int × Int × Int) (s : σ1) (K : Bool → σ1 → Prop) (FL2 : List HP) (w : World) (R : Value → World → Prop), (∀ w, Mem FL2 w → Mem FL w) → Mem (A1 s :: FL2) w → Y1 x0 s K → (∀ (r : Bool) (s : σ1) (w : World), Mem (A1 s :: FL2) w → K r s → R (Value.bool r) w) → CalleeV Try.prog (Value.func ff1 fa1 fc1) #[(Value.agg #[(Value.int .u32 x0.1), (Value.int .u32 x0.2.1), (Value.int .i64 x0.2.2.1), (Value.int .i64 x0.2.2.2)])] w R)
  (hF_s : ∀ w, Mem FL w → Rd w 4 p_1 enc46 s) (hl_s : n_1 = s.length) (hc_s : n_1 ≤ c_1)
  (h : Mem (A1 s_1 :: FL) w) (hp : slices_IndexFunc_sl_api_Vote_api_Vote_wp s s_1 Y1 K)
  (hR : ∀ (r : Int) (s_2 : σ1) (w : World), Mem (A1 s_2 :: FL) w → K r s_2 → R (Value.int .i64 r) w) :
  CallV Try.prog 35 #[(Value.slice p_1 n_1 c_1), (Value.func ff1 fa1 fc1)] w R := by
  refine slices_IndexFunc_sl_api_Vote_api_Vote_call ?_
  unfold slices_IndexFunc_sl_api_Vote_api_Vote
  unfold slices_IndexFunc_sl_api_Vote_api_Vote_wp at hp
  subst hl_s
  obtain ⟨I, ⟨n_4, h0⟩, hq⟩ := hp
  refine ⟨fun n_2 s0p s0l s0c f1 t7 t8 w => ∃ (s_3 : σ1), p_1 = s0p ∧ s.length = s0l ∧ c_1 = s0c ∧ (Value.func ff1 fa1 fc1) = f1 ∧ ((s.length : Nat) : Int) = t7 ∧ I n_2 t8 s_3 ∧ Mem (A1 s_3 :: FL) w, ⟨n_4, s_1, rfl, rfl, rfl, rfl, rfl, h0, h⟩, ?_⟩
  clear h0 h
  rintro n_2 s0p s0l s0c f1 t7 t8 w ⟨s_3, rfl, rfl, rfl, rfl, rfl, hp, h⟩
  replace hp := hq n_2 t8 s_3 hp
  clear hq
  unfold slices_IndexFunc_sl_api_Vote_api_Vote_l1
  refine cond_both' hp (fun hp => ?_) (fun hp => ?_)
  · exact hR (-1) s_3 _ h hp
  obtain ⟨ia_1, ja_1, hp⟩ := hp
  obtain ⟨a_1, ha_1⟩ := rdAddr (hF_s _ (h.drop 1)) rfl ia_1 ja_1
  refine ⟨a_1, ha_1, ia_1, ja_1, ?_⟩
  obtain ⟨x_1, hx_1, hc⟩ := rdCell (hF_s _ (h.drop 1)) ha_1 rfl ia_1 ja_1
  replace hp := hp x_1 hx_1
  refine ⟨_, hc 0 _ rfl, _, hc 1 _ rfl, _, hc 2 _ rfl, _, hc 3 _ rfl, ?_⟩
  refine hY1 x_1 _ _ (FL) _ _ (fun _ h => Mem.drop 0 h) h hp ?_
  intro t16 s_4 w h hp
  refine ⟨_, rfl, ?_⟩
  refine cond_both hp (fun hp => ?_) (fun hp => ?_)
  · exact hR t8 s_4 _ h hp
  obtain ⟨n_3, hn, hp⟩ := hp
  exact ⟨n_3, hn, s_4, rfl, rfl, rfl, rfl, rfl, hp, h⟩

/-! slices.DeleteFunc[[]embrasure/api.Vote,embrasure/api.Vote] (20) -/
def slices_DeleteFunc_sl_api_Vote_api_Vote_wp {σ1 : Type} (s : List (Int × Int × Int × Int)) (s_1 : σ1) (Y1 : (Int × Int × Int × Int) → σ1 → (Bool → σ1 → Prop) → Prop) (K : List (Int × Int × Int × Int) → σ1 → Prop) : Prop :=
  slices_IndexFunc_sl_api_Vote_api_Vote_wp s s_1 Y1 (fun (r : Int) (s_3 : σ1) => cond ((r : Int) == (-1)) (K s s_3) (joinP3 (fun (s_4 : List (Int × Int × Int × Int)) (i5 : Int) (s_5 : σ1) => 0 ≤ (i5 : Int) ∧ (i5 : Int) ≤ ((s.length : Nat) : Int) ∧ (0 ≤ (i5 : Int) ∧ (i5 : Int) ≤ ((s.length : Nat) : Int) ∧ (K ((((s_4.take (Int.toNat i5)) ++ List.replicate (s.length - (Int.toNat i5)) (0, 0, 0, 0) ++ (s_4.drop s.length)).take (Int.toNat i5)).drop 0) s_5))) (fun (Q : List (Int × Int × Int × Int) → Int → σ1 → Prop) => ∃ (I : Nat → List (Int × Int × Int × Int) → Int → Int → σ1 → Prop), (∃ (n_5 : Nat), I n_5 s r (IntKind.wrap .i64 (r + 1)) s_3) ∧ ∀ (n_2 : Nat) (s_6 : List (Int × Int × Int × Int)) (i5_1 : Int) (j6 : Int) (s_7 : σ1), I n_2 s_6 i5_1 j6 s_7 → (cond (decide ((j6 : Int) < ((s.length : Nat) : Int))) (0 ≤ (j6 : Int) ∧ (j6 : Int) < ((s.length : Nat) : Int) ∧ (∀ (x_1 : Int × Int × Int × Int), s_6[Int.toNat j6]? = some x_1 → (Y1 x_1 s_7 (fun (t28 : Bool) (s_8 : σ1) => cond (!t28) (0 ≤ (i5_1 : Int) ∧ (i5_1 : Int) < ((s.length : Nat) : Int) ∧ (∃ (n_3 : Nat), n_3 < n_2 ∧ I n_3 (List.set s_6 (Int.toNat i5_1) x_1) (IntKind.wrap .i64 (i5_1 + 1)) (IntKind.wrap .i64 (j6 + 1)) s_8)) (∃ (n_4 : Nat), n_4 < n_2 ∧ I n_4 s_6 i5_1 (IntKind.wrap .i64 (j6 + 1)) s_8))))) (Q s_6 i5_1 s_7)))))
theorem slices_DeleteFunc_sl_api_Vote_api_Vote_ok {σ1 : Type} {A1 : σ1 → HP} {p_1 : Option Addr} {c_1 : Nat} {n_1 : Nat} {ff1 : Fn} {fa1 : Array Value} {fc1 : Array Value} {s : List (Int × Int × Int × Int)} {s_1 : σ1} {Y1 : (Int × Int × Int × Int) → σ1 → (Bool → σ1 → Prop) → Prop} {FL : List HP} {w : World} {K : List (Int × Int × Int × Int) → σ1 → Prop} {R : Value → World → Prop}
  (hY1 : ∀ (x0 : Int × Int × Int × Int) (s : σ1) (K : Bool → σ1 → Prop) (FL2 : List HP) (w : World) (R : Value → World → Prop), (∀ w, Mem FL2 w → Mem FL w) → Mem (A1 s :: FL2) w → Y1 x0 s K → (∀ (r : Bool) (s : σ1) (w : World), Mem (A1 s :: FL2) w → K r s → R (Value.bool r) w) → CalleeV Try.prog (Value.func ff1 fa1 fc1) #[(Value.agg #[(Value.int .u32 x0.1), (Value.int .u32 x0.2.1), (Value.int .i64 x0.2.2.1), (Value.int .i64 x0.2.2.2)])] w R) (hn_p_1 : n_1 = s.length)
  (h : Mem (row enc46 46 4 p_1 c_1 s :: A1 s_1 :: FL) w) (hp : slices_DeleteFunc_sl_api_Vote_api_Vote_wp s s_1 Y1 K)
  (hR : ∀ (rs : List (Int × Int × Int × Int)) (s_2 : σ1) (p_2 : Option Addr) (n_2 : Nat) (c_2 : Nat) (w : World), n_2 = rs.length → Mem (row enc46 46 4 p_2 c_2 rs :: A1 s_2 :: FL) w → K rs s_2 → R (Value.slice p_2 n_2 c_2) w) :
  CallV Try.prog 20 #[(Value.slice p_1 n_1 c_1), (Value.func ff1 fa1 fc1)] w R := by
  refine slices_DeleteFunc_sl_api_Vote_api_Vote_call ?_
  unfold slices_DeleteFunc_sl_api_Vote_api_Vote
  unfold slices_DeleteFunc_sl_api_Vote_api_Vote_wp at hp
  subst hn_p_1
  have cpp_1 := rowCap h 0 rfl
  replace h := h.pick [1]
  dsimp only [pickL, pickR, nthH, delH, dropH, List.cons_append, List.nil_append] at h
  refine slices_IndexFunc_sl_api_Vote_api_Vote_ok (FL := row enc46 46 4 p_1 c_1 s :: FL) (A1 := A1) (Y1 := Y1) (σ1 := σ1) (s_1 := s_1) (fun _ _ _ FL2 w R hx => hY1 _ _ _ FL2 w R (fun w h => (Mem.drop 1 (hx w h)))) (fun w h => (rowRd h 0 encL46 rfl)) rfl cpp_1 h hp ?_
  intro r s_3 w h hp
  refine ⟨_, rfl, ?_⟩
  refine cond_both hp (fun hp => ?_) (fun hp => ?_)
  · replace h := h.sel [1, 0] 0
    dsimp only [pickL, pickR, nthH, delH, dropH, List.cons_append, List.nil_append] at h
    exact hR s s_3 p_1 s.length c_1 _ rfl h hp
  obtain ⟨Q, hq, hp⟩ := hp
  refine ⟨fun s0p s0l s0c i5 w => ∃ (s_4 : List (Int × Int × Int × Int)), ∃ (s_5 : σ1), p_1 = s0p ∧ s.length = s0l ∧ c_1 = s0c ∧ s.length = s_4.length ∧ Q s_4 i5 s_5 ∧ Mem (A1 s_5 :: row enc46 46 4 p_1 c_1 s_4 :: FL) w, ?_, ?_⟩
  · rintro s0p s0l s0c i5 w ⟨s_4, s_5, rfl, rfl, rfl, hl_s_4, hp, h⟩
    replace hp := hq s_4 i5 s_5 hp
    unfold slices_DeleteFunc_sl_api_Vote_api_Vote_j1
    obtain ⟨g_1la, g_1lb, hp⟩ := hp
    have vg_1_lh : (Int.toNat i5) ≤ s.length := (natLe g_1la g_1lb)
    have vg_1_hm : s.length ≤ c_1 := cpp_1
    have vg_1_mc : c_1 ≤ c_1 := (Nat.le_refl _)
    have vg_1_hl : s.length ≤ s_4.length := (Nat.le_of_eq hl_s_4)
    refine ⟨g_1la, g_1lb, ?_⟩
    refine clearL (x0 := (0, 0, 0, 0)) (lo := (Int.toNat i5)) (hi := s.length) (m := c_1) und27 zr46 h 1 encL46 rfl rfl rfl vg_1_lh vg_1_hm vg_1_hl rfl ?_
    intro w h
    dsimp only [setH, setVs, setV] at h
    refine ⟨rfl, ?_⟩
    obtain ⟨g_2ha, g_2hb, hp⟩ := hp
    have vg_2_lh : 0 ≤ (Int.toNat i5) := (Nat.zero_le _)
    have vg_2_hm : (Int.toNat i5) ≤ c_1 := (Nat.le_trans (natLe g_2ha g_2hb) cpp_1)
    have vg_2_mc : c_1 ≤ c_1 := (Nat.le_refl _)
    have vg_2_hl : (Int.toNat i5) ≤ ((s_4.take (Int.toNat i5)) ++ List.replicate (s.length - (Int.toNat i5)) (0, 0, 0, 0) ++ (s_4.drop s.length)).length := (leLen g_2ha g_2hb (lenClear hl_s_4 vg_1_lh vg_1_hl))
    refine ⟨g_2ha, (leCap g_2hb cpp_1), ?_⟩
    replace h := rowShrink h 1 encL46 rfl (l := 0) (hi := (Int.toNat i5)) (m := c_1) vg_2_lh vg_2_hm vg_2_mc vg_2_hl
    dsimp only [setH, setVs, setV] at h
    replace h := h.sel [1, 0] 0
    dsimp only [pickL, pickR, nthH, delH, dropH, List.cons_append, List.nil_append] at h
    exact hR ((((s_4.take (Int.toNat i5)) ++ List.replicate (s.length - (Int.toNat i5)) (0, 0, 0, 0) ++ (s_4.drop s.length)).take (Int.toNat i5)).drop 0) s_5 (slAddr p_1 4 0 c_1) ((Int.toNat i5) - 0) (c_1 - 0) _ (viewLen vg_2_hl) h hp
  clear hq
  obtain ⟨I, ⟨n_5, h0⟩, hq⟩ := hp
  refine ⟨fun n_2 s0_1p s0_1l s0_1c del1 i5_1 j6 w => ∃ (s_6 : List (Int × Int × Int × Int)), ∃ (s_7 : σ1), p_1 = s0_1p ∧ s.length = s0_1l ∧ c_1 = s0_1c ∧ (Value.func ff1 fa1 fc1) = del1 ∧ s.length = s_6.length ∧ I n_2 s_6 i5_1 j6 s_7 ∧ Mem (A1 s_7 :: row enc46 46 4 p_1 c_1 s_6 :: FL) w, ⟨n_5, s, s_3, rfl, rfl, rfl, rfl, rfl, h0, h⟩, ?_⟩
  clear h0 h
  rintro n_2 s0_1p s0_1l s0_1c del1 i5_1 j6 w ⟨s_6, s_7, rfl, rfl, rfl, rfl, hl_s_6, hp, h⟩
  replace hp := hq n_2 s_6 i5_1 j6 s_7 hp
  clear hq
  unfold slices_DeleteFunc_sl_api_Vote_api_Vote_l2
  refine cond_both' hp (fun hp => ?_) (fun hp => ?_)
  · exact ⟨s_6, s_7, rfl, rfl, rfl, hl_s_6, hp, h⟩
  obtain ⟨ia_1, ja_1, hp⟩ := hp
  obtain ⟨a_1, ha_1⟩ := rdAddr (rowRd h 1 encL46 rfl) hl_s_6 ia_1 ja_1
  refine ⟨a_1, ha_1, ia_1, ja_1, ?_⟩
  obtain ⟨x_1, hx_1, hc⟩ := rdCell (rowRd h 1 encL46 rfl) ha_1 hl_s_6 ia_1 ja_1
  replace hp := hp x_1 hx_1
  refine ⟨_, hc 0 _ rfl, _, hc 1 _ rfl, _, hc 2 _ rfl, _, hc 3 _ rfl, ?_⟩
  refine newL (o := [(Value.int .u32 0), (Value.int .u32 0), (Value.int .i64 0), (Value.int .i64 0)]) h ?_
  intro b_1 w h
  refine storeL (ys := [(Value.int .u32 x_1.1), (Value.int .u32 x_1.2.1), (Value.int .i64 x_1.2.2.1), (Value.int .i64 x_1.2.2.2)]) h 0 0 rfl rfl rfl sz46 rfl rfl ?_
  intro w h
  dsimp only [setH, setVs, setV] at h
  refine ⟨_, cellL h 0 0 rfl rfl rfl, _, cellL h 0 1 rfl rfl rfl, _, cellL h 0 2 rfl rfl rfl, _, cellL h 0 3 rfl rfl rfl, ?_⟩
  replace h := h.pick [1]
  dsimp only [pickL, pickR, nthH, delH, dropH, List.cons_append, List.nil_append] at h
  refine hY1 x_1 _ _ (cel b_1 46 [(Value.int .u32 x_1.1), (Value.int .u32 x_1.2.1), (Value.int .i64 x_1.2.2.1), (Value.int .i64 x_1.2.2.2)] :: row enc46 46 4 p_1 c_1 s_6 :: FL) _ _ (fun _ h => Mem.drop 2 h) h hp ?_
  intro t28 s_8 w h hp
  refine ⟨_, rfl, ?_⟩
  refine cond_both' hp (fun hp => ?_) (fun hp => ?_)
  · replace h := h.sel [0, 1] 1
    dsimp only [pickL, pickR, nthH, delH, dropH, List.cons_append, List.nil_append] at h
    obtain ⟨n_4, hn, hp⟩ := hp
    exact ⟨n_4, hn, s_6, s_8, rfl, rfl, rfl, rfl, hl_s_6, hp, h⟩
  refine ⟨_, cellL h 1 0 rfl rfl rfl, _, cellL h 1 1 rfl rfl rfl, _, cellL h 1 2 rfl rfl rfl, _, cellL h 1 3 rfl rfl rfl, ?_⟩
  obtain ⟨ia_2, ja_2, hp⟩ := hp
  obtain ⟨a_2, ha_2⟩ := rdAddr (rowRd h 2 encL46 rfl) hl_s_6 ia_2 ja_2
  refine ⟨a_2, ha_2, ia_2, ja_2, ?_⟩
  refine rowSetW (ys := [(Value.int .u32 x_1.1), (Value.int .u32 x_1.2.1), (Value.int .i64 x_1.2.2.1), (Value.int .i64 x_1.2.2.2)]) (x := x_1) h 2 encL46 rfl ha_2 hl_s_6 ia_2 ja_2 sz46 rfl rfl rfl ?_
  intro w h
  dsimp only [setH, setVs, setV] at h
  replace h := h.sel [0, 1] 1
  dsimp only [pickL, pickR, nthH, delH, dropH, List.cons_append, List.nil_append] at h
  obtain ⟨n_3, hn, hp⟩ := hp
  exact ⟨n_3, hn, (List.set s_6 (Int.toNat i5_1) x_1), s_8, rfl, rfl, rfl, rfl, (lenSet hl_s_6), hp, h⟩

/-! (*embrasure/vote.Box).on (19) -/
def vote_Box_on_wp (list : List (Int × Int × Int × Int)) (now : Int) (now_1 : Int) (K : List (Int × Int × Int × Int) → Int → Prop) : Prop :=
  slices_DeleteFunc_sl_api_Vote_api_Vote_wp list () (fun x_1 s K_1 => vote_Box_on_c1_wp x_1.1 x_1.2.1 x_1.2.2.1 x_1.2.2.2 (if ((if (1099511627776 : Int) < now_1 then 1099511627776 else now_1) : Int) > now then (if (1099511627776 : Int) < now_1 then 1099511627776 else now_1) else now) (fun (r : Bool) => K_1 r s)) (fun (rs : List (Int × Int × Int × Int)) (s_1 : (Unit)) => K rs (if ((if (1099511627776 : Int) < now_1 then 1099511627776 else now_1) : Int) > now then (if (1099511627776 : Int) < now_1 then 1099511627776 else now_1) else now))
theorem vote_Box_on_ok {b_1 : Nat} {p_1 : Option Addr} {c_1 : Nat} {list : List (Int × Int × Int × Int)} {now : Int} {now_1 : Int} {FL : List HP} {w : World} {K : List (Int × Int × Int × Int) → Int → Prop} {R : Value → World → Prop}
  (h : Mem (cel b_1 57 [(Value.slice p_1 list.length c_1), (Value.int .i64 now)] :: row enc46 46 4 p_1 c_1 list :: FL) w) (hp : vote_Box_on_wp list now now_1 K)
  (hR : ∀ (list_1 : List (Int × Int × Int × Int)) (now_2 : Int) (p_2 : Option Addr) (n_1 : Nat) (c_2 : Nat) (w : World), n_1 = list_1.length → Mem (cel b_1 57 [(Value.slice p_2 n_1 c_2), (Value.int .i64 now_2)] :: row enc46 46 4 p_2 c_2 list_1 :: FL) w → K list_1 now_2 → R undef w) :
  CallV Try.prog 19 #[(Value.pointer (some (Addr.mk b_1 0 none))), (Value.int .i64 now_1)] w R := by
  refine vote_Box_on_call ?_
  unfold vote_Box_on
  unfold vote_Box_on_wp at hp
  have cpp_1 := rowCap h 1 rfl
  refine newL (o := [(Value.pointer (some (Addr.mk b_1 0 none)))]) h ?_
  intro b_2 w h
  replace h := h.drew
  refine ⟨_, cellL h 0 0 rfl rfl rfl, ?_⟩
  refine ⟨_, cellL h 0 0 rfl rfl rfl, ?_⟩
  refine ⟨_, rfl, ?_⟩
  refine ⟨_, cellL h 1 1 rfl rfl rfl, ?_⟩
  refine ⟨_, rfl, ?_⟩
  refine storeL (ys := [(Value.int .i64 (if ((if (1099511627776 : Int) < now_1 then 1099511627776 else now_1) : Int) > now then (if (1099511627776 : Int) < now_1 then 1099511627776 else now_1) else now))]) h 1 1 rfl rfl rfl sz3 rfl rfl ?_
  intro w h
  dsimp only [setH, setVs, setV] at h
  replace h := h.drew
  refine ⟨fun w => Mem (cel b_2 24 [(Value.pointer (some (Addr.mk b_1 0 none)))] :: FL) w, (h.sel [0] 2), ?_⟩
  refine ⟨_, cellL h 0 0 rfl rfl rfl, ?_⟩
  refine ⟨?_, ?_⟩
  · intro w h
    change Mem _ _ at h
    refine ⟨_, cellL h 0 0 rfl rfl rfl, ?_⟩
    exact ⟨rfl, rfl⟩
  refine ⟨_, cellL h 0 0 rfl rfl rfl, ?_⟩
  refine ⟨_, rfl, ?_⟩
  refine ⟨_, _, _, cellL h 1 0 rfl rfl rfl, ?_⟩
  replace h : Mem ((fun (_ : Unit) => HL [cel b_2 24 [(Value.pointer (some (Addr.mk b_1 0 none)))], cel b_1 57 [(Value.slice p_1 list.length c_1), (Value.int .i64 (if ((if (1099511627776 : Int) < now_1 then 1099511627776 else now_1) : Int) > now then (if (1099511627776 : Int) < now_1 then 1099511627776 else now_1) else now))]]) () :: row enc46 46 4 p_1 c_1 list :: FL) _ := h.pack 2 [cel b_2 24 [(Value.pointer (some (Addr.mk b_1 0 none)))], cel b_1 57 [(Value.slice p_1 list.length c_1), (Value.int .i64 (if ((if (1099511627776 : Int) < now_1 then 1099511627776 else now_1) : Int) > now then (if (1099511627776 : Int) < now_1 then 1099511627776 else now_1) else now))]] rfl
  replace h := h.pick [1, 0]
  dsimp only [pickL, pickR, nthH, delH, dropH, List.cons_append, List.nil_append] at h
  refine slices_DeleteFunc_sl_api_Vote_api_Vote_ok (FL := FL) (A1 := (fun (_ : Unit) => HL [cel b_2 24 [(Value.pointer (some (Addr.mk b_1 0 none)))], cel b_1 57 [(Value.slice p_1 list.length c_1), (Value.int .i64 (if ((if (1099511627776 : Int) < now_1 then 1099511627776 else now_1) : Int) > now then (if (1099511627776 : Int) < now_1 then 1099511627776 else now_1) else now))]])) (Y1 := (fun x_1 s K_1 => vote_Box_on_c1_wp x_1.1 x_1.2.1 x_1.2.2.1 x_1.2.2.2 (if ((if (1099511627776 : Int) < now_1 then 1099511627776 else now_1) : Int) > now then (if (1099511627776 : Int) < now_1 then 1099511627776 else now_1) else now) (fun (r : Bool) => K_1 r s))) (σ1 := Unit) (s_1 := ()) ?_ rfl h hp ?_
  · intro x_1 s K FL2 w R hx h hp hR
    replace h := h.unpack
    dsimp only [pickL, pickR, nthH, delH, dropH, List.cons_append, List.nil_append] at h
    refine calleeFn (by kernel_rfl) ?_
    refine vote_Box_on_c1_ok h hp ?_
    intro r w h hp
    exact hR r s _ (h.pack 2 [cel b_2 24 [(Value.pointer (some (Addr.mk b_1 0 none)))], cel b_1 57 [(Value.slice p_1 list.length c_1), (Value.int .i64 (if ((if (1099511627776 : Int) < now_1 then 1099511627776 else now_1) : Int) > now then (if (1099511627776 : Int) < now_1 then 1099511627776 else now_1) else now))]] rfl) hp
  rintro rs s_1 p_3 n_2 c_3 w rfl h hp
  have cpp_3 := rowCap h 0 rfl
  replace h := h.pick [1]
  dsimp only [pickL, pickR, nthH, delH, dropH, List.cons_append, List.nil_append] at h
  replace h := h.unpack
  dsimp only [pickL, pickR, nthH, delH, dropH, List.cons_append, List.nil_append] at h
  refine ⟨_, _, _, rfl, ?_⟩
  refine ⟨(h.sel [0] 2), ?_⟩
  refine ⟨_, rfl, ?_⟩
  refine storeL (ys := [(Value.slice p_3 rs.length c_3)]) h 1 0 rfl rfl rfl sz27 rfl rfl ?_
  intro w h
  dsimp only [setH, setVs, setV] at h
  replace h := h.sel [1, 1] 1
  dsimp only [pickL, pickR, nthH, delH, dropH, List.cons_append, List.nil_append] at h
  exact hR rs (if ((if (1099511627776 : Int) < now_1 then 1099511627776 else now_1) : Int) > now then (if (1099511627776 : Int) < now_1 then 1099511627776 else now_1) else now) p_3 rs.length c_3 _ rfl h hp

/-! (*embrasure/vote.Box).Cast$1 (21) -/
def vote_Box_Cast_c1_wp (v_Group : Int) (v_Addr : Int) (v_Addr_1 : Int) (v_At : Int) (t : Int) (Host : Int) (Port : Int) (K : Bool → Prop) : Prop :=
  cond ((v_Group : Int) == t) (K (((v_Addr : Int) == Host) && (((v_Addr_1 : Int) == Port) && true))) (K false)
theorem vote_Box_Cast_c1_ok {b_1 : Nat} {b_2 : Nat} {v_Group : Int} {v_Addr : Int} {v_Addr_1 : Int} {v_At : Int} {t : Int} {Host : Int} {Port : Int} {FL : List HP} {w : World} {K : Bool → Prop} {R : Value → World → Prop}
  (h : Mem (cel b_1 30 [(Value.int .u32 t)] :: cel b_2 32 [(Value.int .u32 Host), (Value.int .i64 Port)] :: FL) w) (hp : vote_Box_Cast_c1_wp v_Group v_Addr v_Addr_1 v_At t Host Port K)
  (hR : ∀ (r : Bool) (w : World), Mem (cel b_1 30 [(Value.int .u32 t)] :: cel b_2 32 [(Value.int .u32 Host), (Value.int .i64 Port)] :: FL) w → K r → R (Value.bool r) w) :
  CallV Try.prog 21 #[(Value.agg #[(Value.int .u32 v_Group), (Value.int .u32 v_Addr), (Value.int .i64 v_Addr_1), (Value.int .i64 v_At)]), (Value.pointer (some (Addr.mk b_1 0 none))), (Value.pointer (some (Addr.mk b_2 0 none)))] w R := by
  refine vote_Box_Cast_c1_call ?_
  unfold vote_Box_Cast_c1
  unfold vote_Box_Cast_c1_wp at hp
  refine newL (o := [(Value.int .u32 v_Group), (Value.int .u32 v_Addr), (Value.int .i64 v_Addr_1), (Value.int .i64 v_At)]) h ?_
  intro b_3 w h
  refine ⟨_, cellL h 0 0 rfl rfl rfl, ?_⟩
  refine ⟨_, cellL h 1 0 rfl rfl rfl, ?_⟩
  refine cond_both' hp (fun hp => ?_) (fun hp => ?_)
  · replace h := h.sel [1, 1] 1
    dsimp only [pickL, pickR, nthH, delH, dropH, List.cons_append, List.nil_append] at h
    exact hR false _ h hp
  refine ⟨_, cellL h 0 1 rfl rfl rfl, _, cellL h 0 2 rfl rfl rfl, ?_⟩
  refine ⟨_, cellL h 2 0 rfl rfl rfl, _, cellL h 2 1 rfl rfl rfl, ?_⟩
  refine eqlAgg (xs := [(Value.int .u32 v_Addr), (Value.int .i64 v_Addr_1)]) (ys := [(Value.int .u32 Host), (Value.int .i64 Port)]) eqG32 eqA32 (eqT32 v_Addr v_Addr_1 Host Port) ?_
  refine ⟨_, rfl, ?_⟩
  replace h := h.sel [1, 1] 1
  dsimp only [pickL, pickR, nthH, delH, dropH, List.cons_append, List.nil_append] at h
  exact hR (((v_Addr : Int) == Host) && (((v_Addr_1 : Int) == Port) && true)) _ h hp

/-! slices.Clone[[]embrasure/api.Vote,embrasure/api.Vote] (22) -/
def slices_Clone_sl_api_Vote_api_Vote_wp (s : List (Int × Int × Int × Int)) (K : List (Int × Int × Int × Int) → Prop) : Prop :=
  ∀ (nil : Bool), (nil = true → s = []) → (cond nil (K ([] : List (Int × Int × Int × Int))) ((([] : List (Int × Int × Int × Int)).length + s.length) * 32 ≤ 140737488355328 ∧ (K (([] : List (Int × Int × Int × Int)) ++ s))))
theorem slices_Clone_sl_api_Vote_api_Vote_ok {p_1 : Option Addr} {n_1 : Nat} {c_1 : Nat} {s : List (Int × Int × Int × Int)} {FL : List HP} {w : World} {K : List (Int × Int × Int × Int) → Prop} {R : Value → World → Prop}
  (hF_s : ∀ w, Mem FL w → Rd w 4 p_1 enc46 s) (hl_s : n_1 = s.length) (hc_s : n_1 ≤ c_1)
  (h : Mem (FL) w) (hp : slices_Clone_sl_api_Vote_api_Vote_wp s K)
  (hR : ∀ (rs : List (Int × Int × Int × Int)) (p_2 : Option Addr) (n_2 : Nat) (c_2 : Nat) (w : World), n_2 = rs.length → Mem (row enc46 46 4 p_2 c_2 rs :: FL) w → K rs → R (Value.slice p_2 n_2 c_2) w) :
  CallV Try.prog 22 #[(Value.slice p_1 n_1 c_1)] w R := by
  refine slices_Clone_sl_api_Vote_api_Vote_call ?_
  unfold slices_Clone_sl_api_Vote_api_Vote
  unfold slices_Clone_sl_api_Vote_api_Vote_wp at hp
  subst hl_s
  obtain ⟨nil, hnil⟩ : ∃ b : Bool, Option.isNone p_1 = b := ⟨_, rfl⟩
  replace hp := hp nil (nilEmpty (hF_s _ (h.drop 0)) hnil)
  refine eqlSlNil und27 hnil ?_
  refine ⟨_, rfl, ?_⟩
  refine cond_both hp (fun hp => ?_) (fun hp => ?_)
  · replace h := rowNil enc46 46 4 h
    exact hR ([] : List (Int × Int × Int × Int)) (none ) 0 0 _ rfl h hp
  refine newL (o := []) h ?_
  intro b_1 w h
  have sr := (hF_s _ (h.drop 1))
  replace h := rowOfCel h 0 encL46 rfl ([] : List (Int × Int × Int × Int)) rfl
  dsimp only [setH, setVs, setV] at h
  obtain ⟨hb, hp⟩ := hp
  refine appendL slt27 und27 encL46 encO46 h 0 rfl rfl sr rfl hb ?_
  intro p_3 c_2 w h
  dsimp only [setH, setVs, setV] at h
  have cpp_3 := rowCap h 0 rfl
  refine ⟨_, _, _, rfl, ?_⟩
  exact hR (([] : List (Int × Int × Int × Int)) ++ s) p_3 ((([] : List (Int × Int × Int × Int)) ++ s).length) c_2 _ rfl h hp

/-! (*embrasure/vote.Box).Cast (9) -/
def vote_Box_Cast_wp (list : List (Int × Int × Int × Int)) (now : Int) (now_1 : Int) (by_ : Int) (a_Host : Int) (a_Port : Int) (K : Int → List (Int × Int × Int × Int) → Int → Prop) : Prop :=
  joinP1 (fun (t28 : Bool) => cond t28 (K 1 list now) (vote_Box_on_wp list now now_1 (fun (list_2 : List (Int × Int × Int × Int)) (now_3 : Int) => slices_DeleteFunc_sl_api_Vote_api_Vote_wp list_2 () (fun x_1 s K_1 => vote_Box_Cast_c1_wp x_1.1 x_1.2.1 x_1.2.2.1 x_1.2.2.2 (Int.fdiv by_ (2 ^ (min (Int.toNat 16) (IntKind.bits .u32)))) a_Host a_Port (fun (r : Bool) => K_1 r s)) (fun (rs : List (Int × Int × Int × Int)) (s_1 : (Unit)) => (rs.length + [((Int.fdiv by_ (2 ^ (min (Int.toNat 16) (IntKind.bits .u32)))), a_Host, a_Port, now_1)].length) * 32 ≤ 140737488355328 ∧ (0 ≤ ((if ((IntKind.wrap .i64 ((((rs ++ [((Int.fdiv by_ (2 ^ (min (Int.toNat 16) (IntKind.bits .u32)))), a_Host, a_Port, now_1)]).length : Nat) : Int) - 100)) : Int) > 0 then (IntKind.wrap .i64 ((((rs ++ [((Int.fdiv by_ (2 ^ (min (Int.toNat 16) (IntKind.bits .u32)))), a_Host, a_Port, now_1)]).length : Nat) : Int) - 100)) else 0) : Int) ∧ ((if ((IntKind.wrap .i64 ((((rs ++ [((Int.fdiv by_ (2 ^ (min (Int.toNat 16) (IntKind.bits .u32)))), a_Host, a_Port, now_1)]).length : Nat) : Int) - 100)) : Int) > 0 then (IntKind.wrap .i64 ((((rs ++ [((Int.fdiv by_ (2 ^ (min (Int.toNat 16) (IntKind.bits .u32)))), a_Host, a_Port, now_1)]).length : Nat) : Int) - 100)) else 0) : Int) ≤ (((rs ++ [((Int.fdiv by_ (2 ^ (min (Int.toNat 16) (IntKind.bits .u32)))), a_Host, a_Port, now_1)]).length : Nat) : Int) ∧ (slices_Clone_sl_api_Vote_api_Vote_wp (((rs ++ [((Int.fdiv by_ (2 ^ (min (Int.toNat 16) (IntKind.bits .u32)))), a_Host, a_Port, now_1)]).take (rs ++ [((Int.fdiv by_ (2 ^ (min (Int.toNat 16) (IntKind.bits .u32)))), a_Host, a_Port, now_1)]).length).drop (Int.toNat (if ((IntKind.wrap .i64 ((((rs ++ [((Int.fdiv by_ (2 ^ (min (Int.toNat 16) (IntKind.bits .u32)))), a_Host, a_Port, now_1)]).length : Nat) : Int) - 100)) : Int) > 0 then (IntKind.wrap .i64 ((((rs ++ [((Int.fdiv by_ (2 ^ (min (Int.toNat 16) (IntKind.bits .u32)))), a_Host, a_Port, now_1)]).length : Nat) : Int) - 100)) else 0))) (fun (rs_1 : List (Int × Int × Int × Int)) => K 0 rs_1 now_3))))))) (fun (Q : Bool → Prop) => cond ((by_ : Int) == 0) (Q true) (addr_May_wp a_Host a_Port (fun (r : Bool) => cond (!r) (Q true) (cond (decide ((now_1 : Int) < now)) (Q true) (Q (decide ((now_1 : Int) > 1099511627776)))))))
theorem vote_Box_Cast_ok {b_1 : Nat} {p_1 : Option Addr} {c_1 : Nat} {list : List (Int × Int × Int × Int)} {now : Int} {now_1 : Int} {by_ : Int} {a_Host : Int} {a_Port : Int} {FL : List HP} {w : World} {K : Int → List (Int × Int × Int × Int) → Int → Prop} {R : Value → World → Prop}
  (h : Mem (cel b_1 57 [(Value.slice p_1 list.length c_1), (Value.int .i64 now)] :: row enc46 46 4 p_1 c_1 list :: FL) w) (hp : vote_Box_Cast_wp list now now_1 by_ a_Host a_Port K)
  (hR : ∀ (r : Int) (list_1 : List (Int × Int × Int × Int)) (now_2 : Int) (p_2 : Option Addr) (n_1 : Nat) (c_2 : Nat) (w : World), n_1 = list_1.length → Mem (cel b_1 57 [(Value.slice p_2 n_1 c_2), (Value.int .i64 now_2)] :: row enc46 46 4 p_2 c_2 list_1 :: FL) w → K r list_1 now_2 → R (Value.int .i64 r) w) :
  CallV Try.prog 9 #[(Value.pointer (some (Addr.mk b_1 0 none))), (Value.int .i64 now_1), (Value.int .u32 by_), (Value.agg #[(Value.int .u32 a_Host), (Value.int .i64 a_Port)])] w R := by
  refine vote_Box_Cast_call ?_
  unfold vote_Box_Cast
  unfold vote_Box_Cast_wp at hp
  have cpp_1 := rowCap h 1 rfl
  refine newL (o := [(Value.int .u32 a_Host), (Value.int .i64 a_Port)]) h ?_
  intro b_2 w h
  obtain ⟨Q, hq, hp⟩ := hp
  refine ⟨fun b0 now1 by2 a7 t28 w => (some (Addr.mk b_1 0 none)) = b0 ∧ now_1 = now1 ∧ by_ = by2 ∧ (Addr.mk b_2 0 none) = a7 ∧ Q t28 ∧ Mem (cel b_2 32 [(Value.int .u32 a_Host), (Value.int .i64 a_Port)] :: cel b_1 57 [(Value.slice p_1 list.length c_1), (Value.int .i64 now)] :: row enc46 46 4 p_1 c_1 list :: FL) w, ?_, ?_⟩
  · rintro b0 now1 by2 a7 t28 w ⟨rfl, rfl, rfl, rfl, hp, h⟩
    replace hp := hq t28 hp
    unfold vote_Box_Cast_j1
    refine cond_both hp (fun hp => ?_) (fun hp => ?_)
    · replace h := h.sel [1, 1] 1
      dsimp only [pickL, pickR, nthH, delH, dropH, List.cons_append, List.nil_append] at h
      exact hR 1 list now p_1 list.length c_1 _ rfl h hp
    replace h := h.pick [1, 1]
    dsimp only [pickL, pickR, nthH, delH, dropH, List.cons_append, List.nil_append] at h
    refine vote_Box_on_ok h hp ?_
    rintro list_2 now_3 p_3 n_2 c_3 w rfl h hp
    have cpp_3 := rowCap h 1 rfl
    refine ⟨rfl, ?_⟩
    refine ⟨by decide, ?_⟩
    refine newL (o := [(Value.int .u32 0)]) h ?_
    intro b_3 w h
    refine storeL (ys := [(Value.int .u32 (Int.fdiv by_ (2 ^ (min (Int.toNat 16) (IntKind.bits .u32)))))]) h 0 0 rfl rfl rfl sz30 rfl rfl ?_
    intro w h
    dsimp only [setH, setVs, setV] at h
    refine ⟨_, rfl, ?_⟩
    refine ⟨_, _, _, cellL h 1 0 rfl rfl rfl, ?_⟩
    replace h := h.pick [0, 2]
    dsimp only [pickL, pickR, nthH, delH, dropH, List.cons_append, List.nil_append] at h
    replace h : Mem ((fun (_ : Unit) => HL [cel b_3 30 [(Value.int .u32 (Int.fdiv by_ (2 ^ (min (Int.toNat 16) (IntKind.bits .u32)))))], cel b_2 32 [(Value.int .u32 a_Host), (Value.int .i64 a_Port)]]) () :: cel b_1 57 [(Value.slice p_3 list_2.length c_3), (Value.int .i64 now_3)] :: row enc46 46 4 p_3 c_3 list_2 :: FL) _ := h.pack 2 [cel b_3 30 [(Value.int .u32 (Int.fdiv by_ (2 ^ (min (Int.toNat 16) (IntKind.bits .u32)))))], cel b_2 32 [(Value.int .u32 a_Host), (Value.int .i64 a_Port)]] rfl
    replace h := h.pick [2, 0]
    dsimp only [pickL, pickR, nthH, delH, dropH, List.cons_append, List.nil_append] at h
    refine slices_DeleteFunc_sl_api_Vote_api_Vote_ok (FL := cel b_1 57 [(Value.slice p_3 list_2.length c_3), (Value.int .i64 now_3)] :: FL) (A1 := (fun (_ : Unit) => HL [cel b_3 30 [(Value.int .u32 (Int.fdiv by_ (2 ^ (min (Int.toNat 16) (IntKind.bits .u32)))))], cel b_2 32 [(Value.int .u32 a_Host), (Value.int .i64 a_Port)]])) (Y1 := (fun x_1 s K_1 => vote_Box_Cast_c1_wp x_1.1 x_1.2.1 x_1.2.2.1 x_1.2.2.2 (Int.fdiv by_ (2 ^ (min (Int.toNat 16) (IntKind.bits .u32)))) a_Host a_Port (fun (r : Bool) => K_1 r s))) (σ1 := Unit) (s_1 := ()) ?_ rfl h hp ?_
    · intro x_1 s K FL2 w R hx h hp hR
      replace h := h.unpack
      dsimp only [pickL, pickR, nthH, delH, dropH, List.cons_append, List.nil_append] at h
      refine calleeFn (by kernel_rfl) ?_
      refine vote_Box_Cast_c1_ok h hp ?_
      intro r w h hp
      exact hR r s _ (h.pack 2 [cel b_3 30 [(Value.int .u32 (Int.fdiv by_ (2 ^ (min (Int.toNat 16) (IntKind.bits .u32)))))], cel b_2 32 [(Value.int .u32 a_Host), (Value.int .i64 a_Port)]] rfl) hp
    rintro rs s_1 p_4 n_3 c_4 w rfl h hp
    have cpp_4 := rowCap h 0 rfl
    replace h := h.pick [1]
    dsimp only [pickL, pickR, nthH, delH, dropH, List.cons_append, List.nil_append] at h
    replace h := h.unpack
    dsimp only [pickL, pickR, nthH, delH, dropH, List.cons_append, List.nil_append] at h
    refine ⟨_, _, _, rfl, ?_⟩
    refine ⟨_, rfl, ?_⟩
    refine storeL (ys := [(Value.slice p_4 rs.length c_4)]) h 3 0 rfl rfl rfl sz27 rfl rfl ?_
    intro w h
    dsimp only [setH, setVs, setV] at h
    replace h := h.drew
    refine ⟨fun w => Mem (cel b_1 57 [(Value.slice p_4 rs.length c_4), (Value.int .i64 now_3)] :: FL) w, (h.sel [3] 3), ?_⟩
    refine ⟨_, rfl, ?_⟩
    refine ⟨_, _, _, cellL h 3 0 rfl rfl rfl, ?_⟩
    refine ⟨?_, ?_⟩
    · intro w h
      change Mem _ _ at h
      refine ⟨_, _, _, cellL h 0 0 rfl rfl rfl, ?_⟩
      exact ⟨rfl, rfl⟩
    refine ⟨_, cellL h 0 0 rfl rfl rfl, ?_⟩
    refine ⟨_, cellL h 1 0 rfl rfl rfl, _, cellL h 1 1 rfl rfl rfl, ?_⟩
    refine newL (o := [(Value.int .u32 (Int.fdiv by_ (2 ^ (min (Int.toNat 16) (IntKind.bits .u32))))), (Value.int .u32 a_Host), (Value.int .i64 a_Port), (Value.int .i64 now_1)]) h ?_
    intro b_4 w h
    refine ⟨(h.sel [4] 4), ?_⟩
    have sr := (celRd h 0 encL46 rfl [((Int.fdiv by_ (2 ^ (min (Int.toNat 16) (IntKind.bits .u32)))), a_Host, a_Port, now_1)] rfl)
    obtain ⟨hb, hp⟩ := hp
    refine appendL slt27 und27 encL46 encO46 h 3 rfl rfl sr rfl hb ?_
    intro p_5 c_5 w h
    dsimp only [setH, setVs, setV] at h
    have cpp_5 := rowCap h 3 rfl
    refine ⟨_, _, _, rfl, ?_⟩
    refine ⟨_, rfl, ?_⟩
    refine storeL (ys := [(Value.slice p_5 (rs ++ [((Int.fdiv by_ (2 ^ (min (Int.toNat 16) (IntKind.bits .u32)))), a_Host, a_Port, now_1)]).length c_5)]) h 4 0 rfl rfl rfl sz27 rfl rfl ?_
    intro w h
    dsimp only [setH, setVs, setV] at h
    replace h := h.drew
    refine ⟨fun w => Mem (cel b_1 57 [(Value.slice p_5 (rs ++ [((Int.fdiv by_ (2 ^ (min (Int.toNat 16) (IntKind.bits .u32)))), a_Host, a_Port, now_1)]).length c_5), (Value.int .i64 now_3)] :: FL) w, (h.sel [4] 4), ?_⟩
    refine ⟨_, rfl, ?_⟩
    refine ⟨_, _, _, cellL h 4 0 rfl rfl rfl, ?_⟩
    refine ⟨_, rfl, ?_⟩
    refine ⟨_, _, _, cellL h 4 0 rfl rfl rfl, ?_⟩
    refine ⟨?_, ?_⟩
    · intro w h
      change Mem _ _ at h
      refine ⟨_, _, _, cellL h 0 0 rfl rfl rfl, ?_⟩
      exact ⟨rfl, rfl⟩
    refine ⟨rfl, ?_⟩
    obtain ⟨g_1la, g_1lb, hp⟩ := hp
    have vg_1_lh : (Int.toNat (if ((IntKind.wrap .i64 ((((rs ++ [((Int.fdiv by_ (2 ^ (min (Int.toNat 16) (IntKind.bits .u32)))), a_Host, a_Port, now_1)]).length : Nat) : Int) - 100)) : Int) > 0 then (IntKind.wrap .i64 ((((rs ++ [((Int.fdiv by_ (2 ^ (min (Int.toNat 16) (IntKind.bits .u32)))), a_Host, a_Port, now_1)]).length : Nat) : Int) - 100)) else 0)) ≤ (rs ++ [((Int.fdiv by_ (2 ^ (min (Int.toNat 16) (IntKind.bits .u32)))), a_Host, a_Port, now_1)]).length := (natLe g_1la g_1lb)
    have vg_1_hm : (rs ++ [((Int.fdiv by_ (2 ^ (min (Int.toNat 16) (IntKind.bits .u32)))), a_Host, a_Port, now_1)]).length ≤ c_5 := cpp_5
    have vg_1_mc : c_5 ≤ c_5 := (Nat.le_refl _)
    have vg_1_hl : (rs ++ [((Int.fdiv by_ (2 ^ (min (Int.toNat 16) (IntKind.bits .u32)))), a_Host, a_Port, now_1)]).length ≤ (rs ++ [((Int.fdiv by_ (2 ^ (min (Int.toNat 16) (IntKind.bits .u32)))), a_Host, a_Port, now_1)]).length := (Nat.le_of_eq rfl)
    refine ⟨g_1la, g_1lb, ?_⟩
    refine slices_Clone_sl_api_Vote_api_Vote_ok (FL := cel b_4 46 [(Value.int .u32 (Int.fdiv by_ (2 ^ (min (Int.toNat 16) (IntKind.bits .u32))))), (Value.int .u32 a_Host), (Value.int .i64 a_Port), (Value.int .i64 now_1)] :: cel b_3 30 [(Value.int .u32 (Int.fdiv by_ (2 ^ (min (Int.toNat 16) (IntKind.bits .u32)))))] :: cel b_2 32 [(Value.int .u32 a_Host), (Value.int .i64 a_Port)] :: row enc46 46 4 p_5 c_5 (rs ++ [((Int.fdiv by_ (2 ^ (min (Int.toNat 16) (IntKind.bits .u32)))), a_Host, a_Port, now_1)]) :: cel b_1 57 [(Value.slice p_5 (rs ++ [((Int.fdiv by_ (2 ^ (min (Int.toNat 16) (IntKind.bits .u32)))), a_Host, a_Port, now_1)]).length c_5), (Value.int .i64 now_3)] :: FL) (fun w h => (Rd.view (rowRd h 3 encL46 rfl) (l := (Int.toNat (if ((IntKind.wrap .i64 ((((rs ++ [((Int.fdiv by_ (2 ^ (min (Int.toNat 16) (IntKind.bits .u32)))), a_Host, a_Port, now_1)]).length : Nat) : Int) - 100)) : Int) > 0 then (IntKind.wrap .i64 ((((rs ++ [((Int.fdiv by_ (2 ^ (min (Int.toNat 16) (IntKind.bits .u32)))), a_Host, a_Port, now_1)]).length : Nat) : Int) - 100)) else 0))) (h := (rs ++ [((Int.fdiv by_ (2 ^ (min (Int.toNat 16) (IntKind.bits .u32)))), a_Host, a_Port, now_1)]).length) (m := c_5) vg_1_hm)) (viewLen vg_1_hl) (Nat.sub_le_sub_right vg_1_hm _) h hp ?_
    rintro rs_1 p_6 n_4 c_6 w rfl h hp
    have cpp_6 := rowCap h 0 rfl
    refine ⟨_, _, _, rfl, ?_⟩
    refine ⟨(h.sel [5] 5), ?_⟩
    refine ⟨_, rfl, ?_⟩
    refine storeL (ys := [(Value.slice p_6 rs_1.length c_6)]) h 5 0 rfl rfl rfl sz27 rfl rfl ?_
    intro w h
    dsimp only [setH, setVs, setV] at h
    replace h := h.sel [5, 0] 4
    dsimp only [pickL, pickR, nthH, delH, dropH, List.cons_append, List.nil_append] at h
    exact hR 0 rs_1 now_3 p_6 rs_1.length c_6 _ rfl h hp
  clear hq
  refine cond_both hp (fun hp => ?_) (fun hp => ?_)
  · exact ⟨rfl, rfl, rfl, rfl, hp, h⟩
  refine ⟨_, cellL h 0 0 rfl rfl rfl, _, cellL h 0 1 rfl rfl rfl, ?_⟩
  refine addr_May_ok h hp ?_
  intro r w h hp
  refine ⟨_, rfl, ?_⟩
  refine cond_both hp (fun hp => ?_) (fun hp => ?_)
  · exact ⟨rfl, rfl, rfl, rfl, hp, h⟩
  refine ⟨_, rfl, ?_⟩
  refine ⟨_, cellL h 1 1 rfl rfl rfl, ?_⟩
  refine cond_both hp (fun hp => ?_) (fun hp => ?_)
  · exact ⟨rfl, rfl, rfl, rfl, hp, h⟩
  exact ⟨rfl, rfl, rfl, rfl, hp, h⟩

/-! slices.Values[[]embrasure/api.Vote,embrasure/api.Vote]$1 (40) -/
def slices_Values_sl_api_Vote_api_Vote__c1_wp {σ0 : Type} (s : σ0) (Y0 : (Int × Int × Int × Int) → σ0 → (Bool → σ0 → Prop) → Prop) (t : List (Int × Int × Int × Int)) (K : σ0 → Prop) : Prop :=
  ∃ (I : Nat → Int → σ0 → Prop), (∃ (n_4 : Nat), I n_4 0 s) ∧ ∀ (n_2 : Nat) (t7 : Int) (s_2 : σ0), I n_2 t7 s_2 → (cond (decide ((t7 : Int) < ((t.length : Nat) : Int))) (0 ≤ (t7 : Int) ∧ (t7 : Int) < ((t.length : Nat) : Int) ∧ (∀ (x_1 : Int × Int × Int × Int), t[Int.toNat t7]? = some x_1 → (Y0 x_1 s_2 (fun (t13 : Bool) (s_3 : σ0) => cond (!t13) (K s_3) (∃ (n_3 : Nat), n_3 < n_2 ∧ I n_3 (IntKind.wrap .i64 (t7 + 1)) s_3))))) (K s_2))
theorem slices_Values_sl_api_Vote_api_Vote__c1_ok {σ0 : Type} {A0 : σ0 → HP} {ff0 : Fn} {fa0 : Array Value} {fc0 : Array Value} {b_1 : Nat} {p_1 : Option Addr} {n_1 : Nat} {c_1 : Nat} {s : σ0} {Y0 : (Int × Int × Int × Int) → σ0 → (Bool → σ0 → Prop) → Prop} {t : List (Int × Int × Int × Int)} {FL : List HP} {w : World} {K : σ0 → Prop} {R : Value → World → Prop}
  (hY0 : ∀ (x0 : Int × Int × Int × Int) (s : σ0) (K : Bool → σ0 → Prop) (FL2 : List HP) (w : World) (R : Value → World → Prop), (∀ w, Mem FL2 w → Mem FL w) → Mem (A0 s :: FL2) w → Y0 x0 s K → (∀ (r : Bool) (s : σ0) (w : World), Mem (A0 s :: FL2) w → K r s → R (Value.bool r) w) → CalleeV Try.prog (Value.func ff0 fa0 fc0) #[(Value.agg #[(Value.int .u32 x0.1), (Value.int .u32 x0.2.1), (Value.int .i64 x0.2.2.1), (Value.int .i64 x0.2.2.2)])] w R)
  (hF_t : ∀ w, Mem FL w → Rd w 4 p_1 enc46 t) (hl_t : n_1 = t.length) (hc_t : n_1 ≤ c_1)
  (h : Mem (cel b_1 27 [(Value.slice p_1 n_1 c_1)] :: A0 s :: FL) w) (hp : slices_Values_sl_api_Vote_api_Vote__c1_wp s Y0 t K)
  (hR : ∀ (s_1 : σ0) (w : World), Mem (cel b_1 27 [(Value.slice p_1 t.length c_1)] :: A0 s_1 :: FL) w → K s_1 → R undef w) :
  CallV Try.prog 40 #[(Value.func ff0 fa0 fc0), (Value.pointer (some (Addr.mk b_1 0 none)))] w R := by
  refine slices_Values_sl_api_Vote_api_Vote__c1_call ?_
  unfold slices_Values_sl_api_Vote_api_Vote__c1
  unfold slices_Values_sl_api_Vote_api_Vote__c1_wp at hp
  subst hl_t
  refine ⟨_, _, _, cellL h 0 0 rfl rfl rfl, ?_⟩
  obtain ⟨I, ⟨n_4, h0⟩, hq⟩ := hp
  refine ⟨fun n_2 yield0 t5p t5l t5c t6 t7 w => ∃ (s_2 : σ0), (Value.func ff0 fa0 fc0) = yield0 ∧ p_1 = t5p ∧ t.length = t5l ∧ c_1 = t5c ∧ ((t.length : Nat) : Int) = t6 ∧ I n_2 t7 s_2 ∧ Mem (cel b_1 27 [(Value.slice p_1 t.length c_1)] :: A0 s_2 :: FL) w, ⟨n_4, s, rfl, rfl, rfl, rfl, rfl, h0, h⟩, ?_⟩
  clear h0 h
  rintro n_2 yield0 t5p t5l t5c t6 t7 w ⟨s_2, rfl, rfl, rfl, rfl, rfl, hp, h⟩
  replace hp := hq n_2 t7 s_2 hp
  clear hq
  unfold slices_Values_sl_api_Vote_api_Vote__c1_l1
  refine cond_both' hp (fun hp => ?_) (fun hp => ?_)
  · exact hR s_2 _ h hp
  obtain ⟨ia_1, ja_1, hp⟩ := hp
  obtain ⟨a_1, ha_1⟩ := rdAddr (hF_t _ (h.drop 2)) rfl ia_1 ja_1
  refine ⟨a_1, ha_1, ia_1, ja_1, ?_⟩
  obtain ⟨x_1, hx_1, hc⟩ := rdCell (hF_t _ (h.drop 2)) ha_1 rfl ia_1 ja_1
  replace hp := hp x_1 hx_1
  refine ⟨_, hc 0 _ rfl, _, hc 1 _ rfl, _, hc 2 _ rfl, _, hc 3 _ rfl, ?_⟩
  refine newL (o := [(Value.int .u32 0), (Value.int .u32 0), (Value.int .i64 0), (Value.int .i64 0)]) h ?_
  intro b_2 w h
  refine storeL (ys := [(Value.int .u32 x_1.1), (Value.int .u32 x_1.2.1), (Value.int .i64 x_1.2.2.1), (Value.int .i64 x_1.2.2.2)]) h 0 0 rfl rfl rfl sz46 rfl rfl ?_
  intro w h
  dsimp only [setH, setVs, setV] at h
  refine ⟨_, cellL h 0 0 rfl rfl rfl, _, cellL h 0 1 rfl rfl rfl, _, cellL h 0 2 rfl rfl rfl, _, cellL h 0 3 rfl rfl rfl, ?_⟩
  replace h := h.pick [2]
  dsimp only [pickL, pickR, nthH, delH, dropH, List.cons_append, List.nil_append] at h
  refine hY0 x_1 _ _ (cel b_2 46 [(Value.int .u32 x_1.1), (Value.int .u32 x_1.2.1), (Value.int .i64 x_1.2.2.1), (Value.int .i64 x_1.2.2.2)] :: cel b_1 27 [(Value.slice p_1 t.length c_1)] :: FL) _ _ (fun _ h => Mem.drop 2 h) h hp ?_
  intro t13 s_3 w h hp
  refine ⟨_, rfl, ?_⟩
  refine cond_both hp (fun hp => ?_) (fun hp => ?_)
  · replace h := h.sel [2, 0] 1
    dsimp only [pickL, pickR, nthH, delH, dropH, List.cons_append, List.nil_append] at h
    exact hR s_3 _ h hp
  replace h := h.sel [2, 0] 1
  dsimp only [pickL, pickR, nthH, delH, dropH, List.cons_append, List.nil_append] at h
  obtain ⟨n_3, hn, hp⟩ := hp
  exact ⟨n_3, hn, s_3, rfl, rfl, rfl, rfl, rfl, hp, h⟩

/-! slices.Values[[]embrasure/api.Vote,embrasure/api.Vote] (33) -/
def slices_Values_sl_api_Vote_api_Vote_wp (s : List (Int × Int × Int × Int)) (K : Prop) : Prop :=
  K 
theorem slices_Values_sl_api_Vote_api_Vote_ok {p_1 : Option Addr} {n_1 : Nat} {c_1 : Nat} {s : List (Int × Int × Int × Int)} {FL : List HP} {w : World} {K : Prop} {R : Value → World → Prop}
  (hF_s : ∀ w, Mem FL w → Rd w 4 p_1 enc46 s) (hl_s : n_1 = s.length) (hc_s : n_1 ≤ c_1)
  (h : Mem (FL) w) (hp : slices_Values_sl_api_Vote_api_Vote_wp s K)
  (hR : ∀ (b_1 : Nat) (w : World), Mem (cel b_1 27 [(Value.slice p_1 n_1 c_1)] :: FL) w → K  → R (Value.func (Fn.func 40) #[] #[(Value.pointer (some (Addr.mk b_1 0 none)))]) w) :
  CallV Try.prog 33 #[(Value.slice p_1 n_1 c_1)] w R := by
  refine slices_Values_sl_api_Vote_api_Vote_call ?_
  unfold slices_Values_sl_api_Vote_api_Vote
  unfold slices_Values_sl_api_Vote_api_Vote_wp at hp
  subst hl_s
  refine newL (o := [(Value.slice p_1 s.length c_1)]) h ?_
  intro b_1 w h
  exact hR b_1 _ h hp

/-! (*embrasure/vote.Box).All (17) -/
def vote_Box_All_wp (list : List (Int × Int × Int × Int)) (now : Int) (now_1 : Int) (K : List (Int × Int × Int × Int) → List (Int × Int × Int × Int) → Int → Prop) : Prop :=
  vote_Box_on_wp list now now_1 (fun (list_2 : List (Int × Int × Int × Int)) (now_3 : Int) => slices_Clone_sl_api_Vote_api_Vote_wp list_2 (fun (rs : List (Int × Int × Int × Int)) => slices_Values_sl_api_Vote_api_Vote_wp rs (K rs list_2 now_3)))
theorem vote_Box_All_ok {b_1 : Nat} {p_1 : Option Addr} {c_1 : Nat} {list : List (Int × Int × Int × Int)} {now : Int} {now_1 : Int} {FL : List HP} {w : World} {K : List (Int × Int × Int × Int) → List (Int × Int × Int × Int) → Int → Prop} {R : Value → World → Prop}
  (h : Mem (cel b_1 57 [(Value.slice p_1 list.length c_1), (Value.int .i64 now)] :: row enc46 46 4 p_1 c_1 list :: FL) w) (hp : vote_Box_All_wp list now now_1 K)
  (hR : ∀ (x_1 : List (Int × Int × Int × Int)) (list_1 : List (Int × Int × Int × Int)) (now_2 : Int) (b_2 : Nat) (p_3 : Option Addr) (n_2 : Nat) (c_3 : Nat) (p_2 : Option Addr) (n_1 : Nat) (c_2 : Nat) (w : World), n_2 = x_1.length → n_1 = list_1.length → Mem (cel b_2 27 [(Value.slice p_3 n_2 c_3)] :: row enc46 46 4 p_3 c_3 x_1 :: cel b_1 57 [(Value.slice p_2 n_1 c_2), (Value.int .i64 now_2)] :: row enc46 46 4 p_2 c_2 list_1 :: FL) w → K x_1 list_1 now_2 → R (Value.func (Fn.func 40) #[] #[(Value.pointer (some (Addr.mk b_2 0 none)))]) w) :
  CallV Try.prog 17 #[(Value.pointer (some (Addr.mk b_1 0 none))), (Value.int .i64 now_1)] w R := by
  refine vote_Box_All_call ?_
  unfold vote_Box_All
  unfold vote_Box_All_wp at hp
  have cpp_1 := rowCap h 1 rfl
  refine vote_Box_on_ok h hp ?_
  rintro list_2 now_3 p_3 n_2 c_3 w rfl h hp
  have cpp_3 := rowCap h 1 rfl
  refine ⟨rfl, ?_⟩
  refine ⟨_, rfl, ?_⟩
  refine ⟨_, _, _, cellL h 0 0 rfl rfl rfl, ?_⟩
  refine slices_Clone_sl_api_Vote_api_Vote_ok (FL := cel b_1 57 [(Value.slice p_3 list_2.length c_3), (Value.int .i64 now_3)] :: row enc46 46 4 p_3 c_3 list_2 :: FL) (fun w h => (rowRd h 1 encL46 rfl)) rfl cpp_3 h hp ?_
  rintro rs p_4 n_3 c_4 w rfl h hp
  have cpp_4 := rowCap h 0 rfl
  refine ⟨_, _, _, rfl, ?_⟩
  refine slices_Values_sl_api_Vote_api_Vote_ok (FL := row enc46 46 4 p_4 c_4 rs :: cel b_1 57 [(Value.slice p_3 list_2.length c_3), (Value.int .i64 now_3)] :: row enc46 46 4 p_3 c_3 list_2 :: FL) (fun w h => (rowRd h 0 encL46 rfl)) rfl cpp_4 h hp ?_
  intro b_2 w h hp
  refine ⟨_, _, _, rfl, ?_⟩
  exact hR rs list_2 now_3 b_2 p_4 rs.length c_4 p_3 list_2.length c_3 _ rfl rfl h hp

/-! (*embrasure/vote.Box).counts (25) -/
def vote_Box_counts_wp (list : List (Int × Int × Int × Int)) (now : Int) (now_1 : Int) (K : List ((Int × Int) × Int) → List (Int × Int × Int × Int) → Int → Prop) : Prop :=
  joinP3 (fun (list_2 : List (Int × Int × Int × Int)) (now_3 : Int) (m_1 : List ((Int × Int) × Int)) => K m_1 list_2 now_3) (fun (Q : List (Int × Int × Int × Int) → Int → List ((Int × Int) × Int) → Prop) => vote_Box_All_wp list now now_1 (fun (x_1 : List (Int × Int × Int × Int)) (list_3 : List (Int × Int × Int × Int)) (now_4 : Int) => slices_Values_sl_api_Vote_api_Vote__c1_wp (0, ([] : List ((Int × Int) × Int))) (fun x_2 (s : Nat × (List ((Int × Int) × Int))) K_1 => s.1 = 0 ∧ (K_1 true (0, (mapPut s.2 (x_2.2.1, x_2.2.2.1) (IntKind.wrap .i64 ((mapGet s.2 (x_2.2.1, x_2.2.2.1) 0) + 1)))))) x_1 (fun (s_1 : (Nat × (List ((Int × Int) × Int)))) => (s_1.1 = 0 ∧ (Q list_3 now_4 s_1.2)))))
theorem vote_Box_counts_ok {b_1 : Nat} {p_1 : Option Addr} {c_1 : Nat} {list : List (Int × Int × Int × Int)} {now : Int} {now_1 : Int} {FL : List HP} {w : World} {K : List ((Int × Int) × Int) → List (Int × Int × Int × Int) → Int → Prop} {R : Value → World → Prop}
  (h : Mem (cel b_1 57 [(Value.slice p_1 list.length c_1), (Value.int .i64 now)] :: row enc46 46 4 p_1 c_1 list :: FL) w) (hp : vote_Box_counts_wp list now now_1 K)
  (hR : ∀ (rm : List ((Int × Int) × Int)) (list_1 : List (Int × Int × Int × Int)) (now_2 : Int) (b_2 : Nat) (p_3 : List MapEntry × Nat) (p_2 : Option Addr) (n_1 : Nat) (c_2 : Nat) (w : World), n_1 = list_1.length → Mem (mapQ b_2 va32 va3 p_3 rm :: cel b_1 57 [(Value.slice p_2 n_1 c_2), (Value.int .i64 now_2)] :: row enc46 46 4 p_2 c_2 list_1 :: FL) w → K rm list_1 now_2 → R (Value.map (some b_2)) w) :
  CallV Try.prog 25 #[(Value.pointer (some (Addr.mk b_1 0 none))), (Value.int .i64 now_1)] w R := by
  refine vote_Box_counts_call ?_
  unfold vote_Box_counts
  unfold vote_Box_counts_wp at hp
  have cpp_1 := rowCap h 1 rfl
  replace h := marksNil h
  refine makeMapL (ek := va32) (ev := va3) h ?_
  intro b_2 p_3 w h
  refine ⟨_, rfl, ?_⟩
  refine newL (o := [(Value.map none)]) h ?_
  intro b_3 w h
  refine storeL (ys := [(Value.map (some b_2))]) h 0 0 rfl rfl rfl sz63 rfl rfl ?_
  intro w h
  dsimp only [setH, setVs, setV] at h
  obtain ⟨Q, hq, hp⟩ := hp
  refine ⟨fun out5 m_2 w => ∃ (list_2 : List (Int × Int × Int × Int)), ∃ (p_4 : Option Addr), ∃ (n_2 : Nat), ∃ (c_3 : Nat), ∃ (now_3 : Int), ∃ (m_1 : List ((Int × Int) × Int)), ∃ (p_5 : List MapEntry × Nat), (Addr.mk b_3 0 none) = out5 ∧ n_2 = list_2.length ∧ Q list_2 now_3 m_1 ∧ Mem (cel b_3 63 [(Value.map (some b_2))] :: cel b_1 57 [(Value.slice p_4 n_2 c_3), (Value.int .i64 now_3)] :: row enc46 46 4 p_4 c_3 list_2 :: mapQ b_2 va32 va3 p_5 m_1 :: marksP m_2 :: FL) w, ?_, ?_⟩
  · rintro out5 m_2 w ⟨list_2, p_4, n_2, c_3, now_3, m_1, p_5, rfl, rfl, hp, h⟩
    replace hp := hq list_2 now_3 m_1 hp
    unfold vote_Box_counts_j1
    have cpp_4 := rowCap h 2 rfl
    refine ⟨_, cellL h 0 0 rfl rfl rfl, ?_⟩
    replace h := h.pick [4]
    dsimp only [pickL, pickR, nthH, delH, dropH, List.cons_append, List.nil_append] at h
    refine finishMarks _ h ?_
    intro w h
    replace h := h.sel [3, 1, 1] 1
    dsimp only [pickL, pickR, nthH, delH, dropH, List.cons_append, List.nil_append] at h
    exact hR m_1 list_2 now_3 b_2 p_5 p_4 list_2.length c_3 _ rfl h hp
  clear hq
  replace h := h.pick [3, 3]
  dsimp only [pickL, pickR, nthH, delH, dropH, List.cons_append, List.nil_append] at h
  refine vote_Box_All_ok h hp ?_
  rintro x_1 list_3 now_4 b_4 p_6 n_3 c_4 p_7 n_4 c_5 w rfl rfl h hp
  have cpp_6 := rowCap h 1 rfl
  have cpp_7 := rowCap h 3 rfl
  refine ⟨_, _, _, rfl, ?_⟩
  intro e_1 fn_e_1 he_e_1 hr_e_1
  refine newO h ?_
  intro d w h
  refine newO h ?_
  intro l_1 w h
  replace h := h.pick [1, 7]
  dsimp only [pickL, pickR, nthH, delH, dropH, List.cons_append, List.nil_append] at h
  replace h := marksPush h
  show rangeCallW _ (Value.func (Fn.func 40) _ _) _ _ _
  refine rangeCallFn (by kernel_rfl) ?_
  replace h := h.pick [1, 3, 3, 3, 3]
  dsimp only [pickL, pickR, nthH, delH, dropH, List.cons_append, List.nil_append] at h
  replace h : Mem ((fun (s : Nat × (List ((Int × Int) × Int))) => exH fun (p_8 : List MapEntry × Nat) => HL [pt l_1 (loopS (vote_Box_counts_lo1 fn_e_1 e_1 d) s.1 (fun (n : Nat) => (none : Option Code))), cel b_1 57 [(Value.slice p_7 list_3.length c_5), (Value.int .i64 now_4)], row enc46 46 4 p_7 c_5 list_3, cel b_3 63 [(Value.map (some b_2))], mapQ b_2 va32 va3 p_8 s.2]) (0, ([] : List ((Int × Int) × Int))) :: marksP (d :: []) :: cel b_4 27 [(Value.slice p_6 x_1.length c_4)] :: row enc46 46 4 p_6 c_4 x_1 :: FL) _ := Mem.exsI p_3 (h.pack 5 [pt l_1 (loopS (vote_Box_counts_lo1 fn_e_1 e_1 d) 0 (fun (n : Nat) => (none : Option Code))), cel b_1 57 [(Value.slice p_7 list_3.length c_5), (Value.int .i64 now_4)], row enc46 46 4 p_7 c_5 list_3, cel b_3 63 [(Value.map (some b_2))], mapQ b_2 va32 va3 p_3 ([] : List ((Int × Int) × Int))] rfl)
  replace h := h.pick [2, 0]
  dsimp only [pickL, pickR, nthH, delH, dropH, List.cons_append, List.nil_append] at h
  refine slices_Values_sl_api_Vote_api_Vote__c1_ok (FL := marksP (d :: []) :: row enc46 46 4 p_6 c_4 x_1 :: FL) (A0 := (fun (s : Nat × (List ((Int × Int) × Int))) => exH fun (p_8 : List MapEntry × Nat) => HL [pt l_1 (loopS (vote_Box_counts_lo1 fn_e_1 e_1 d) s.1 (fun (n : Nat) => (none : Option Code))), cel b_1 57 [(Value.slice p_7 list_3.length c_5), (Value.int .i64 now_4)], row enc46 46 4 p_7 c_5 list_3, cel b_3 63 [(Value.map (some b_2))], mapQ b_2 va32 va3 p_8 s.2])) (Y0 := (fun x_2 (s : Nat × (List ((Int × Int) × Int))) K_1 => s.1 = 0 ∧ (K_1 true (0, (mapPut s.2 (x_2.2.1, x_2.2.2.1) (IntKind.wrap .i64 ((mapGet s.2 (x_2.2.1, x_2.2.2.1) 0) + 1))))))) (σ0 := Nat × (List ((Int × Int) × Int))) (s := (0, ([] : List ((Int × Int) × Int)))) ?_ (fun w h => (rowRd h 1 encL46 rfl)) rfl cpp_6 h hp ?_
  · intro x_2 s K_1 FL2 w R hx h hp hR
    obtain ⟨p_8, h⟩ := Mem.exs h
    replace h := h.unpack
    dsimp only [pickL, pickR, nthH, delH, dropH, List.cons_append, List.nil_append] at h
    obtain ⟨hst, hp⟩ := hp
    refine vote_Box_counts_r1_yield (by have := objAt h 0 rfl; rw [hst] at this; exact this) he_e_1 hr_e_1 ?_
    unfold vote_Box_counts_r1
    refine newL (o := [(Value.int .u32 0), (Value.int .u32 0), (Value.int .i64 0), (Value.int .i64 0)]) h ?_
    intro b_5 w h
    refine storeL (ys := [(Value.int .u32 x_2.1), (Value.int .u32 x_2.2.1), (Value.int .i64 x_2.2.2.1), (Value.int .i64 x_2.2.2.2)]) h 0 0 rfl rfl rfl sz46 rfl rfl ?_
    intro w h
    dsimp only [setH, setVs, setV] at h
    refine ⟨_, (by have := objAt h 1 rfl; rw [hst] at this; exact this : _ = some (Obj.loop (vote_Box_counts_lo1 fn_e_1 e_1 d))), rfl, ?_⟩
    replace h := h.putK 1 rfl (.loop { vote_Box_counts_lo1 fn_e_1 e_1 d with state := .busy })
    dsimp only [setH] at h
    replace h := h.drew
    refine ⟨fun w => ∃ (p_ : List MapEntry × Nat) (m_ : List ((Int × Int) × Int)), (∀ (k_ : Int × Int), mapGet m_ k_ 0 = mapGet s.2 k_ 0) ∧ Mem (mapQ b_2 va32 va3 p_ m_ :: FL2) w, ⟨p_8, s.2, fun _ => rfl, (h.sel [5] 5)⟩, ?_⟩
    refine ⟨_, cellL h 4 0 rfl rfl rfl, ?_⟩
    refine ⟨_, cellL h 0 1 rfl rfl rfl, _, cellL h 0 2 rfl rfl rfl, ?_⟩
    refine lookW (k := (x_2.2.1, x_2.2.2.1)) (d := 0) (mapAt h 5 rfl) mu63 kt32 (fun w => run_zeroValue zr3) ?_
    refine ⟨_, rfl, ?_⟩
    refine ⟨?_, ?_⟩
    · intro w h
      obtain ⟨p_, m_, hm_, h⟩ := h
      change Mem _ _ at h
      refine lookW (k := (x_2.2.1, x_2.2.2.1)) (d := 0) (mapAt h 0 rfl) mu63 kt32 (fun w => run_zeroValue zr3) ?_
      refine ⟨_, rfl, ?_⟩
      exact ⟨by first | rfl | rw [hm_], rfl⟩
    refine mapEntG (k := (x_2.2.1, x_2.2.2.1)) (d := 0) h 5 rfl mu63 kt32 (fun w => run_zeroValue zr3) ?_
    intro p_9 st w hst h
    dsimp only [setH, setVs, setV] at h
    refine ⟨⟨p_9, (mapEnt s.2 (x_2.2.1, x_2.2.2.1) 0), fun k_ => mapGet_ent k_, (h.sel [5] 5)⟩, ?_⟩
    refine ⟨_, rfl, ?_⟩
    refine entryStoreG (d := 0) (v := (IntKind.wrap .i64 ((mapGet s.2 (x_2.2.1, x_2.2.2.1) 0) + 1))) hst h 5 rfl ?_
    intro p_10 w h
    dsimp only [setH, setVs, setV] at h
    refine ⟨_, objAt h 1 rfl, ?_⟩
    replace h := h.putK 1 rfl (loopS (vote_Box_counts_lo1 fn_e_1 e_1 d) 0 (fun (n : Nat) => (none : Option Code)))
    dsimp only [setH] at h
    replace h := h.pick [1]
    dsimp only [pickL, pickR, nthH, delH, dropH, List.cons_append, List.nil_append] at h
    replace h := h.sel [0, 1, 1, 1, 1] 1
    dsimp only [pickL, pickR, nthH, delH, dropH, List.cons_append, List.nil_append] at h
    exact hR true (0, (mapPut s.2 (x_2.2.1, x_2.2.2.1) (IntKind.wrap .i64 ((mapGet s.2 (x_2.2.1, x_2.2.2.1) 0) + 1)))) _ (Mem.exsI p_10 (h.pack 5 [pt l_1 (loopS (vote_Box_counts_lo1 fn_e_1 e_1 d) 0 (fun (n : Nat) => (none : Option Code))), cel b_1 57 [(Value.slice p_7 list_3.length c_5), (Value.int .i64 now_4)], row enc46 46 4 p_7 c_5 list_3, cel b_3 63 [(Value.map (some b_2))], mapQ b_2 va32 va3 p_10 (mapPut s.2 (x_2.2.1, x_2.2.2.1) (IntKind.wrap .i64 ((mapGet s.2 (x_2.2.1, x_2.2.2.1) 0) + 1)))] rfl)) hp
  intro s_1 w h hp
  replace h := h.pick [1]
  dsimp only [pickL, pickR, nthH, delH, dropH, List.cons_append, List.nil_append] at h
  obtain ⟨p_11, h⟩ := Mem.exs h
  replace h := h.unpack
  dsimp only [pickL, pickR, nthH, delH, dropH, List.cons_append, List.nil_append] at h
  refine ⟨_, objAt h 0 rfl, loopS_ns _, ?_⟩
  replace h := h.putK 0 rfl (.loop { vote_Box_counts_lo1 fn_e_1 e_1 d with state := .exhausted, pending := (fun (n : Nat) => (none : Option Code)) s_1.1 })
  dsimp only [setH] at h
  obtain ⟨hst, hp⟩ := hp
  refine ⟨congrArg (fun (n : Nat) => (none : Option Code)) hst, ?_⟩
  replace h := h.sel [3, 1, 1, 1, 2] 3
  dsimp only [pickL, pickR, nthH, delH, dropH, List.cons_append, List.nil_append] at h
  exact ⟨list_3, p_7, list_3.length, c_5, now_4, s_1.2, p_11, rfl, rfl, hp, h⟩

/-! cmp.isNaN[int] (38) -/
def cmp_isNaN_int_wp (x_1 : Int) (K : Bool → Prop) : Prop :=
  K ((x_1 : Int) != x_1)
theorem cmp_isNaN_int_ok {x_1 : Int} {FL : List HP} {w : World} {K : Bool → Prop} {R : Value → World → Prop}
  (h : Mem (FL) w) (hp : cmp_isNaN_int_wp x_1 K)
  (hR : ∀ (r : Bool) (w : World), Mem (FL) w → K r → R (Value.bool r) w) :
  CallV Try.prog 38 #[(Value.int .i64 x_1)] w R := by
  refine cmp_isNaN_int_call ?_
  unfold cmp_isNaN_int
  unfold cmp_isNaN_int_wp at hp
  exact hR ((x_1 : Int) != x_1) _ h hp

/-! cmp.Compare[int] (29) -/
def cmp_Compare_int_wp (x_1 : Int) (y : Int) (K : Int → Prop) : Prop :=
  cmp_isNaN_int_wp x_1 (fun (r : Bool) => cmp_isNaN_int_wp y (fun (r_1 : Bool) => cond r (cond r_1 (K 0) (K (-1))) (cond r_1 (K 1) (cond (decide ((x_1 : Int) < y)) (K (-1)) (cond (decide ((x_1 : Int) > y)) (K 1) (K 0))))))
theorem cmp_Compare_int_ok {x_1 : Int} {y : Int} {FL : List HP} {w : World} {K : Int → Prop} {R : Value → World → Prop}
  (h : Mem (FL) w) (hp : cmp_Compare_int_wp x_1 y K)
  (hR : ∀ (r : Int) (w : World), Mem (FL) w → K r → R (Value.int .i64 r) w) :
  CallV Try.prog 29 #[(Value.int .i64 x_1), (Value.int .i64 y)] w R := by
  refine cmp_Compare_int_call ?_
  unfold cmp_Compare_int
  unfold cmp_Compare_int_wp at hp
  refine cmp_isNaN_int_ok h hp ?_
  intro r w h hp
  refine ⟨_, rfl, ?_⟩
  refine cmp_isNaN_int_ok h hp ?_
  intro r_1 w h hp
  refine ⟨_, rfl, ?_⟩
  refine cond_both hp (fun hp => ?_) (fun hp => ?_)
  · refine cond_both hp (fun hp => ?_) (fun hp => ?_)
    · exact hR 0 _ h hp
    exact hR (-1) _ h hp
  refine cond_both hp (fun hp => ?_) (fun hp => ?_)
  · exact hR 1 _ h hp
  refine cond_both hp (fun hp => ?_) (fun hp => ?_)
  · exact hR (-1) _ h hp
  refine cond_both hp (fun hp => ?_) (fun hp => ?_)
  · exact hR 1 _ h hp
  exact hR 0 _ h hp

/-! cmp.isNaN[uint32] (51) -/
def cmp_isNaN_uint32_wp (x_1 : Int) (K : Bool → Prop) : Prop :=
  K ((x_1 : Int) != x_1)
theorem cmp_isNaN_uint32_ok {x_1 : Int} {FL : List HP} {w : World} {K : Bool → Prop} {R : Value → World → Prop}
  (h : Mem (FL) w) (hp : cmp_isNaN_uint32_wp x_1 K)
  (hR : ∀ (r : Bool) (w : World), Mem (FL) w → K r → R (Value.bool r) w) :
  CallV Try.prog 51 #[(Value.int .u32 x_1)] w R := by
  refine cmp_isNaN_uint32_call ?_
  unfold cmp_isNaN_uint32
  unfold cmp_isNaN_uint32_wp at hp
  exact hR ((x_1 : Int) != x_1) _ h hp

/-! cmp.Compare[uint32] (39) -/
def cmp_Compare_uint32_wp (x_1 : Int) (y : Int) (K : Int → Prop) : Prop :=
  cmp_isNaN_uint32_wp x_1 (fun (r : Bool) => cmp_isNaN_uint32_wp y (fun (r_1 : Bool) => cond r (cond r_1 (K 0) (K (-1))) (cond r_1 (K 1) (cond (decide ((x_1 : Int) < y)) (K (-1)) (cond (decide ((x_1 : Int) > y)) (K 1) (K 0))))))
theorem cmp_Compare_uint32_ok {x_1 : Int} {y : Int} {FL : List HP} {w : World} {K : Int → Prop} {R : Value → World → Prop}
  (h : Mem (FL) w) (hp : cmp_Compare_uint32_wp x_1 y K)
  (hR : ∀ (r : Int) (w : World), Mem (FL) w → K r → R (Value.int .i64 r) w) :
  CallV Try.prog 39 #[(Value.int .u32 x_1), (Value.int .u32 y)] w R := by
  refine cmp_Compare_uint32_call ?_
  unfold cmp_Compare_uint32
  unfold cmp_Compare_uint32_wp at hp
  refine cmp_isNaN_uint32_ok h hp ?_
  intro r w h hp
  refine ⟨_, rfl, ?_⟩
  refine cmp_isNaN_uint32_ok h hp ?_
  intro r_1 w h hp
  refine ⟨_, rfl, ?_⟩
  refine cond_both hp (fun hp => ?_) (fun hp => ?_)
  · refine cond_both hp (fun hp => ?_) (fun hp => ?_)
    · exact hR 0 _ h hp
    exact hR (-1) _ h hp
  refine cond_both hp (fun hp => ?_) (fun hp => ?_)
  · exact hR 1 _ h hp
  refine cond_both hp (fun hp => ?_) (fun hp => ?_)
  · exact hR (-1) _ h hp
  refine cond_both hp (fun hp => ?_) (fun hp => ?_)
  · exact hR 1 _ h hp
  exact hR 0 _ h hp

/-! cmp.Or[int] (28) -/
def cmp_Or_int_wp (vals : List (Int)) (K : Int → Prop) : Prop :=
  ∃ (I : Nat → Int → Prop), (∃ (n_4 : Nat), I n_4 0) ∧ ∀ (n_2 : Nat) (t8 : Int), I n_2 t8 → (cond (decide ((t8 : Int) < ((vals.length : Nat) : Int))) (0 ≤ (t8 : Int) ∧ (t8 : Int) < ((vals.length : Nat) : Int) ∧ (∀ (x_1 : Int), vals[Int.toNat t8]? = some x_1 → (cond ((x_1 : Int) != 0) (K x_1) (∃ (n_3 : Nat), n_3 < n_2 ∧ I n_3 (IntKind.wrap .i64 (t8 + 1)))))) (K 0))
theorem cmp_Or_int_ok {p_1 : Option Addr} {n_1 : Nat} {c_1 : Nat} {vals : List (Int)} {FL : List HP} {w : World} {K : Int → Prop} {R : Value → World → Prop}
  (hF_vals : ∀ w, Mem FL w → Rd w 1 p_1 enc3 vals) (hl_vals : n_1 = vals.length) (hc_vals : n_1 ≤ c_1)
  (h : Mem (FL) w) (hp : cmp_Or_int_wp vals K)
  (hR : ∀ (r : Int) (w : World), Mem (FL) w → K r → R (Value.int .i64 r) w) :
  CallV Try.prog 28 #[(Value.slice p_1 n_1 c_1)] w R := by
  refine cmp_Or_int_call ?_
  unfold cmp_Or_int
  unfold cmp_Or_int_wp at hp
  subst hl_vals
  obtain ⟨I, ⟨n_4, h0⟩, hq⟩ := hp
  refine ⟨fun n_2 zero3 t6p t6l t6c t7 t8 w => 0 = zero3 ∧ p_1 = t6p ∧ vals.length = t6l ∧ c_1 = t6c ∧ ((vals.length : Nat) : Int) = t7 ∧ I n_2 t8 ∧ Mem (FL) w, ⟨n_4, rfl, rfl, rfl, rfl, rfl, h0, h⟩, ?_⟩
  clear h0 h
  rintro n_2 zero3 t6p t6l t6c t7 t8 w ⟨rfl, rfl, rfl, rfl, rfl, hp, h⟩
  replace hp := hq n_2 t8 hp
  clear hq
  unfold cmp_Or_int_l1
  refine cond_both' hp (fun hp => ?_) (fun hp => ?_)
  · exact hR 0 _ h hp
  obtain ⟨ia_1, ja_1, hp⟩ := hp
  obtain ⟨a_1, ha_1⟩ := rdAddr (hF_vals _ (h.drop 0)) rfl ia_1 ja_1
  refine ⟨a_1, ha_1, ia_1, ja_1, ?_⟩
  obtain ⟨x_1, hx_1, hc⟩ := rdCell0 (hF_vals _ (h.drop 0)) ha_1 rfl ia_1 ja_1
  replace hp := hp x_1 hx_1
  refine ⟨_, hc _ rfl, ?_⟩
  refine cond_both hp (fun hp => ?_) (fun hp => ?_)
  · exact hR x_1 _ h hp
  obtain ⟨n_3, hn, hp⟩ := hp
  exact ⟨n_3, hn, rfl, rfl, rfl, rfl, rfl, hp, h⟩

/-! embrasure/addr.Compare (30) -/
def addr_Compare_wp (a_Host : Int) (a_Port : Int) (b_Host : Int) (b_Port : Int) (K : Int → Prop) : Prop :=
  cmp_Compare_uint32_wp a_Host b_Host (fun (r : Int) => cmp_Compare_int_wp a_Port b_Port (fun (r_1 : Int) => cmp_Or_int_wp [r, r_1] (fun (r_2 : Int) => K r_2)))
theorem addr_Compare_ok {a_Host : Int} {a_Port : Int} {b_Host : Int} {b_Port : Int} {FL : List HP} {w : World} {K : Int → Prop} {R : Value → World → Prop}
  (h : Mem (FL) w) (hp : addr_Compare_wp a_Host a_Port b_Host b_Port K)
  (hR : ∀ (r : Int) (w : World), Mem (FL) w → K r → R (Value.int .i64 r) w) :
  CallV Try.prog 30 #[(Value.agg #[(Value.int .u32 a_Host), (Value.int .i64 a_Port)]), (Value.agg #[(Value.int .u32 b_Host), (Value.int .i64 b_Port)])] w R := by
  refine addr_Compare_call ?_
  unfold addr_Compare
  unfold addr_Compare_wp at hp
  refine newL (o := [(Value.int .u32 a_Host), (Value.int .i64 a_Port)]) h ?_
  intro b_1 w h
  refine newL (o := [(Value.int .u32 b_Host), (Value.int .i64 b_Port)]) h ?_
  intro b_2 w h
  replace h := h.drew
  refine ⟨fun w => Mem (cel b_1 32 [(Value.int .u32 a_Host), (Value.int .i64 a_Port)] :: cel b_2 32 [(Value.int .u32 b_Host), (Value.int .i64 b_Port)] :: FL) w, (h.sel [1, 0] 0), ?_⟩
  refine ⟨_, cellL h 1 0 rfl rfl rfl, ?_⟩
  refine ⟨_, cellL h 0 0 rfl rfl rfl, ?_⟩
  refine ⟨_, cellL h 1 1 rfl rfl rfl, ?_⟩
  refine ⟨?_, ?_⟩
  · intro w h
    change Mem _ _ at h
    refine ⟨_, cellL h 0 1 rfl rfl rfl, ?_⟩
    exact ⟨rfl, rfl⟩
  refine ⟨_, cellL h 0 1 rfl rfl rfl, ?_⟩
  refine ⟨?_, ?_⟩
  · intro w h
    change Mem _ _ at h
    refine ⟨_, cellL h 1 1 rfl rfl rfl, ?_⟩
    exact ⟨rfl, rfl⟩
  refine cmp_Compare_uint32_ok h hp ?_
  intro r w h hp
  refine ⟨_, rfl, ?_⟩
  refine ⟨(h.sel [1, 0] 0), ?_⟩
  refine cmp_Compare_int_ok h hp ?_
  intro r_1 w h hp
  refine ⟨_, rfl, ?_⟩
  refine newL (o := [(Value.int .i64 r), (Value.int .i64 r_1)]) h ?_
  intro b_3 w h
  refine cmp_Or_int_ok (FL := cel b_3 3 [(Value.int .i64 r), (Value.int .i64 r_1)] :: cel b_2 32 [(Value.int .u32 b_Host), (Value.int .i64 b_Port)] :: cel b_1 32 [(Value.int .u32 a_Host), (Value.int .i64 a_Port)] :: FL) (fun w h => (celRd h 0 encL3 rfl [r, r_1] rfl)) rfl (Nat.le_refl _) h hp ?_
  intro r_2 w h hp
  refine ⟨_, rfl, ?_⟩
  replace h := h.sel [] 3
  dsimp only [pickL, pickR, nthH, delH, dropH, List.cons_append, List.nil_append] at h
  exact hR r_2 _ h hp

/-! (*embrasure/vote.Box).Held$1 (27) -/
def vote_Box_Held_c1_wp (x_Host : Int) (x_Port : Int) (y_Host : Int) (y_Port : Int) (t : List ((Int × Int) × Int)) (K : Int → Prop) : Prop :=
  cmp_Compare_int_wp (mapGet t (y_Host, y_Port) 0) (mapGet t (x_Host, x_Port) 0) (fun (r : Int) => addr_Compare_wp x_Host x_Port y_Host y_Port (fun (r_1 : Int) => cmp_Or_int_wp [r, r_1] (fun (r_2 : Int) => K r_2)))
theorem vote_Box_Held_c1_ok {b_1 : Nat} {b_2 : Nat} {p_1 : List MapEntry × Nat} {x_Host : Int} {x_Port : Int} {y_Host : Int} {y_Port : Int} {t : List ((Int × Int) × Int)} {FL : List HP} {w : World} {K : Int → Prop} {R : Value → World → Prop}
  (hM_t : RoM FL b_2 va32 va3 p_1 t)
  (h : Mem (cel b_1 63 [(Value.map (some b_2))] :: FL) w) (hp : vote_Box_Held_c1_wp x_Host x_Port y_Host y_Port t K)
  (hR : ∀ (r : Int) (w : World), Mem (cel b_1 63 [(Value.map (some b_2))] :: FL) w → K r → R (Value.int .i64 r) w) :
  CallV Try.prog 27 #[(Value.agg #[(Value.int .u32 x_Host), (Value.int .i64 x_Port)]), (Value.agg #[(Value.int .u32 y_Host), (Value.int .i64 y_Port)]), (Value.pointer (some (Addr.mk b_1 0 none)))] w R := by
  refine vote_Box_Held_c1_call ?_
  unfold vote_Box_Held_c1
  unfold vote_Box_Held_c1_wp at hp
  refine newL (o := [(Value.int .u32 x_Host), (Value.int .i64 x_Port)]) h ?_
  intro b_3 w h
  refine newL (o := [(Value.int .u32 y_Host), (Value.int .i64 y_Port)]) h ?_
  intro b_4 w h
  replace h := h.drew
  refine ⟨fun w => Mem (cel b_3 32 [(Value.int .u32 x_Host), (Value.int .i64 x_Port)] :: cel b_4 32 [(Value.int .u32 y_Host), (Value.int .i64 y_Port)] :: FL) w, (h.sel [1, 0] 1), ?_⟩
  refine ⟨_, cellL h 2 0 rfl rfl rfl, ?_⟩
  refine ⟨_, cellL h 0 0 rfl rfl rfl, _, cellL h 0 1 rfl rfl rfl, ?_⟩
  refine lookW (k := (y_Host, y_Port)) (d := 0) (hM_t.map (h.drop 3)) mu63 kt32 (fun w => run_zeroValue zr3) ?_
  refine ⟨_, rfl, ?_⟩
  refine ⟨rfl, ?_⟩
  refine ⟨_, cellL h 2 0 rfl rfl rfl, ?_⟩
  refine ⟨_, cellL h 1 0 rfl rfl rfl, _, cellL h 1 1 rfl rfl rfl, ?_⟩
  refine lookW (k := (x_Host, x_Port)) (d := 0) (hM_t.map (h.drop 3)) mu63 kt32 (fun w => run_zeroValue zr3) ?_
  refine ⟨_, rfl, ?_⟩
  refine ⟨rfl, ?_⟩
  refine ⟨_, cellL h 1 0 rfl rfl rfl, _, cellL h 1 1 rfl rfl rfl, ?_⟩
  refine ⟨?_, ?_⟩
  · intro w h
    change Mem _ _ at h
    refine ⟨_, cellL h 0 0 rfl rfl rfl, _, cellL h 0 1 rfl rfl rfl, ?_⟩
    exact ⟨rfl, rfl⟩
  refine ⟨_, cellL h 0 0 rfl rfl rfl, _, cellL h 0 1 rfl rfl rfl, ?_⟩
  refine ⟨?_, ?_⟩
  · intro w h
    change Mem _ _ at h
    refine ⟨_, cellL h 1 0 rfl rfl rfl, _, cellL h 1 1 rfl rfl rfl, ?_⟩
    exact ⟨rfl, rfl⟩
  refine cmp_Compare_int_ok h hp ?_
  intro r w h hp
  refine ⟨_, rfl, ?_⟩
  refine ⟨(h.sel [1, 0] 1), ?_⟩
  refine addr_Compare_ok h hp ?_
  intro r_1 w h hp
  refine ⟨_, rfl, ?_⟩
  refine newL (o := [(Value.int .i64 r), (Value.int .i64 r_1)]) h ?_
  intro b_5 w h
  refine cmp_Or_int_ok (FL := cel b_5 3 [(Value.int .i64 r), (Value.int .i64 r_1)] :: cel b_4 32 [(Value.int .u32 y_Host), (Value.int .i64 y_Port)] :: cel b_3 32 [(Value.int .u32 x_Host), (Value.int .i64 x_Port)] :: cel b_1 63 [(Value.map (some b_2))] :: FL) (fun w h => (celRd h 0 encL3 rfl [r, r_1] rfl)) rfl (Nat.le_refl _) h hp ?_
  intro r_2 w h hp
  refine ⟨_, rfl, ?_⟩
  replace h := h.sel [3] 3
  dsimp only [pickL, pickR, nthH, delH, dropH, List.cons_append, List.nil_append] at h
  exact hR r_2 _ h hp

/-! slices.SortFunc[[]embrasure/api.Addr,embrasure/api.Addr] (26) -/
def slices_SortFunc_sl_api_Addr_api_Addr_wp {σ1 : Type} (xs : List (Int × Int)) (s : σ1) (Y1 : (Int × Int) → (Int × Int) → σ1 → (Int → σ1 → Prop) → Prop) (K : List (Int × Int) → σ1 → Prop) : Prop := sortW xs s Y1 K
theorem slices_SortFunc_sl_api_Addr_api_Addr_ok {σ1 : Type} {A1 : σ1 → HP} {p_1 : Option Addr} {c_1 : Nat} {n_1 : Nat} {g1 : Nat} {fc1 : Array Value} {xs : List (Int × Int)} {s : σ1} {Y1 : (Int × Int) → (Int × Int) → σ1 → (Int → σ1 → Prop) → Prop} {FL : List HP} {w : World} {K : List (Int × Int) → σ1 → Prop} {R : Value → World → Prop}
  (hY1 : ∀ (x0 : (Int × Int)) (x1 : (Int × Int)) (s : σ1) (K : Int → σ1 → Prop) (FL2 : List HP) (w : World) (R : Value → World → Prop), (∀ w, Mem FL2 w → Mem FL w) → Mem (A1 s :: FL2) w → Y1 x0 x1 s K → (∀ (r : Int) (s : σ1) (w : World), Mem (A1 s :: FL2) w → K r s → R (Value.int .i64 r) w) → CalleeV Try.prog (Value.func (.func g1) #[] fc1) #[(Value.agg #[(Value.int .u32 x0.1), (Value.int .i64 x0.2)]), (Value.agg #[(Value.int .u32 x1.1), (Value.int .i64 x1.2)])] w R)
  (hn : n_1 = xs.length) (hg : hasBody Try.prog g1 = true) (he : ∀ args w, (callFunc g1 args).run Try.prog w = .ok (.enter g1 args) w) (hx : Exact (A1 s))
  (h : Mem (row enc32 32 2 p_1 c_1 xs :: A1 s :: FL) w) (hp : slices_SortFunc_sl_api_Addr_api_Addr_wp xs s Y1 K)
  (hR : ∀ (rs : List (Int × Int)) (s_1 : σ1) (w : World), xs.length = rs.length → Mem (row enc32 32 2 p_1 c_1 rs :: A1 s_1 :: FL) w → K rs s_1 → R (Value.tuple #[]) w) :
  CallV Try.prog 26 #[(Value.slice p_1 n_1 c_1), (Value.func (.func g1) #[] fc1)] w R :=
  sortL (ρ := lays26_ren) lays26 Try.isAgg32 Try.sizeOf32 encL32 (fun x v hv => by simp only [enc32, List.mem_cons, List.not_mem_nil, or_false] at hv; rcases hv with rfl | rfl <;> rfl) hg he hx hY1 hn h hp (fun rs s w hl => hR rs s w hl.symm)

/-! slices.Clone[[]embrasure/api.Addr,embrasure/api.Addr] (31) -/
def slices_Clone_sl_api_Addr_api_Addr_wp (s : List (Int × Int)) (K : List (Int × Int) → Prop) : Prop :=
  ∀ (nil : Bool), (nil = true → s = []) → (cond nil (K ([] : List (Int × Int))) ((([] : List (Int × Int)).length + s.length) * 16 ≤ 140737488355328 ∧ (K (([] : List (Int × Int)) ++ s))))
theorem slices_Clone_sl_api_Addr_api_Addr_ok {p_1 : Option Addr} {n_1 : Nat} {c_1 : Nat} {s : List (Int × Int)} {FL : List HP} {w : World} {K : List (Int × Int) → Prop} {R : Value → World → Prop}
  (hF_s : ∀ w, Mem FL w → Rd w 2 p_1 enc32 s) (hl_s : n_1 = s.length) (hc_s : n_1 ≤ c_1)
  (h : Mem (FL) w) (hp : slices_Clone_sl_api_Addr_api_Addr_wp s K)
  (hR : ∀ (rs : List (Int × Int)) (p_2 : Option Addr) (n_2 : Nat) (c_2 : Nat) (w : World), n_2 = rs.length → Mem (row enc32 32 2 p_2 c_2 rs :: FL) w → K rs → R (Value.slice p_2 n_2 c_2) w) :
  CallV Try.prog 31 #[(Value.slice p_1 n_1 c_1)] w R := by
  refine slices_Clone_sl_api_Addr_api_Addr_call ?_
  unfold slices_Clone_sl_api_Addr_api_Addr
  unfold slices_Clone_sl_api_Addr_api_Addr_wp at hp
  subst hl_s
  obtain ⟨nil, hnil⟩ : ∃ b : Bool, Option.isNone p_1 = b := ⟨_, rfl⟩
  replace hp := hp nil (nilEmpty (hF_s _ (h.drop 0)) hnil)
  refine eqlSlNil und39 hnil ?_
  refine ⟨_, rfl, ?_⟩
  refine cond_both hp (fun hp => ?_) (fun hp => ?_)
  · replace h := rowNil enc32 32 2 h
    exact hR ([] : List (Int × Int)) (none ) 0 0 _ rfl h hp
  refine newL (o := []) h ?_
  intro b_1 w h
  have sr := (hF_s _ (h.drop 1))
  replace h := rowOfCel h 0 encL32 rfl ([] : List (Int × Int)) rfl
  dsimp only [setH, setVs, setV] at h
  obtain ⟨hb, hp⟩ := hp
  refine appendL slt39 und39 encL32 encO32 h 0 rfl rfl sr rfl hb ?_
  intro p_3 c_2 w h
  dsimp only [setH, setVs, setV] at h
  have cpp_3 := rowCap h 0 rfl
  refine ⟨_, _, _, rfl, ?_⟩
  exact hR (([] : List (Int × Int)) ++ s) p_3 ((([] : List (Int × Int)) ++ s).length) c_2 _ rfl h hp

/-! (*embrasure/vote.Box).Held (14) -/
def vote_Box_Held_wp (list : List (Int × Int × Int × Int)) (now : Int) (now_1 : Int) (K : List (Int × Int) → List (Int × Int × Int × Int) → Int → Prop) : Prop :=
  vote_Box_counts_wp list now now_1 (fun (rm : List ((Int × Int) × Int)) (list_2 : List (Int × Int × Int × Int)) (now_3 : Int) => joinP1 (fun (out : List (Int × Int)) => slices_SortFunc_sl_api_Addr_api_Addr_wp out () (fun x_2 x_3 s K_1 => vote_Box_Held_c1_wp x_2.1 x_2.2 x_3.1 x_3.2 rm (fun (r : Int) => K_1 r s)) (fun (rs : List (Int × Int)) (s_1 : (Unit)) => 0 ≤ ((if (3 : Int) < ((out.length : Nat) : Int) then 3 else ((out.length : Nat) : Int)) : Int) ∧ ((if (3 : Int) < ((out.length : Nat) : Int) then 3 else ((out.length : Nat) : Int)) : Int) ≤ ((out.length : Nat) : Int) ∧ (slices_Clone_sl_api_Addr_api_Addr_wp ((rs.take (Int.toNat (if (3 : Int) < ((out.length : Nat) : Int) then 3 else ((out.length : Nat) : Int)))).drop 0) (fun (rs_1 : List (Int × Int)) => K rs_1 list_2 now_3)))) (fun (Q : List (Int × Int) → Prop) => ∃ (I : Nat → List (Int × Int) → List ((Int × Int) × Int) → Prop), (∃ (n_6 : Nat), I n_6 ([] : List (Int × Int)) rm) ∧ ∀ (n_3 : Nat) (out_1 : List (Int × Int)) (lf : List ((Int × Int) × Int)), I n_3 out_1 lf → ((lf = [] → (Q out_1)) ∧ (∀ (i : Nat) (x_1 : (Int × Int) × Int), lf[i]? = some x_1 → (cond (decide ((x_1.2 : Int) ≥ 4)) ((out_1.length + [(x_1.1.1, x_1.1.2)].length) * 16 ≤ 140737488355328 ∧ (∃ (n_4 : Nat), n_4 < n_3 ∧ I n_4 (out_1 ++ [(x_1.1.1, x_1.1.2)]) (lf.eraseIdx i))) (∃ (n_5 : Nat), n_5 < n_3 ∧ I n_5 out_1 (lf.eraseIdx i)))))))
theorem vote_Box_Held_ok {b_1 : Nat} {p_1 : Option Addr} {c_1 : Nat} {list : List (Int × Int × Int × Int)} {now : Int} {now_1 : Int} {FL : List HP} {w : World} {K : List (Int × Int) → List (Int × Int × Int × Int) → Int → Prop} {R : Value → World → Prop}
  (h : Mem (cel b_1 57 [(Value.slice p_1 list.length c_1), (Value.int .i64 now)] :: row enc46 46 4 p_1 c_1 list :: FL) w) (hp : vote_Box_Held_wp list now now_1 K)
  (hR : ∀ (rs : List (Int × Int)) (list_1 : List (Int × Int × Int × Int)) (now_2 : Int) (p_3 : Option Addr) (n_2 : Nat) (c_3 : Nat) (p_2 : Option Addr) (n_1 : Nat) (c_2 : Nat) (w : World), n_2 = rs.length → n_1 = list_1.length → Mem (row enc32 32 2 p_3 c_3 rs :: cel b_1 57 [(Value.slice p_2 n_1 c_2), (Value.int .i64 now_2)] :: row enc46 46 4 p_2 c_2 list_1 :: FL) w → K rs list_1 now_2 → R (Value.slice p_3 n_2 c_3) w) :
  CallV Try.prog 14 #[(Value.pointer (some (Addr.mk b_1 0 none))), (Value.int .i64 now_1)] w R := by
  refine vote_Box_Held_call ?_
  unfold vote_Box_Held
  unfold vote_Box_Held_wp at hp
  have cpp_1 := rowCap h 1 rfl
  refine vote_Box_counts_ok h hp ?_
  rintro rm list_2 now_3 b_2 p_3 p_4 n_2 c_3 w rfl h hp
  have cpp_4 := rowCap h 2 rfl
  refine ⟨_, rfl, ?_⟩
  refine newL (o := [(Value.map none)]) h ?_
  intro b_3 w h
  refine storeL (ys := [(Value.map (some b_2))]) h 0 0 rfl rfl rfl sz63 rfl rfl ?_
  intro w h
  dsimp only [setH, setVs, setV] at h
  obtain ⟨Q, hq, hp⟩ := hp
  refine ⟨fun n5 out6p out6l out6c w => ∃ (out : List (Int × Int)), (Addr.mk b_3 0 none) = n5 ∧ out6l = out.length ∧ Q out ∧ Mem (cel b_3 63 [(Value.map (some b_2))] :: cel b_1 57 [(Value.slice p_4 list_2.length c_3), (Value.int .i64 now_3)] :: row enc46 46 4 p_4 c_3 list_2 :: mapQ b_2 va32 va3 p_3 rm :: row enc32 32 2 out6p out6c out :: FL) w, ?_, ?_⟩
  · rintro n5 out6p out6l out6c w ⟨out, rfl, rfl, hp, h⟩
    replace hp := hq out hp
    unfold vote_Box_Held_j1
    have cpout6p := rowCap h 4 rfl
    replace h : Mem ((fun (_ : Unit) => HL [cel b_3 63 [(Value.map (some b_2))]]) () :: cel b_1 57 [(Value.slice p_4 list_2.length c_3), (Value.int .i64 now_3)] :: row enc46 46 4 p_4 c_3 list_2 :: mapQ b_2 va32 va3 p_3 rm :: row enc32 32 2 out6p out6c out :: FL) _ := h.pack 1 [cel b_3 63 [(Value.map (some b_2))]] rfl
    replace h := h.pick [4, 0]
    dsimp only [pickL, pickR, nthH, delH, dropH, List.cons_append, List.nil_append] at h
    have hMr_mk2 := romOf (h.drop 2) 2 rfl
    refine slices_SortFunc_sl_api_Addr_api_Addr_ok (FL := cel b_1 57 [(Value.slice p_4 list_2.length c_3), (Value.int .i64 now_3)] :: row enc46 46 4 p_4 c_3 list_2 :: mapQ b_2 va32 va3 p_3 rm :: FL) (A1 := (fun (_ : Unit) => HL [cel b_3 63 [(Value.map (some b_2))]])) (Y1 := (fun x_2 x_3 s K_1 => vote_Box_Held_c1_wp x_2.1 x_2.2 x_3.1 x_3.2 rm (fun (r : Int) => K_1 r s))) (σ1 := Unit) (s := ()) ?_ rfl (by kernel_rfl) (enters_of Try.func27 (by kernel_rfl) rfl) (by repeat (first | exact exact_nil | refine exact_cons (exact_cel _ _ _) ?_)) h hp ?_
    · intro x_2 x_3 s K FL2 w R hx h hp hR
      replace h := h.unpack
      dsimp only [pickL, pickR, nthH, delH, dropH, List.cons_append, List.nil_append] at h
      refine calleeFn (by kernel_rfl) ?_
      refine vote_Box_Held_c1_ok (hMr_mk2.mono hx) h hp ?_
      intro r w h hp
      exact hR r s _ (h.pack 1 [cel b_3 63 [(Value.map (some b_2))]] rfl) hp
    rintro rs s_1 w hl_rs h hp
    replace h := h.pick [1]
    dsimp only [pickL, pickR, nthH, delH, dropH, List.cons_append, List.nil_append] at h
    replace h := h.unpack
    dsimp only [pickL, pickR, nthH, delH, dropH, List.cons_append, List.nil_append] at h
    refine ⟨rfl, ?_⟩
    obtain ⟨g_1ha, g_1hb, hp⟩ := hp
    have vg_1_lh : 0 ≤ (Int.toNat (if (3 : Int) < ((out.length : Nat) : Int) then 3 else ((out.length : Nat) : Int))) := (Nat.zero_le _)
    have vg_1_hm : (Int.toNat (if (3 : Int) < ((out.length : Nat) : Int) then 3 else ((out.length : Nat) : Int))) ≤ out6c := (Nat.le_trans (natLe g_1ha g_1hb) cpout6p)
    have vg_1_mc : out6c ≤ out6c := (Nat.le_refl _)
    have vg_1_hl : (Int.toNat (if (3 : Int) < ((out.length : Nat) : Int) then 3 else ((out.length : Nat) : Int))) ≤ rs.length := (leLen g_1ha g_1hb hl_rs)
    refine ⟨g_1ha, (leCap g_1hb cpout6p), ?_⟩
    refine slices_Clone_sl_api_Addr_api_Addr_ok (FL := cel b_3 63 [(Value.map (some b_2))] :: row enc32 32 2 out6p out6c rs :: cel b_1 57 [(Value.slice p_4 list_2.length c_3), (Value.int .i64 now_3)] :: row enc46 46 4 p_4 c_3 list_2 :: mapQ b_2 va32 va3 p_3 rm :: FL) (fun w h => (Rd.view (rowRd h 1 encL32 rfl) (l := 0) (h := (Int.toNat (if (3 : Int) < ((out.length : Nat) : Int) then 3 else ((out.length : Nat) : Int)))) (m := out6c) vg_1_hm)) (viewLen vg_1_hl) (Nat.sub_le_sub_right vg_1_hm _) h hp ?_
    rintro rs_1 p_7 n_7 c_5 w rfl h hp
    have cpp_7 := rowCap h 0 rfl
    refine ⟨_, _, _, rfl, ?_⟩
    replace h := h.sel [0, 2, 2] 3
    dsimp only [pickL, pickR, nthH, delH, dropH, List.cons_append, List.nil_append] at h
    exact hR rs_1 list_2 now_3 p_7 rs_1.length c_5 p_4 list_2.length c_3 _ rfl rfl h hp
  clear hq
  refine ⟨_, cellL h 0 0 rfl rfl rfl, ?_⟩
  refine rangeW h (mapAt h 1 rfl) mu63 ?_
  intro l_1 w h
  refine ⟨_, rfl, ?_⟩
  obtain ⟨I, ⟨n_6, h0⟩, hq⟩ := hp
  replace h := rowNil enc32 32 2 h
  replace h := h.sel [2, 3, 3, 1, 1, 0] 0
  dsimp only [pickL, pickR, nthH, delH, dropH, List.cons_append, List.nil_append] at h
  refine ⟨fun n_3 n5_1 out6_1p out6_1l out6_1c t13 w => ∃ (out_1 : List (Int × Int)), ∃ (lf : List ((Int × Int) × Int)), (Addr.mk b_3 0 none) = n5_1 ∧ (Value.pointer (some (Addr.mk l_1 0 none))) = t13 ∧ out6_1l = out_1.length ∧ I n_3 out_1 lf ∧ Mem (cel b_3 63 [(Value.map (some b_2))] :: cel b_1 57 [(Value.slice p_4 list_2.length c_3), (Value.int .i64 now_3)] :: row enc46 46 4 p_4 c_3 list_2 :: itQ l_1 b_2 va32 va3 p_3 none lf :: mapQ b_2 va32 va3 p_3 rm :: row enc32 32 2 out6_1p out6_1c out_1 :: FL) w, ⟨n_6, ([] : List (Int × Int)), rm, rfl, rfl, rfl, h0, h⟩, ?_⟩
  clear h0 h
  rintro n_3 n5_1 out6_1p out6_1l out6_1c t13 w ⟨out_1, lf, rfl, rfl, rfl, hp, h⟩
  replace hp := hq n_3 out_1 lf hp
  clear hq
  unfold vote_Box_Held_l2
  have cpout6_1p := rowCap h 5 rfl
  refine nextG h 3 rfl (mapAt h 4 rfl) ?_ ?_
  · intro he_
    replace hp := hp.1 he_
    skip
    replace h := h.sel [0, 0, 0, 1, 1] 1
    dsimp only [pickL, pickR, nthH, delH, dropH, List.cons_append, List.nil_append] at h
    exact ⟨out_1, rfl, rfl, hp, h⟩
  intro i x_1 w hx_1 h
  dsimp only [setH, setVs, setV] at h
  replace hp := hp.2 i x_1 hx_1
  refine entryG h 3 rfl (mapAt h 4 rfl) ?_
  replace h := itForget h 3 rfl
  dsimp only [setH, setVs, setV] at h
  refine ⟨_, _, rfl, ?_⟩
  refine ⟨_, rfl, ?_⟩
  refine newL (o := [(Value.int .u32 0), (Value.int .i64 0)]) h ?_
  intro b_4 w h
  refine storeL (ys := [(Value.int .u32 x_1.1.1), (Value.int .i64 x_1.1.2)]) h 0 0 rfl rfl rfl sz32 rfl rfl ?_
  intro w h
  dsimp only [setH, setVs, setV] at h
  refine cond_both' hp (fun hp => ?_) (fun hp => ?_)
  · replace h := h.sel [1, 1, 1, 1, 1, 1] 1
    dsimp only [pickL, pickR, nthH, delH, dropH, List.cons_append, List.nil_append] at h
    obtain ⟨n_5, hn, hp⟩ := hp
    exact ⟨n_5, hn, out_1, (lf.eraseIdx i), rfl, rfl, rfl, hp, h⟩
  refine ⟨_, cellL h 0 0 rfl rfl rfl, _, cellL h 0 1 rfl rfl rfl, ?_⟩
  refine newL (o := [(Value.int .u32 x_1.1.1), (Value.int .i64 x_1.1.2)]) h ?_
  intro b_5 w h
  have sr := (celRd h 0 encL32 rfl [(x_1.1.1, x_1.1.2)] rfl)
  obtain ⟨hb, hp⟩ := hp
  refine appendL slt39 und39 encL32 encO32 h 7 rfl rfl sr rfl hb ?_
  intro p_5 c_4 w h
  dsimp only [setH, setVs, setV] at h
  have cpp_5 := rowCap h 7 rfl
  refine ⟨_, _, _, rfl, ?_⟩
  replace h := h.sel [2, 2, 2, 2, 2, 2] 2
  dsimp only [pickL, pickR, nthH, delH, dropH, List.cons_append, List.nil_append] at h
  obtain ⟨n_4, hn, hp⟩ := hp
  exact ⟨n_4, hn, (out_1 ++ [(x_1.1.1, x_1.1.2)]), (lf.eraseIdx i), rfl, rfl, rfl, hp, h⟩

/-! (*embrasure/vote.Box).Count (11) -/
def vote_Box_Count_wp (list : List (Int × Int × Int × Int)) (now : Int) (now_1 : Int) (a_Host : Int) (a_Port : Int) (K : Int → List (Int × Int × Int × Int) → Int → Prop) : Prop :=
  vote_Box_counts_wp list now now_1 (fun (rm : List ((Int × Int) × Int)) (list_2 : List (Int × Int × Int × Int)) (now_3 : Int) => K (mapGet rm (a_Host, a_Port) 0) list_2 now_3)
theorem vote_Box_Count_ok {b_1 : Nat} {p_1 : Option Addr} {c_1 : Nat} {list : List (Int × Int × Int × Int)} {now : Int} {now_1 : Int} {a_Host : Int} {a_Port : Int} {FL : List HP} {w : World} {K : Int → List (Int × Int × Int × Int) → Int → Prop} {R : Value → World → Prop}
  (h : Mem (cel b_1 57 [(Value.slice p_1 list.length c_1), (Value.int .i64 now)] :: row enc46 46 4 p_1 c_1 list :: FL) w) (hp : vote_Box_Count_wp list now now_1 a_Host a_Port K)
  (hR : ∀ (r : Int) (list_1 : List (Int × Int × Int × Int)) (now_2 : Int) (p_2 : Option Addr) (n_1 : Nat) (c_2 : Nat) (w : World), n_1 = list_1.length → Mem (cel b_1 57 [(Value.slice p_2 n_1 c_2), (Value.int .i64 now_2)] :: row enc46 46 4 p_2 c_2 list_1 :: FL) w → K r list_1 now_2 → R (Value.int .i64 r) w) :
  CallV Try.prog 11 #[(Value.pointer (some (Addr.mk b_1 0 none))), (Value.int .i64 now_1), (Value.agg #[(Value.int .u32 a_Host), (Value.int .i64 a_Port)])] w R := by
  refine vote_Box_Count_call ?_
  unfold vote_Box_Count
  unfold vote_Box_Count_wp at hp
  have cpp_1 := rowCap h 1 rfl
  refine newL (o := [(Value.int .u32 a_Host), (Value.int .i64 a_Port)]) h ?_
  intro b_2 w h
  replace h := h.drew
  refine ⟨fun w => Mem (cel b_2 32 [(Value.int .u32 a_Host), (Value.int .i64 a_Port)] :: FL) w, (h.sel [0] 2), ?_⟩
  refine ⟨_, cellL h 0 0 rfl rfl rfl, _, cellL h 0 1 rfl rfl rfl, ?_⟩
  refine ⟨?_, ?_⟩
  · intro w h
    change Mem _ _ at h
    refine ⟨_, cellL h 0 0 rfl rfl rfl, _, cellL h 0 1 rfl rfl rfl, ?_⟩
    exact ⟨rfl, rfl⟩
  replace h := h.pick [1, 1]
  dsimp only [pickL, pickR, nthH, delH, dropH, List.cons_append, List.nil_append] at h
  refine vote_Box_counts_ok h hp ?_
  rintro rm list_2 now_3 b_3 p_3 p_4 n_2 c_3 w rfl h hp
  have cpp_4 := rowCap h 2 rfl
  refine ⟨_, rfl, ?_⟩
  refine ⟨(h.sel [3] 3), ?_⟩
  refine lookW (k := (a_Host, a_Port)) (d := 0) (mapAt h 0 rfl) mu63 kt32 (fun w => run_zeroValue zr3) ?_
  refine ⟨_, rfl, ?_⟩
  refine ⟨rfl, ?_⟩
  replace h := h.sel [1, 1] 2
  dsimp only [pickL, pickR, nthH, delH, dropH, List.cons_append, List.nil_append] at h
  exact hR (mapGet rm (a_Host, a_Port) 0) list_2 now_3 p_4 list_2.length c_3 _ rfl h hp

/-! embrasure/embrasurelaw18.awake (7) -/
def embrasurelaw18_awake_wp  (K : Bool → Prop) : Prop :=
  vote_New_wp (fun (list : List (Int × Int × Int × Int)) (now : Int) => joinP2 (fun (list_1 : List (Int × Int × Int × Int)) (now_1 : Int) => vote_Box_Held_wp list_1 now_1 0 (fun (rs : List (Int × Int)) (list_4 : List (Int × Int × Int × Int)) (now_4 : Int) => vote_Box_Cast_wp list_4 now_4 1 262144 1 2 (fun (r_1 : Int) (list_5 : List (Int × Int × Int × Int)) (now_5 : Int) => cond ((((rs.length : Nat) : Int) : Int) == 0) (vote_Box_Held_wp list_5 now_5 1 (fun (rs_1 : List (Int × Int)) (list_6 : List (Int × Int × Int × Int)) (now_6 : Int) => cond ((((rs_1.length : Nat) : Int) : Int) == 1) (vote_Box_Count_wp list_6 now_6 1 1 2 (fun (r_2 : Int) (list_7 : List (Int × Int × Int × Int)) (now_7 : Int) => cond ((r_2 : Int) == 4) (vote_Box_Count_wp list_7 now_7 600 1 2 (fun (r_3 : Int) (list_8 : List (Int × Int × Int × Int)) (now_8 : Int) => cond ((r_3 : Int) == 1) (vote_Box_Held_wp list_8 now_8 600 (fun (rs_2 : List (Int × Int)) (list_9 : List (Int × Int × Int × Int)) (now_9 : Int) => cond ((((rs_2.length : Nat) : Int) : Int) == 0) (vote_Box_Cast_wp list_9 now_9 600 0 1 2 (fun (r_4 : Int) (list_10 : List (Int × Int × Int × Int)) (now_10 : Int) => K ((r_4 : Int) == 1))) (K false))) (K false))) (K false))) (K false))) (K false)))) (fun (Q : List (Int × Int × Int × Int) → Int → Prop) => ∃ (I : Nat → List (Int × Int × Int × Int) → Int → Int → Prop), (∃ (n_7 : Nat), I n_7 list now 1) ∧ ∀ (n_4 : Nat) (list_2 : List (Int × Int × Int × Int)) (now_2 : Int) (i3 : Int), I n_4 list_2 now_2 i3 → (cond (decide ((i3 : Int) ≤ 3)) (vote_Box_Cast_wp list_2 now_2 0 (IntKind.wrap .u32 (IntKind.wrap .i64 ((IntKind.wrap .i64 (i3 * 65536)) + 1))) 1 2 (fun (r : Int) (list_3 : List (Int × Int × Int × Int)) (now_3 : Int) => cond ((r : Int) != 0) (K false) (∃ (n_6 : Nat), n_6 < n_4 ∧ I n_6 list_3 now_3 (IntKind.wrap .i64 (i3 + 1))))) (Q list_2 now_2))))
theorem embrasurelaw18_awake_ok  {FL : List HP} {w : World} {K : Bool → Prop} {R : Value → World → Prop}
  (h : Mem (FL) w) (hp : embrasurelaw18_awake_wp  K)
  (hR : ∀ (r : Bool) (w : World), Mem (FL) w → K r → R (Value.bool r) w) :
  CallV Try.prog 7 #[] w R := by
  refine embrasurelaw18_awake_call ?_
  unfold embrasurelaw18_awake
  unfold embrasurelaw18_awake_wp at hp
  refine vote_New_ok h hp ?_
  rintro list now b_1 p_1 n_1 c_1 w rfl h hp
  have cpp_1 := rowCap h 1 rfl
  refine ⟨_, rfl, ?_⟩
  refine eqlPtrNil undP24 ?_
  refine ⟨_, rfl, ?_⟩
  refine cond_ff ?_
  refine newL (o := [(Value.int .u32 0), (Value.int .i64 0)]) h ?_
  intro b_2 w h
  refine storeL (ys := [(Value.int .u32 1), (Value.int .i64 2)]) h 0 0 rfl rfl rfl sz32 rfl rfl ?_
  intro w h
  dsimp only [setH, setVs, setV] at h
  obtain ⟨Q, hq, hp⟩ := hp
  refine ⟨fun b1 a2 w => ∃ (list_1 : List (Int × Int × Int × Int)), ∃ (p_2 : Option Addr), ∃ (n_2 : Nat), ∃ (c_2 : Nat), ∃ (now_1 : Int), (some (Addr.mk b_1 0 none)) = b1 ∧ (Addr.mk b_2 0 none) = a2 ∧ n_2 = list_1.length ∧ Q list_1 now_1 ∧ Mem (cel b_2 32 [(Value.int .u32 1), (Value.int .i64 2)] :: cel b_1 57 [(Value.slice p_2 n_2 c_2), (Value.int .i64 now_1)] :: row enc46 46 4 p_2 c_2 list_1 :: FL) w, ?_, ?_⟩
  · rintro b1 a2 w ⟨list_1, p_2, n_2, c_2, now_1, rfl, rfl, rfl, hp, h⟩
    replace hp := hq list_1 now_1 hp
    unfold embrasurelaw18_awake_j1
    have cpp_2 := rowCap h 2 rfl
    replace h := h.pick [1, 1]
    dsimp only [pickL, pickR, nthH, delH, dropH, List.cons_append, List.nil_append] at h
    refine vote_Box_Held_ok h hp ?_
    rintro rs list_4 now_4 p_5 n_8 c_5 p_6 n_9 c_6 w rfl rfl h hp
    have cpp_5 := rowCap h 0 rfl
    have cpp_6 := rowCap h 2 rfl
    refine ⟨_, _, _, rfl, ?_⟩
    refine ⟨_, cellL h 3 0 rfl rfl rfl, _, cellL h 3 1 rfl rfl rfl, ?_⟩
    replace h := h.pick [1, 1]
    dsimp only [pickL, pickR, nthH, delH, dropH, List.cons_append, List.nil_append] at h
    refine vote_Box_Cast_ok h hp ?_
    rintro r_1 list_5 now_5 p_7 n_10 c_7 w rfl h hp
    have cpp_7 := rowCap h 1 rfl
    refine ⟨_, rfl, ?_⟩
    refine cond_both' hp (fun hp => ?_) (fun hp => ?_)
    · replace h := h.sel [] 4
      dsimp only [pickL, pickR, nthH, delH, dropH, List.cons_append, List.nil_append] at h
      exact hR false _ h hp
    refine vote_Box_Held_ok h hp ?_
    rintro rs_1 list_6 now_6 p_8 n_11 c_8 p_9 n_12 c_9 w rfl rfl h hp
    have cpp_8 := rowCap h 0 rfl
    have cpp_9 := rowCap h 2 rfl
    refine ⟨_, _, _, rfl, ?_⟩
    refine cond_both' hp (fun hp => ?_) (fun hp => ?_)
    · replace h := h.sel [] 5
      dsimp only [pickL, pickR, nthH, delH, dropH, List.cons_append, List.nil_append] at h
      exact hR false _ h hp
    refine ⟨_, cellL h 4 0 rfl rfl rfl, _, cellL h 4 1 rfl rfl rfl, ?_⟩
    replace h := h.pick [1, 1]
    dsimp only [pickL, pickR, nthH, delH, dropH, List.cons_append, List.nil_append] at h
    refine vote_Box_Count_ok h hp ?_
    rintro r_2 list_7 now_7 p_10 n_13 c_10 w rfl h hp
    have cpp_10 := rowCap h 1 rfl
    refine ⟨_, rfl, ?_⟩
    refine cond_both' hp (fun hp => ?_) (fun hp => ?_)
    · replace h := h.sel [] 5
      dsimp only [pickL, pickR, nthH, delH, dropH, List.cons_append, List.nil_append] at h
      exact hR false _ h hp
    refine ⟨_, cellL h 4 0 rfl rfl rfl, _, cellL h 4 1 rfl rfl rfl, ?_⟩
    refine vote_Box_Count_ok h hp ?_
    rintro r_3 list_8 now_8 p_11 n_14 c_11 w rfl h hp
    have cpp_11 := rowCap h 1 rfl
    refine ⟨_, rfl, ?_⟩
    refine cond_both' hp (fun hp => ?_) (fun hp => ?_)
    · replace h := h.sel [] 5
      dsimp only [pickL, pickR, nthH, delH, dropH, List.cons_append, List.nil_append] at h
      exact hR false _ h hp
    refine vote_Box_Held_ok h hp ?_
    rintro rs_2 list_9 now_9 p_12 n_15 c_12 p_13 n_16 c_13 w rfl rfl h hp
    have cpp_12 := rowCap h 0 rfl
    have cpp_13 := rowCap h 2 rfl
    refine ⟨_, _, _, rfl, ?_⟩
    refine cond_both' hp (fun hp => ?_) (fun hp => ?_)
    · replace h := h.sel [] 6
      dsimp only [pickL, pickR, nthH, delH, dropH, List.cons_append, List.nil_append] at h
      exact hR false _ h hp
    refine ⟨_, cellL h 5 0 rfl rfl rfl, _, cellL h 5 1 rfl rfl rfl, ?_⟩
    replace h := h.pick [1, 1]
    dsimp only [pickL, pickR, nthH, delH, dropH, List.cons_append, List.nil_append] at h
    refine vote_Box_Cast_ok h hp ?_
    rintro r_4 list_10 now_10 p_14 n_17 c_14 w rfl h hp
    have cpp_14 := rowCap h 1 rfl
    refine ⟨_, rfl, ?_⟩
    replace h := h.sel [] 6
    dsimp only [pickL, pickR, nthH, delH, dropH, List.cons_append, List.nil_append] at h
    exact hR ((r_4 : Int) == 1) _ h hp
  clear hq
  obtain ⟨I, ⟨n_7, h0⟩, hq⟩ := hp
  refine ⟨fun n_4 b1_1 a2_1 i3 w => ∃ (list_2 : List (Int × Int × Int × Int)), ∃ (p_3 : Option Addr), ∃ (n_3 : Nat), ∃ (c_3 : Nat), ∃ (now_2 : Int), (some (Addr.mk b_1 0 none)) = b1_1 ∧ (Addr.mk b_2 0 none) = a2_1 ∧ n_3 = list_2.length ∧ I n_4 list_2 now_2 i3 ∧ Mem (cel b_2 32 [(Value.int .u32 1), (Value.int .i64 2)] :: cel b_1 57 [(Value.slice p_3 n_3 c_3), (Value.int .i64 now_2)] :: row enc46 46 4 p_3 c_3 list_2 :: FL) w, ⟨n_7, list, p_1, list.length, c_1, now, rfl, rfl, rfl, h0, h⟩, ?_⟩
  clear h0 h
  rintro n_4 b1_1 a2_1 i3 w ⟨list_2, p_3, n_3, c_3, now_2, rfl, rfl, rfl, hp, h⟩
  replace hp := hq n_4 list_2 now_2 i3 hp
  clear hq
  unfold embrasurelaw18_awake_l2
  have cpp_3 := rowCap h 2 rfl
  refine cond_both' hp (fun hp => ?_) (fun hp => ?_)
  · exact ⟨list_2, p_3, list_2.length, c_3, now_2, rfl, rfl, rfl, hp, h⟩
  refine ⟨_, cellL h 0 0 rfl rfl rfl, _, cellL h 0 1 rfl rfl rfl, ?_⟩
  replace h := h.pick [1, 1]
  dsimp only [pickL, pickR, nthH, delH, dropH, List.cons_append, List.nil_append] at h
  refine vote_Box_Cast_ok h hp ?_
  rintro r list_3 now_3 p_4 n_5 c_4 w rfl h hp
  have cpp_4 := rowCap h 1 rfl
  refine ⟨_, rfl, ?_⟩
  refine cond_both hp (fun hp => ?_) (fun hp => ?_)
  · replace h := h.sel [] 3
    dsimp only [pickL, pickR, nthH, delH, dropH, List.cons_append, List.nil_append] at h
    exact hR false _ h hp
  replace h := h.sel [2, 0, 0] 0
  dsimp only [pickL, pickR, nthH, delH, dropH, List.cons_append, List.nil_append] at h
  obtain ⟨n_6, hn, hp⟩ := hp
  exact ⟨n_6, hn, list_3, p_4, list_3.length, c_4, now_3, rfl, rfl, rfl, hp, h⟩

/-! embrasure/embrasureref03.May (23) -/
def embrasureref03_May_wp (a_Host : Int) (a_Port : Int) (K : Bool → Prop) : Prop :=
  cond (decide ((a_Host : Int) > 0)) (cond (decide ((a_Port : Int) > 0)) (K (decide ((a_Port : Int) < 65536))) (K false)) (K false)
theorem embrasureref03_May_ok {a_Host : Int} {a_Port : Int} {FL : List HP} {w : World} {K : Bool → Prop} {R : Value → World → Prop}
  (h : Mem (FL) w) (hp : embrasureref03_May_wp a_Host a_Port K)
  (hR : ∀ (r : Bool) (w : World), Mem (FL) w → K r → R (Value.bool r) w) :
  CallV Try.prog 23 #[(Value.agg #[(Value.int .u32 a_Host), (Value.int .i64 a_Port)])] w R := by
  refine embrasureref03_May_call ?_
  unfold embrasureref03_May
  unfold embrasureref03_May_wp at hp
  refine newL (o := [(Value.int .u32 a_Host), (Value.int .i64 a_Port)]) h ?_
  intro b_1 w h
  refine ⟨_, cellL h 0 0 rfl rfl rfl, ?_⟩
  refine cond_both' hp (fun hp => ?_) (fun hp => ?_)
  · replace h := h.sel [] 1
    dsimp only [pickL, pickR, nthH, delH, dropH, List.cons_append, List.nil_append] at h
    exact hR false _ h hp
  refine ⟨_, cellL h 0 1 rfl rfl rfl, ?_⟩
  refine cond_both' hp (fun hp => ?_) (fun hp => ?_)
  · replace h := h.sel [] 1
    dsimp only [pickL, pickR, nthH, delH, dropH, List.cons_append, List.nil_append] at h
    exact hR false _ h hp
  refine ⟨_, cellL h 0 1 rfl rfl rfl, ?_⟩
  replace h := h.sel [] 1
  dsimp only [pickL, pickR, nthH, delH, dropH, List.cons_append, List.nil_append] at h
  exact hR (decide ((a_Port : Int) < 65536)) _ h hp

/-! (*embrasure/embrasureref18.Box).on (24) -/
def embrasureref18_Box_on_wp (L : List (Int × Int × Int × Int)) (Now : Int) (now : Int) (K : List (Int × Int × Int × Int) → Int → Prop) : Prop :=
  joinP1 (fun (now1 : Int) => joinP1 (fun (Now_2 : Int) => ∃ (I : Nat → List (Int × Int × Int × Int) → Int → Prop), (∃ (n_5 : Nat), I n_5 ([] : List (Int × Int × Int × Int)) 0) ∧ ∀ (n_2 : Nat) (l_1 : List (Int × Int × Int × Int)) (i5 : Int), I n_2 l_1 i5 → (cond (decide ((i5 : Int) < ((L.length : Nat) : Int))) (0 ≤ (i5 : Int) ∧ (i5 : Int) < ((L.length : Nat) : Int) ∧ (∀ (x_1 : Int × Int × Int × Int), L[Int.toNat i5]? = some x_1 → (cond (decide (((IntKind.wrap .i64 (x_1.2.2.2 + 600)) : Int) > Now_2)) (0 ≤ (i5 : Int) ∧ (i5 : Int) < ((L.length : Nat) : Int) ∧ (∀ (x_2 : Int × Int × Int × Int), L[Int.toNat i5]? = some x_2 → ((l_1.length + [x_2].length) * 32 ≤ 140737488355328 ∧ (∃ (n_3 : Nat), n_3 < n_2 ∧ I n_3 (l_1 ++ [x_2]) (IntKind.wrap .i64 (i5 + 1)))))) (∃ (n_4 : Nat), n_4 < n_2 ∧ I n_4 l_1 (IntKind.wrap .i64 (i5 + 1)))))) (K l_1 Now_2))) (fun (Q_1 : Int → Prop) => cond (decide ((now1 : Int) > Now)) (Q_1 now1) (Q_1 Now))) (fun (Q : Int → Prop) => cond (decide ((now : Int) > 1099511627776)) (Q 1099511627776) (Q now))
theorem embrasureref18_Box_on_ok {b_1 : Nat} {p_1 : Option Addr} {c_1 : Nat} {L : List (Int × Int × Int × Int)} {Now : Int} {now : Int} {FL : List HP} {w : World} {K : List (Int × Int × Int × Int) → Int → Prop} {R : Value → World → Prop}
  (h : Mem (cel b_1 29 [(Value.slice p_1 L.length c_1), (Value.int .i64 Now)] :: row enc46 46 4 p_1 c_1 L :: FL) w) (hp : embrasureref18_Box_on_wp L Now now K)
  (hR : ∀ (L_1 : List (Int × Int × Int × Int)) (Now_1 : Int) (p_2 : Option Addr) (n_1 : Nat) (c_2 : Nat) (w : World), n_1 = L_1.length → Mem (cel b_1 29 [(Value.slice p_2 n_1 c_2), (Value.int .i64 Now_1)] :: row enc46 46 4 p_2 c_2 L_1 :: FL) w → K L_1 Now_1 → R undef w) :
  CallV Try.prog 24 #[(Value.pointer (some (Addr.mk b_1 0 none))), (Value.int .i64 now)] w R := by
  refine embrasureref18_Box_on_call ?_
  unfold embrasureref18_Box_on
  unfold embrasureref18_Box_on_wp at hp
  have cpp_1 := rowCap h 1 rfl
  obtain ⟨Q, hq, hp⟩ := hp
  refine ⟨fun b0 now1 w => (some (Addr.mk b_1 0 none)) = b0 ∧ Q now1 ∧ Mem (cel b_1 29 [(Value.slice p_1 L.length c_1), (Value.int .i64 Now)] :: row enc46 46 4 p_1 c_1 L :: FL) w, ?_, ?_⟩
  · rintro b0 now1 w ⟨rfl, hp, h⟩
    replace hp := hq now1 hp
    unfold embrasureref18_Box_on_j1
    obtain ⟨Q_1, hq, hp⟩ := hp
    refine ⟨fun b0_1 w => ∃ (Now_2 : Int), (some (Addr.mk b_1 0 none)) = b0_1 ∧ Q_1 Now_2 ∧ Mem (cel b_1 29 [(Value.slice p_1 L.length c_1), (Value.int .i64 Now_2)] :: row enc46 46 4 p_1 c_1 L :: FL) w, ?_, ?_⟩
    · rintro b0_1 w ⟨Now_2, rfl, hp, h⟩
      replace hp := hq Now_2 hp
      unfold embrasureref18_Box_on_j2
      obtain ⟨I, ⟨n_5, h0⟩, hq⟩ := hp
      replace h := rowNil enc46 46 4 h
      replace h := h.sel [1, 1, 0] 0
      dsimp only [pickL, pickR, nthH, delH, dropH, List.cons_append, List.nil_append] at h
      refine ⟨fun n_2 b0_2 l4p l4l l4c i5 w => ∃ (l_1 : List (Int × Int × Int × Int)), (some (Addr.mk b_1 0 none)) = b0_2 ∧ l4l = l_1.length ∧ I n_2 l_1 i5 ∧ Mem (cel b_1 29 [(Value.slice p_1 L.length c_1), (Value.int .i64 Now_2)] :: row enc46 46 4 p_1 c_1 L :: row enc46 46 4 l4p l4c l_1 :: FL) w, ⟨n_5, ([] : List (Int × Int × Int × Int)), rfl, rfl, h0, h⟩, ?_⟩
      clear h0 h
      rintro n_2 b0_2 l4p l4l l4c i5 w ⟨l_1, rfl, rfl, hp, h⟩
      replace hp := hq n_2 l_1 i5 hp
      clear hq
      unfold embrasureref18_Box_on_l3
      have cpl4p := rowCap h 2 rfl
      refine ⟨_, rfl, ?_⟩
      refine ⟨_, _, _, cellL h 0 0 rfl rfl rfl, ?_⟩
      refine cond_both' hp (fun hp => ?_) (fun hp => ?_)
      · refine ⟨_, rfl, ?_⟩
        refine storeL (ys := [(Value.slice l4p l_1.length l4c)]) h 0 0 rfl rfl rfl sz27 rfl rfl ?_
        intro w h
        dsimp only [setH, setVs, setV] at h
        replace h := h.sel [0, 1] 1
        dsimp only [pickL, pickR, nthH, delH, dropH, List.cons_append, List.nil_append] at h
        exact hR l_1 Now_2 l4p l_1.length l4c _ rfl h hp
      replace h := h.drew
      refine ⟨_, rfl, ?_⟩
      refine ⟨_, _, _, cellL h 0 0 rfl rfl rfl, ?_⟩
      obtain ⟨ia_1, ja_1, hp⟩ := hp
      obtain ⟨a_1, ha_1⟩ := rdAddr (rowRd h 1 encL46 rfl) rfl ia_1 ja_1
      refine ⟨a_1, ha_1, ia_1, ja_1, ?_⟩
      obtain ⟨x_1, hx_1, hc⟩ := rdCell (rowRd h 1 encL46 rfl) ha_1 rfl ia_1 ja_1
      replace hp := hp x_1 hx_1
      refine ⟨_, hc 3 _ rfl, ?_⟩
      refine ⟨_, rfl, ?_⟩
      refine ⟨_, cellL h 0 1 rfl rfl rfl, ?_⟩
      refine cond_both' hp (fun hp => ?_) (fun hp => ?_)
      · obtain ⟨n_4, hn, hp⟩ := hp
        exact ⟨n_4, hn, l_1, rfl, rfl, hp, h⟩
      refine ⟨_, rfl, ?_⟩
      refine ⟨_, _, _, cellL h 0 0 rfl rfl rfl, ?_⟩
      obtain ⟨ia_2, ja_2, hp⟩ := hp
      obtain ⟨a_2, ha_2⟩ := rdAddr (rowRd h 1 encL46 rfl) rfl ia_2 ja_2
      refine ⟨a_2, ha_2, ia_2, ja_2, ?_⟩
      obtain ⟨x_2, hx_2, hc⟩ := rdCell (rowRd h 1 encL46 rfl) ha_2 rfl ia_2 ja_2
      replace hp := hp x_2 hx_2
      refine ⟨_, hc 0 _ rfl, _, hc 1 _ rfl, _, hc 2 _ rfl, _, hc 3 _ rfl, ?_⟩
      refine newL (o := [(Value.int .u32 x_2.1), (Value.int .u32 x_2.2.1), (Value.int .i64 x_2.2.2.1), (Value.int .i64 x_2.2.2.2)]) h ?_
      intro b_2 w h
      have sr := (celRd h 0 encL46 rfl [x_2] rfl)
      obtain ⟨hb, hp⟩ := hp
      refine appendL slt27 und27 encL46 encO46 h 3 rfl rfl sr rfl hb ?_
      intro p_3 c_3 w h
      dsimp only [setH, setVs, setV] at h
      have cpp_3 := rowCap h 3 rfl
      refine ⟨_, _, _, rfl, ?_⟩
      replace h := h.sel [1, 1, 1] 1
      dsimp only [pickL, pickR, nthH, delH, dropH, List.cons_append, List.nil_append] at h
      obtain ⟨n_3, hn, hp⟩ := hp
      exact ⟨n_3, hn, (l_1 ++ [x_2]), rfl, rfl, hp, h⟩
    clear hq
    refine ⟨_, rfl, ?_⟩
    refine ⟨_, cellL h 0 1 rfl rfl rfl, ?_⟩
    refine cond_both' hp (fun hp => ?_) (fun hp => ?_)
    · exact ⟨Now, rfl, hp, h⟩
    refine ⟨_, rfl, ?_⟩
    refine storeL (ys := [(Value.int .i64 now1)]) h 0 1 rfl rfl rfl sz3 rfl rfl ?_
    intro w h
    dsimp only [setH, setVs, setV] at h
    exact ⟨now1, rfl, hp, h⟩
  clear hq
  refine cond_both hp (fun hp => ?_) (fun hp => ?_)
  · exact ⟨rfl, hp, h⟩
  exact ⟨rfl, hp, h⟩

/-! (*embrasure/embrasureref18.Box).Cast (10) -/
def embrasureref18_Box_Cast_wp (L : List (Int × Int × Int × Int)) (Now : Int) (now : Int) (by_ : Int) (a_Host : Int) (a_Port : Int) (K : Int → List (Int × Int × Int × Int) → Int → Prop) : Prop :=
  joinP1 (fun (t29 : Bool) => cond t29 (K 1 L Now) (embrasureref18_Box_on_wp L Now now (fun (L_2 : List (Int × Int × Int × Int)) (Now_2 : Int) => joinP1 (fun (l_1 : List (Int × Int × Int × Int)) => (l_1.length + [((IntKind.wrap .u32 (Int.tdiv by_ 65536)), a_Host, a_Port, now)].length) * 32 ≤ 140737488355328 ∧ (joinP1 (fun (l_3 : List (Int × Int × Int × Int)) => K 0 l_3 Now_2) (fun (Q_3 : List (Int × Int × Int × Int) → Prop) => cond (decide (((((l_1 ++ [((IntKind.wrap .u32 (Int.tdiv by_ 65536)), a_Host, a_Port, now)]).length : Nat) : Int) : Int) > 100)) (0 ≤ (1 : Int) ∧ (1 : Int) ≤ (((l_1 ++ [((IntKind.wrap .u32 (Int.tdiv by_ 65536)), a_Host, a_Port, now)]).length : Nat) : Int) ∧ (Q_3 (((l_1 ++ [((IntKind.wrap .u32 (Int.tdiv by_ 65536)), a_Host, a_Port, now)]).take (l_1 ++ [((IntKind.wrap .u32 (Int.tdiv by_ 65536)), a_Host, a_Port, now)]).length).drop (Int.toNat 1)))) (Q_3 (l_1 ++ [((IntKind.wrap .u32 (Int.tdiv by_ 65536)), a_Host, a_Port, now)]))))) (fun (Q_1 : List (Int × Int × Int × Int) → Prop) => ∃ (I : Nat → List (Int × Int × Int × Int) → Int → Prop), (∃ (n_6 : Nat), I n_6 ([] : List (Int × Int × Int × Int)) 0) ∧ ∀ (n_3 : Nat) (l_2 : List (Int × Int × Int × Int)) (i10 : Int), I n_3 l_2 i10 → (cond (decide ((i10 : Int) < ((L_2.length : Nat) : Int))) (joinP1 (fun (t64 : Bool) => cond t64 (0 ≤ (i10 : Int) ∧ (i10 : Int) < ((L_2.length : Nat) : Int) ∧ (∀ (x_3 : Int × Int × Int × Int), L_2[Int.toNat i10]? = some x_3 → ((l_2.length + [x_3].length) * 32 ≤ 140737488355328 ∧ (∃ (n_4 : Nat), n_4 < n_3 ∧ I n_4 (l_2 ++ [x_3]) (IntKind.wrap .i64 (i10 + 1)))))) (∃ (n_5 : Nat), n_5 < n_3 ∧ I n_5 l_2 (IntKind.wrap .i64 (i10 + 1)))) (fun (Q_2 : Bool → Prop) => 0 ≤ (i10 : Int) ∧ (i10 : Int) < ((L_2.length : Nat) : Int) ∧ (∀ (x_1 : Int × Int × Int × Int), L_2[Int.toNat i10]? = some x_1 → (cond ((x_1.1 : Int) != (IntKind.wrap .u32 (Int.tdiv by_ 65536))) (Q_2 true) (0 ≤ (i10 : Int) ∧ (i10 : Int) < ((L_2.length : Nat) : Int) ∧ (∀ (x_2 : Int × Int × Int × Int), L_2[Int.toNat i10]? = some x_2 → (Q_2 (!(((x_2.2.1 : Int) == a_Host) && (((x_2.2.2.1 : Int) == a_Port) && true)))))))))) (Q_1 l_2)))))) (fun (Q : Bool → Prop) => cond ((by_ : Int) == 0) (Q true) (embrasureref03_May_wp a_Host a_Port (fun (r : Bool) => cond (!r) (Q true) (cond (decide ((now : Int) < Now)) (Q true) (Q (decide ((now : Int) > 1099511627776)))))))
theorem embrasureref18_Box_Cast_ok {b_1 : Nat} {p_1 : Option Addr} {c_1 : Nat} {L : List (Int × Int × Int × Int)} {Now : Int} {now : Int} {by_ : Int} {a_Host : Int} {a_Port : Int} {FL : List HP} {w : World} {K : Int → List (Int × Int × Int × Int) → Int → Prop} {R : Value → World → Prop}
  (h : Mem (cel b_1 29 [(Value.slice p_1 L.length c_1), (Value.int .i64 Now)] :: row enc46 46 4 p_1 c_1 L :: FL) w) (hp : embrasureref18_Box_Cast_wp L Now now by_ a_Host a_Port K)
  (hR : ∀ (r : Int) (L_1 : List (Int × Int × Int × Int)) (Now_1 : Int) (p_2 : Option Addr) (n_1 : Nat) (c_2 : Nat) (w : World), n_1 = L_1.length → Mem (cel b_1 29 [(Value.slice p_2 n_1 c_2), (Value.int .i64 Now_1)] :: row enc46 46 4 p_2 c_2 L_1 :: FL) w → K r L_1 Now_1 → R (Value.int .i64 r) w) :
  CallV Try.prog 10 #[(Value.pointer (some (Addr.mk b_1 0 none))), (Value.int .i64 now), (Value.int .u32 by_), (Value.agg #[(Value.int .u32 a_Host), (Value.int .i64 a_Port)])] w R := by
  refine embrasureref18_Box_Cast_call ?_
  unfold embrasureref18_Box_Cast
  unfold embrasureref18_Box_Cast_wp at hp
  have cpp_1 := rowCap h 1 rfl
  refine newL (o := [(Value.int .u32 a_Host), (Value.int .i64 a_Port)]) h ?_
  intro b_2 w h
  obtain ⟨Q, hq, hp⟩ := hp
  refine ⟨fun b0 now1 by2 a7 t29 w => (some (Addr.mk b_1 0 none)) = b0 ∧ now = now1 ∧ by_ = by2 ∧ (Addr.mk b_2 0 none) = a7 ∧ Q t29 ∧ Mem (cel b_2 32 [(Value.int .u32 a_Host), (Value.int .i64 a_Port)] :: cel b_1 29 [(Value.slice p_1 L.length c_1), (Value.int .i64 Now)] :: row enc46 46 4 p_1 c_1 L :: FL) w, ?_, ?_⟩
  · rintro b0 now1 by2 a7 t29 w ⟨rfl, rfl, rfl, rfl, hp, h⟩
    replace hp := hq t29 hp
    unfold embrasureref18_Box_Cast_j1
    refine cond_both hp (fun hp => ?_) (fun hp => ?_)
    · replace h := h.sel [1, 1] 1
      dsimp only [pickL, pickR, nthH, delH, dropH, List.cons_append, List.nil_append] at h
      exact hR 1 L Now p_1 L.length c_1 _ rfl h hp
    replace h := h.pick [1, 1]
    dsimp only [pickL, pickR, nthH, delH, dropH, List.cons_append, List.nil_append] at h
    refine embrasureref18_Box_on_ok h hp ?_
    rintro L_2 Now_2 p_3 n_2 c_3 w rfl h hp
    have cpp_3 := rowCap h 1 rfl
    refine ⟨rfl, ?_⟩
    obtain ⟨Q_1, hq, hp⟩ := hp
    refine ⟨fun b0_1 now1_1 by2_1 a7_1 l9p l9l l9c w => ∃ (l_1 : List (Int × Int × Int × Int)), (some (Addr.mk b_1 0 none)) = b0_1 ∧ now = now1_1 ∧ by_ = by2_1 ∧ (Addr.mk b_2 0 none) = a7_1 ∧ l9l = l_1.length ∧ Q_1 l_1 ∧ Mem (cel b_1 29 [(Value.slice p_3 L_2.length c_3), (Value.int .i64 Now_2)] :: row enc46 46 4 p_3 c_3 L_2 :: cel b_2 32 [(Value.int .u32 a_Host), (Value.int .i64 a_Port)] :: row enc46 46 4 l9p l9c l_1 :: FL) w, ?_, ?_⟩
    · rintro b0_1 now1_1 by2_1 a7_1 l9p l9l l9c w ⟨l_1, rfl, rfl, rfl, rfl, rfl, hp, h⟩
      replace hp := hq l_1 hp
      unfold embrasureref18_Box_Cast_j2
      have cpl9p := rowCap h 3 rfl
      refine ⟨by decide, ?_⟩
      refine ⟨_, cellL h 2 0 rfl rfl rfl, _, cellL h 2 1 rfl rfl rfl, ?_⟩
      refine newL (o := [(Value.int .u32 (IntKind.wrap .u32 (Int.tdiv by_ 65536))), (Value.int .u32 a_Host), (Value.int .i64 a_Port), (Value.int .i64 now)]) h ?_
      intro b_4 w h
      have sr_1 := (celRd h 0 encL46 rfl [((IntKind.wrap .u32 (Int.tdiv by_ 65536)), a_Host, a_Port, now)] rfl)
      obtain ⟨hb, hp⟩ := hp
      refine appendL slt27 und27 encL46 encO46 h 4 rfl rfl sr_1 rfl hb ?_
      intro p_6 c_5 w h
      dsimp only [setH, setVs, setV] at h
      have cpp_6 := rowCap h 4 rfl
      refine ⟨_, _, _, rfl, ?_⟩
      obtain ⟨Q_3, hq, hp⟩ := hp
      refine ⟨fun b0_4 l9_3p l9_3l l9_3c w => ∃ (l_3 : List (Int × Int × Int × Int)), (some (Addr.mk b_1 0 none)) = b0_4 ∧ l9_3l = l_3.length ∧ Q_3 l_3 ∧ Mem (cel b_4 46 [(Value.int .u32 (IntKind.wrap .u32 (Int.tdiv by_ 65536))), (Value.int .u32 a_Host), (Value.int .i64 a_Port), (Value.int .i64 now)] :: cel b_1 29 [(Value.slice p_3 L_2.length c_3), (Value.int .i64 Now_2)] :: row enc46 46 4 p_3 c_3 L_2 :: cel b_2 32 [(Value.int .u32 a_Host), (Value.int .i64 a_Port)] :: row enc46 46 4 l9_3p l9_3c l_3 :: FL) w, ?_, ?_⟩
      · rintro b0_4 l9_3p l9_3l l9_3c w ⟨l_3, rfl, rfl, hp, h⟩
        replace hp := hq l_3 hp
        unfold embrasureref18_Box_Cast_j3
        have cpl9_3p := rowCap h 4 rfl
        refine ⟨_, rfl, ?_⟩
        refine storeL (ys := [(Value.slice l9_3p l_3.length l9_3c)]) h 1 0 rfl rfl rfl sz27 rfl rfl ?_
        intro w h
        dsimp only [setH, setVs, setV] at h
        replace h := h.sel [1, 3] 3
        dsimp only [pickL, pickR, nthH, delH, dropH, List.cons_append, List.nil_append] at h
        exact hR 0 l_3 Now_2 l9_3p l_3.length l9_3c _ rfl h hp
      clear hq
      refine cond_both' hp (fun hp => ?_) (fun hp => ?_)
      · exact ⟨(l_1 ++ [((IntKind.wrap .u32 (Int.tdiv by_ 65536)), a_Host, a_Port, now)]), rfl, rfl, hp, h⟩
      obtain ⟨g_1la, g_1lb, hp⟩ := hp
      have vg_1_lh : (Int.toNat 1) ≤ (l_1 ++ [((IntKind.wrap .u32 (Int.tdiv by_ 65536)), a_Host, a_Port, now)]).length := (natLe g_1la g_1lb)
      have vg_1_hm : (l_1 ++ [((IntKind.wrap .u32 (Int.tdiv by_ 65536)), a_Host, a_Port, now)]).length ≤ c_5 := cpp_6
      have vg_1_mc : c_5 ≤ c_5 := (Nat.le_refl _)
      have vg_1_hl : (l_1 ++ [((IntKind.wrap .u32 (Int.tdiv by_ 65536)), a_Host, a_Port, now)]).length ≤ (l_1 ++ [((IntKind.wrap .u32 (Int.tdiv by_ 65536)), a_Host, a_Port, now)]).length := (Nat.le_of_eq rfl)
      refine ⟨g_1la, g_1lb, ?_⟩
      replace h := rowShrink h 4 encL46 rfl (l := (Int.toNat 1)) (hi := (l_1 ++ [((IntKind.wrap .u32 (Int.tdiv by_ 65536)), a_Host, a_Port, now)]).length) (m := c_5) vg_1_lh vg_1_hm vg_1_mc vg_1_hl
      dsimp only [setH, setVs, setV] at h
      exact ⟨(((l_1 ++ [((IntKind.wrap .u32 (Int.tdiv by_ 65536)), a_Host, a_Port, now)]).take (l_1 ++ [((IntKind.wrap .u32 (Int.tdiv by_ 65536)), a_Host, a_Port, now)]).length).drop (Int.toNat 1)), rfl, (viewLen vg_1_hl), hp, h⟩
    clear hq
    obtain ⟨I, ⟨n_6, h0⟩, hq⟩ := hp
    replace h := rowNil enc46 46 4 h
    replace h := h.sel [1, 1, 1, 0] 0
    dsimp only [pickL, pickR, nthH, delH, dropH, List.cons_append, List.nil_append] at h
    refine ⟨fun n_3 b0_2 now1_2 by2_2 a7_2 l9_1p l9_1l l9_1c i10 w => ∃ (l_2 : List (Int × Int × Int × Int)), (some (Addr.mk b_1 0 none)) = b0_2 ∧ now = now1_2 ∧ by_ = by2_2 ∧ (Addr.mk b_2 0 none) = a7_2 ∧ l9_1l = l_2.length ∧ I n_3 l_2 i10 ∧ Mem (cel b_1 29 [(Value.slice p_3 L_2.length c_3), (Value.int .i64 Now_2)] :: row enc46 46 4 p_3 c_3 L_2 :: cel b_2 32 [(Value.int .u32 a_Host), (Value.int .i64 a_Port)] :: row enc46 46 4 l9_1p l9_1c l_2 :: FL) w, ⟨n_6, ([] : List (Int × Int × Int × Int)), rfl, rfl, rfl, rfl, rfl, h0, h⟩, ?_⟩
    clear h0 h
    rintro n_3 b0_2 now1_2 by2_2 a7_2 l9_1p l9_1l l9_1c i10 w ⟨l_2, rfl, rfl, rfl, rfl, rfl, hp, h⟩
    replace hp := hq n_3 l_2 i10 hp
    clear hq
    unfold embrasureref18_Box_Cast_l4
    have cpl9_1p := rowCap h 3 rfl
    refine ⟨_, rfl, ?_⟩
    refine ⟨_, _, _, cellL h 0 0 rfl rfl rfl, ?_⟩
    refine cond_both' hp (fun hp => ?_) (fun hp => ?_)
    · exact ⟨l_2, rfl, rfl, rfl, rfl, rfl, hp, h⟩
    obtain ⟨Q_2, hq, hp⟩ := hp
    refine ⟨fun b0_3 now1_3 by2_3 a7_3 l9_2p l9_2l l9_2c i10_1 t64 w => (some (Addr.mk b_1 0 none)) = b0_3 ∧ now = now1_3 ∧ by_ = by2_3 ∧ (Addr.mk b_2 0 none) = a7_3 ∧ l9_1p = l9_2p ∧ l_2.length = l9_2l ∧ l9_1c = l9_2c ∧ i10 = i10_1 ∧ Q_2 t64 ∧ Mem (cel b_1 29 [(Value.slice p_3 L_2.length c_3), (Value.int .i64 Now_2)] :: row enc46 46 4 p_3 c_3 L_2 :: cel b_2 32 [(Value.int .u32 a_Host), (Value.int .i64 a_Port)] :: row enc46 46 4 l9_1p l9_1c l_2 :: FL) w, ?_, ?_⟩
    · rintro b0_3 now1_3 by2_3 a7_3 l9_2p l9_2l l9_2c i10_1 t64 w ⟨rfl, rfl, rfl, rfl, rfl, rfl, rfl, rfl, hp, h⟩
      replace hp := hq t64 hp
      unfold embrasureref18_Box_Cast_j5
      refine cond_both' hp (fun hp => ?_) (fun hp => ?_)
      · obtain ⟨n_5, hn, hp⟩ := hp
        exact ⟨n_5, hn, l_2, rfl, rfl, rfl, rfl, rfl, hp, h⟩
      refine ⟨_, rfl, ?_⟩
      refine ⟨_, _, _, cellL h 0 0 rfl rfl rfl, ?_⟩
      obtain ⟨ia_3, ja_3, hp⟩ := hp
      obtain ⟨a_3, ha_3⟩ := rdAddr (rowRd h 1 encL46 rfl) rfl ia_3 ja_3
      refine ⟨a_3, ha_3, ia_3, ja_3, ?_⟩
      obtain ⟨x_3, hx_3, hc⟩ := rdCell (rowRd h 1 encL46 rfl) ha_3 rfl ia_3 ja_3
      replace hp := hp x_3 hx_3
      refine ⟨_, hc 0 _ rfl, _, hc 1 _ rfl, _, hc 2 _ rfl, _, hc 3 _ rfl, ?_⟩
      refine newL (o := [(Value.int .u32 x_3.1), (Value.int .u32 x_3.2.1), (Value.int .i64 x_3.2.2.1), (Value.int .i64 x_3.2.2.2)]) h ?_
      intro b_3 w h
      have sr := (celRd h 0 encL46 rfl [x_3] rfl)
      obtain ⟨hb, hp⟩ := hp
      refine appendL slt27 und27 encL46 encO46 h 4 rfl rfl sr rfl hb ?_
      intro p_4 c_4 w h
      dsimp only [setH, setVs, setV] at h
      have cpp_4 := rowCap h 4 rfl
      refine ⟨_, _, _, rfl, ?_⟩
      replace h := h.sel [1, 1, 1, 1] 1
      dsimp only [pickL, pickR, nthH, delH, dropH, List.cons_append, List.nil_append] at h
      obtain ⟨n_4, hn, hp⟩ := hp
      exact ⟨n_4, hn, (l_2 ++ [x_3]), rfl, rfl, rfl, rfl, rfl, hp, h⟩
    clear hq
    replace h := h.drew
    refine ⟨_, rfl, ?_⟩
    refine ⟨_, _, _, cellL h 0 0 rfl rfl rfl, ?_⟩
    obtain ⟨ia_1, ja_1, hp⟩ := hp
    obtain ⟨a_1, ha_1⟩ := rdAddr (rowRd h 1 encL46 rfl) rfl ia_1 ja_1
    refine ⟨a_1, ha_1, ia_1, ja_1, ?_⟩
    obtain ⟨x_1, hx_1, hc⟩ := rdCell (rowRd h 1 encL46 rfl) ha_1 rfl ia_1 ja_1
    replace hp := hp x_1 hx_1
    refine ⟨_, hc 0 _ rfl, ?_⟩
    refine ⟨by decide, ?_⟩
    refine cond_both hp (fun hp => ?_) (fun hp => ?_)
    · exact ⟨rfl, rfl, rfl, rfl, rfl, rfl, rfl, rfl, hp, h⟩
    refine ⟨_, rfl, ?_⟩
    refine ⟨_, _, _, cellL h 0 0 rfl rfl rfl, ?_⟩
    obtain ⟨ia_2, ja_2, hp⟩ := hp
    obtain ⟨a_2, ha_2⟩ := rdAddr (rowRd h 1 encL46 rfl) rfl ia_2 ja_2
    refine ⟨a_2, ha_2, ia_2, ja_2, ?_⟩
    obtain ⟨x_2, hx_2, hc⟩ := rdCell2 (rowRd h 1 encL46 rfl) ha_2 rfl ia_2 ja_2
    replace hp := hp x_2 hx_2
    refine ⟨_, hc 1 0 _ rfl, _, hc 1 1 _ rfl, ?_⟩
    refine ⟨_, cellL h 2 0 rfl rfl rfl, _, cellL h 2 1 rfl rfl rfl, ?_⟩
    refine neqAgg (xs := [(Value.int .u32 x_2.2.1), (Value.int .i64 x_2.2.2.1)]) (ys := [(Value.int .u32 a_Host), (Value.int .i64 a_Port)]) eqG32 eqA32 (eqT32 x_2.2.1 x_2.2.2.1 a_Host a_Port) ?_
    refine ⟨_, rfl, ?_⟩
    refine ⟨rfl, ?_⟩
    exact ⟨rfl, rfl, rfl, rfl, rfl, rfl, rfl, rfl, hp, h⟩
  clear hq
  refine cond_both hp (fun hp => ?_) (fun hp => ?_)
  · exact ⟨rfl, rfl, rfl, rfl, hp, h⟩
  refine ⟨_, cellL h 0 0 rfl rfl rfl, _, cellL h 0 1 rfl rfl rfl, ?_⟩
  refine embrasureref03_May_ok h hp ?_
  intro r w h hp
  refine ⟨_, rfl, ?_⟩
  refine cond_both hp (fun hp => ?_) (fun hp => ?_)
  · exact ⟨rfl, rfl, rfl, rfl, hp, h⟩
  refine ⟨_, rfl, ?_⟩
  refine ⟨_, cellL h 1 1 rfl rfl rfl, ?_⟩
  refine cond_both hp (fun hp => ?_) (fun hp => ?_)
  · exact ⟨rfl, rfl, rfl, rfl, hp, h⟩
  exact ⟨rfl, rfl, rfl, rfl, hp, h⟩

/-! (*embrasure/embrasureref18.Box).Count (12) -/
def embrasureref18_Box_Count_wp (L : List (Int × Int × Int × Int)) (Now : Int) (now : Int) (a_Host : Int) (a_Port : Int) (K : Int → List (Int × Int × Int × Int) → Int → Prop) : Prop :=
  embrasureref18_Box_on_wp L Now now (fun (L_2 : List (Int × Int × Int × Int)) (Now_2 : Int) => ∃ (I : Nat → Int → Int → Prop), (∃ (n_6 : Nat), I n_6 0 0) ∧ ∀ (n_3 : Nat) (n7 : Int) (i8 : Int), I n_3 n7 i8 → (cond (decide ((i8 : Int) < ((L_2.length : Nat) : Int))) (0 ≤ (i8 : Int) ∧ (i8 : Int) < ((L_2.length : Nat) : Int) ∧ (∀ (x_1 : Int × Int × Int × Int), L_2[Int.toNat i8]? = some x_1 → (cond (((x_1.2.1 : Int) == a_Host) && (((x_1.2.2.1 : Int) == a_Port) && true)) (∃ (n_4 : Nat), n_4 < n_3 ∧ I n_4 (IntKind.wrap .i64 (n7 + 1)) (IntKind.wrap .i64 (i8 + 1))) (∃ (n_5 : Nat), n_5 < n_3 ∧ I n_5 n7 (IntKind.wrap .i64 (i8 + 1)))))) (K n7 L_2 Now_2)))
theorem embrasureref18_Box_Count_ok {b_1 : Nat} {p_1 : Option Addr} {c_1 : Nat} {L : List (Int × Int × Int × Int)} {Now : Int} {now : Int} {a_Host : Int} {a_Port : Int} {FL : List HP} {w : World} {K : Int → List (Int × Int × Int × Int) → Int → Prop} {R : Value → World → Prop}
  (h : Mem (cel b_1 29 [(Value.slice p_1 L.length c_1), (Value.int .i64 Now)] :: row enc46 46 4 p_1 c_1 L :: FL) w) (hp : embrasureref18_Box_Count_wp L Now now a_Host a_Port K)
  (hR : ∀ (r : Int) (L_1 : List (Int × Int × Int × Int)) (Now_1 : Int) (p_2 : Option Addr) (n_1 : Nat) (c_2 : Nat) (w : World), n_1 = L_1.length → Mem (cel b_1 29 [(Value.slice p_2 n_1 c_2), (Value.int .i64 Now_1)] :: row enc46 46 4 p_2 c_2 L_1 :: FL) w → K r L_1 Now_1 → R (Value.int .i64 r) w) :
  CallV Try.prog 12 #[(Value.pointer (some (Addr.mk b_1 0 none))), (Value.int .i64 now), (Value.agg #[(Value.int .u32 a_Host), (Value.int .i64 a_Port)])] w R := by
  refine embrasureref18_Box_Count_call ?_
  unfold embrasureref18_Box_Count
  unfold embrasureref18_Box_Count_wp at hp
  have cpp_1 := rowCap h 1 rfl
  refine newL (o := [(Value.int .u32 a_Host), (Value.int .i64 a_Port)]) h ?_
  intro b_2 w h
  replace h := h.pick [1, 1]
  dsimp only [pickL, pickR, nthH, delH, dropH, List.cons_append, List.nil_append] at h
  refine embrasureref18_Box_on_ok h hp ?_
  rintro L_2 Now_2 p_3 n_2 c_3 w rfl h hp
  have cpp_3 := rowCap h 1 rfl
  refine ⟨rfl, ?_⟩
  obtain ⟨I, ⟨n_6, h0⟩, hq⟩ := hp
  refine ⟨fun n_3 b0 a5 n7 i8 w => (some (Addr.mk b_1 0 none)) = b0 ∧ (Addr.mk b_2 0 none) = a5 ∧ I n_3 n7 i8 ∧ Mem (cel b_1 29 [(Value.slice p_3 L_2.length c_3), (Value.int .i64 Now_2)] :: row enc46 46 4 p_3 c_3 L_2 :: cel b_2 32 [(Value.int .u32 a_Host), (Value.int .i64 a_Port)] :: FL) w, ⟨n_6, rfl, rfl, h0, h⟩, ?_⟩
  clear h0 h
  rintro n_3 b0 a5 n7 i8 w ⟨rfl, rfl, hp, h⟩
  replace hp := hq n_3 n7 i8 hp
  clear hq
  unfold embrasureref18_Box_Count_l1
  refine ⟨_, rfl, ?_⟩
  refine ⟨_, _, _, cellL h 0 0 rfl rfl rfl, ?_⟩
  refine cond_both' hp (fun hp => ?_) (fun hp => ?_)
  · replace h := h.sel [0, 0] 1
    dsimp only [pickL, pickR, nthH, delH, dropH, List.cons_append, List.nil_append] at h
    exact hR n7 L_2 Now_2 p_3 L_2.length c_3 _ rfl h hp
  replace h := h.drew
  refine ⟨_, rfl, ?_⟩
  refine ⟨_, _, _, cellL h 0 0 rfl rfl rfl, ?_⟩
  obtain ⟨ia_1, ja_1, hp⟩ := hp
  obtain ⟨a_1, ha_1⟩ := rdAddr (rowRd h 1 encL46 rfl) rfl ia_1 ja_1
  refine ⟨a_1, ha_1, ia_1, ja_1, ?_⟩
  obtain ⟨x_1, hx_1, hc⟩ := rdCell2 (rowRd h 1 encL46 rfl) ha_1 rfl ia_1 ja_1
  replace hp := hp x_1 hx_1
  refine ⟨_, hc 1 0 _ rfl, _, hc 1 1 _ rfl, ?_⟩
  refine ⟨_, cellL h 2 0 rfl rfl rfl, _, cellL h 2 1 rfl rfl rfl, ?_⟩
  refine eqlAgg (xs := [(Value.int .u32 x_1.2.1), (Value.int .i64 x_1.2.2.1)]) (ys := [(Value.int .u32 a_Host), (Value.int .i64 a_Port)]) eqG32 eqA32 (eqT32 x_1.2.1 x_1.2.2.1 a_Host a_Port) ?_
  refine ⟨_, rfl, ?_⟩
  refine ⟨rfl, ?_⟩
  refine cond_both hp (fun hp => ?_) (fun hp => ?_)
  · obtain ⟨n_4, hn, hp⟩ := hp
    exact ⟨n_4, hn, rfl, rfl, hp, h⟩
  obtain ⟨n_5, hn, hp⟩ := hp
  exact ⟨n_5, hn, rfl, rfl, hp, h⟩

/-! embrasure/embrasureref03.Less (32) -/
def embrasureref03_Less_wp (a_Host : Int) (a_Port : Int) (b_Host : Int) (b_Port : Int) (K : Bool → Prop) : Prop :=
  cond (decide ((a_Host : Int) < b_Host)) (K true) (cond ((a_Host : Int) == b_Host) (K (decide ((a_Port : Int) < b_Port))) (K false))
theorem embrasureref03_Less_ok {a_Host : Int} {a_Port : Int} {b_Host : Int} {b_Port : Int} {FL : List HP} {w : World} {K : Bool → Prop} {R : Value → World → Prop}
  (h : Mem (FL) w) (hp : embrasureref03_Less_wp a_Host a_Port b_Host b_Port K)
  (hR : ∀ (r : Bool) (w : World), Mem (FL) w → K r → R (Value.bool r) w) :
  CallV Try.prog 32 #[(Value.agg #[(Value.int .u32 a_Host), (Value.int .i64 a_Port)]), (Value.agg #[(Value.int .u32 b_Host), (Value.int .i64 b_Port)])] w R := by
  refine embrasureref03_Less_call ?_
  unfold embrasureref03_Less
  unfold embrasureref03_Less_wp at hp
  refine newL (o := [(Value.int .u32 a_Host), (Value.int .i64 a_Port)]) h ?_
  intro b_1 w h
  refine newL (o := [(Value.int .u32 b_Host), (Value.int .i64 b_Port)]) h ?_
  intro b_2 w h
  refine ⟨_, cellL h 1 0 rfl rfl rfl, ?_⟩
  refine ⟨_, cellL h 0 0 rfl rfl rfl, ?_⟩
  refine cond_both hp (fun hp => ?_) (fun hp => ?_)
  · replace h := h.sel [] 2
    dsimp only [pickL, pickR, nthH, delH, dropH, List.cons_append, List.nil_append] at h
    exact hR true _ h hp
  refine ⟨_, cellL h 1 0 rfl rfl rfl, ?_⟩
  refine ⟨_, cellL h 0 0 rfl rfl rfl, ?_⟩
  refine cond_both' hp (fun hp => ?_) (fun hp => ?_)
  · replace h := h.sel [] 2
    dsimp only [pickL, pickR, nthH, delH, dropH, List.cons_append, List.nil_append] at h
    exact hR false _ h hp
  refine ⟨_, cellL h 1 1 rfl rfl rfl, ?_⟩
  refine ⟨_, cellL h 0 1 rfl rfl rfl, ?_⟩
  replace h := h.sel [] 2
  dsimp only [pickL, pickR, nthH, delH, dropH, List.cons_append, List.nil_append] at h
  exact hR (decide ((a_Port : Int) < b_Port)) _ h hp

/-! (*embrasure/embrasureref18.Box).Held (15) -/
def embrasureref18_Box_Held_wp (L : List (Int × Int × Int × Int)) (Now : Int) (now : Int) (K : List (Int × Int) → List (Int × Int × Int × Int) → Int → Prop) : Prop :=
  embrasureref18_Box_on_wp L Now now (fun (L_2 : List (Int × Int × Int × Int)) (Now_2 : Int) => ∃ (I : Nat → List (Int × Int × Int × Int) → Int → List (Int × Int) → Prop), (∃ (n_17 : Nat), I n_17 L_2 Now_2 ([] : List (Int × Int))) ∧ ∀ (n_4 : Nat) (L_3 : List (Int × Int × Int × Int)) (Now_3 : Int) (out : List (Int × Int)), I n_4 L_3 Now_3 out → (cond (decide ((((out.length : Nat) : Int) : Int) < 3)) (joinP5 (fun (Host : Int) (Port : Int) (L_4 : List (Int × Int × Int × Int)) (Now_4 : Int) (n7 : Int) => cond ((n7 : Int) == 0) (K out L_4 Now_4) ((out.length + [(Host, Port)].length) * 16 ≤ 140737488355328 ∧ (∃ (n_16 : Nat), n_16 < n_4 ∧ I n_16 L_4 Now_4 (out ++ [(Host, Port)])))) (fun (Q : Int → Int → List (Int × Int × Int × Int) → Int → Int → Prop) => ∃ (I_1 : Nat → Int → Int → List (Int × Int × Int × Int) → Int → Int → Int → Prop), (∃ (n_15 : Nat), I_1 n_15 0 0 L_3 Now_3 0 0) ∧ ∀ (n_7 : Nat) (Host_1 : Int) (Port_1 : Int) (L_5 : List (Int × Int × Int × Int)) (Now_5 : Int) (n7_1 : Int) (i8 : Int), I_1 n_7 Host_1 Port_1 L_5 Now_5 n7_1 i8 → (cond (decide ((i8 : Int) < ((L_5.length : Nat) : Int))) (0 ≤ (i8 : Int) ∧ (i8 : Int) < ((L_5.length : Nat) : Int) ∧ (∀ (x_1 : Int × Int × Int × Int), L_5[Int.toNat i8]? = some x_1 → (joinP1 (fun (told10 : Bool) => embrasureref18_Box_Count_wp L_5 Now_5 now x_1.2.1 x_1.2.2.1 (fun (r : Int) (L_6 : List (Int × Int × Int × Int)) (Now_6 : Int) => joinP1 (fun (t75 : Bool) => cond t75 (∃ (n_13 : Nat), n_13 < n_7 ∧ I_1 n_13 x_1.2.1 x_1.2.2.1 L_6 Now_6 r (IntKind.wrap .i64 (i8 + 1))) (∃ (n_14 : Nat), n_14 < n_7 ∧ I_1 n_14 Host_1 Port_1 L_6 Now_6 n7_1 (IntKind.wrap .i64 (i8 + 1)))) (fun (Q_2 : Bool → Prop) => cond (!told10) (cond (decide ((r : Int) ≥ 4)) (cond (decide ((r : Int) > n7_1)) (Q_2 true) (cond ((r : Int) == n7_1) (embrasureref03_Less_wp x_1.2.1 x_1.2.2.1 Host_1 Port_1 (fun (r_1 : Bool) => Q_2 r_1)) (Q_2 false))) (Q_2 false)) (Q_2 false)))) (fun (Q_1 : Bool → Prop) => ∃ (I_2 : Nat → Bool → Int → Prop), (∃ (n_11 : Nat), I_2 n_11 false 0) ∧ ∀ (n_8 : Nat) (told10_1 : Bool) (k11 : Int), I_2 n_8 told10_1 k11 → (cond (decide ((k11 : Int) < ((out.length : Nat) : Int))) (cond told10_1 (∃ (n_9 : Nat), n_9 < n_8 ∧ I_2 n_9 true (IntKind.wrap .i64 (k11 + 1))) (0 ≤ (k11 : Int) ∧ (k11 : Int) < ((out.length : Nat) : Int) ∧ (∀ (x_2 : Int × Int), out[Int.toNat k11]? = some x_2 → (∃ (n_10 : Nat), n_10 < n_8 ∧ I_2 n_10 (((x_2.1 : Int) == x_1.2.1) && (((x_2.2 : Int) == x_1.2.2.1) && true)) (IntKind.wrap .i64 (k11 + 1)))))) (Q_1 told10_1)))))) (Q Host_1 Port_1 L_5 Now_5 n7_1)))) (K out L_3 Now_3)))
theorem embrasureref18_Box_Held_ok {b_1 : Nat} {p_1 : Option Addr} {c_1 : Nat} {L : List (Int × Int × Int × Int)} {Now : Int} {now : Int} {FL : List HP} {w : World} {K : List (Int × Int) → List (Int × Int × Int × Int) → Int → Prop} {R : Value → World → Prop}
  (h : Mem (cel b_1 29 [(Value.slice p_1 L.length c_1), (Value.int .i64 Now)] :: row enc46 46 4 p_1 c_1 L :: FL) w) (hp : embrasureref18_Box_Held_wp L Now now K)
  (hR : ∀ (rs : List (Int × Int)) (L_1 : List (Int × Int × Int × Int)) (Now_1 : Int) (p_3 : Option Addr) (n_2 : Nat) (c_3 : Nat) (p_2 : Option Addr) (n_1 : Nat) (c_2 : Nat) (w : World), n_2 = rs.length → n_1 = L_1.length → Mem (row enc32 32 2 p_3 c_3 rs :: cel b_1 29 [(Value.slice p_2 n_1 c_2), (Value.int .i64 Now_1)] :: row enc46 46 4 p_2 c_2 L_1 :: FL) w → K rs L_1 Now_1 → R (Value.slice p_3 n_2 c_3) w) :
  CallV Try.prog 15 #[(Value.pointer (some (Addr.mk b_1 0 none))), (Value.int .i64 now)] w R := by
  refine embrasureref18_Box_Held_call ?_
  unfold embrasureref18_Box_Held
  unfold embrasureref18_Box_Held_wp at hp
  have cpp_1 := rowCap h 1 rfl
  refine embrasureref18_Box_on_ok h hp ?_
  rintro L_2 Now_2 p_3 n_2 c_3 w rfl h hp
  have cpp_3 := rowCap h 1 rfl
  refine ⟨rfl, ?_⟩
  obtain ⟨I, ⟨n_17, h0⟩, hq⟩ := hp
  replace h := rowNil enc32 32 2 h
  replace h := h.sel [1, 1, 0] 0
  dsimp only [pickL, pickR, nthH, delH, dropH, List.cons_append, List.nil_append] at h
  refine ⟨fun n_4 b0 now1 out5p out5l out5c w => ∃ (L_3 : List (Int × Int × Int × Int)), ∃ (p_4 : Option Addr), ∃ (n_3 : Nat), ∃ (c_4 : Nat), ∃ (Now_3 : Int), ∃ (out : List (Int × Int)), (some (Addr.mk b_1 0 none)) = b0 ∧ now = now1 ∧ n_3 = L_3.length ∧ out5l = out.length ∧ I n_4 L_3 Now_3 out ∧ Mem (cel b_1 29 [(Value.slice p_4 n_3 c_4), (Value.int .i64 Now_3)] :: row enc46 46 4 p_4 c_4 L_3 :: row enc32 32 2 out5p out5c out :: FL) w, ⟨n_17, L_2, p_3, L_2.length, c_3, Now_2, ([] : List (Int × Int)), rfl, rfl, rfl, rfl, h0, h⟩, ?_⟩
  clear h0 h
  rintro n_4 b0 now1 out5p out5l out5c w ⟨L_3, p_4, n_3, c_4, Now_3, out, rfl, rfl, rfl, rfl, hp, h⟩
  replace hp := hq n_4 L_3 Now_3 out hp
  clear hq
  unfold embrasureref18_Box_Held_l1
  have cpp_4 := rowCap h 1 rfl
  have cpout5p := rowCap h 2 rfl
  refine cond_both' hp (fun hp => ?_) (fun hp => ?_)
  · replace h := h.sel [2, 0, 0] 0
    dsimp only [pickL, pickR, nthH, delH, dropH, List.cons_append, List.nil_append] at h
    exact hR out L_3 Now_3 out5p out.length out5c p_4 L_3.length c_4 _ rfl rfl h hp
  refine newL (o := [(Value.int .u32 0), (Value.int .i64 0)]) h ?_
  intro b_2 w h
  obtain ⟨Q, hq, hp⟩ := hp
  refine ⟨fun b0_1 now1_1 out5_1p out5_1l out5_1c best6 n7 w => ∃ (Host : Int), ∃ (Port : Int), ∃ (L_4 : List (Int × Int × Int × Int)), ∃ (p_5 : Option Addr), ∃ (n_5 : Nat), ∃ (c_5 : Nat), ∃ (Now_4 : Int), (some (Addr.mk b_1 0 none)) = b0_1 ∧ now = now1_1 ∧ out5p = out5_1p ∧ out.length = out5_1l ∧ out5c = out5_1c ∧ (Addr.mk b_2 0 none) = best6 ∧ n_5 = L_4.length ∧ Q Host Port L_4 Now_4 n7 ∧ Mem (cel b_2 32 [(Value.int .u32 Host), (Value.int .i64 Port)] :: cel b_1 29 [(Value.slice p_5 n_5 c_5), (Value.int .i64 Now_4)] :: row enc46 46 4 p_5 c_5 L_4 :: row enc32 32 2 out5p out5c out :: FL) w, ?_, ?_⟩
  · rintro b0_1 now1_1 out5_1p out5_1l out5_1c best6 n7 w ⟨Host, Port, L_4, p_5, n_5, c_5, Now_4, rfl, rfl, rfl, rfl, rfl, rfl, rfl, hp, h⟩
    replace hp := hq Host Port L_4 Now_4 n7 hp
    unfold embrasureref18_Box_Held_j2
    have cpp_5 := rowCap h 2 rfl
    refine cond_both hp (fun hp => ?_) (fun hp => ?_)
    · replace h := h.sel [3, 1, 1] 1
      dsimp only [pickL, pickR, nthH, delH, dropH, List.cons_append, List.nil_append] at h
      exact hR out L_4 Now_4 out5p out.length out5c p_5 L_4.length c_5 _ rfl rfl h hp
    refine ⟨_, cellL h 0 0 rfl rfl rfl, _, cellL h 0 1 rfl rfl rfl, ?_⟩
    refine newL (o := [(Value.int .u32 Host), (Value.int .i64 Port)]) h ?_
    intro b_4 w h
    have sr := (celRd h 0 encL32 rfl [(Host, Port)] rfl)
    obtain ⟨hb, hp⟩ := hp
    refine appendL slt39 und39 encL32 encO32 h 4 rfl rfl sr rfl hb ?_
    intro p_8 c_8 w h
    dsimp only [setH, setVs, setV] at h
    have cpp_8 := rowCap h 4 rfl
    refine ⟨_, _, _, rfl, ?_⟩
    replace h := h.sel [2, 2, 2] 2
    dsimp only [pickL, pickR, nthH, delH, dropH, List.cons_append, List.nil_append] at h
    obtain ⟨n_16, hn, hp⟩ := hp
    exact ⟨n_16, hn, L_4, p_5, L_4.length, c_5, Now_4, (out ++ [(Host, Port)]), rfl, rfl, rfl, rfl, hp, h⟩
  clear hq
  obtain ⟨I_1, ⟨n_15, h0⟩, hq⟩ := hp
  refine ⟨fun n_7 b0_2 now1_2 out5_2p out5_2l out5_2c best6_1 n7_1 i8 w => ∃ (Host_1 : Int), ∃ (Port_1 : Int), ∃ (L_5 : List (Int × Int × Int × Int)), ∃ (p_6 : Option Addr), ∃ (n_6 : Nat), ∃ (c_6 : Nat), ∃ (Now_5 : Int), (some (Addr.mk b_1 0 none)) = b0_2 ∧ now = now1_2 ∧ out5p = out5_2p ∧ out.length = out5_2l ∧ out5c = out5_2c ∧ (Addr.mk b_2 0 none) = best6_1 ∧ n_6 = L_5.length ∧ I_1 n_7 Host_1 Port_1 L_5 Now_5 n7_1 i8 ∧ Mem (cel b_2 32 [(Value.int .u32 Host_1), (Value.int .i64 Port_1)] :: cel b_1 29 [(Value.slice p_6 n_6 c_6), (Value.int .i64 Now_5)] :: row enc46 46 4 p_6 c_6 L_5 :: row enc32 32 2 out5p out5c out :: FL) w, ⟨n_15, 0, 0, L_3, p_4, L_3.length, c_4, Now_3, rfl, rfl, rfl, rfl, rfl, rfl, rfl, h0, h⟩, ?_⟩
  clear h0 h
  rintro n_7 b0_2 now1_2 out5_2p out5_2l out5_2c best6_1 n7_1 i8 w ⟨Host_1, Port_1, L_5, p_6, n_6, c_6, Now_5, rfl, rfl, rfl, rfl, rfl, rfl, rfl, hp, h⟩
  replace hp := hq n_7 Host_1 Port_1 L_5 Now_5 n7_1 i8 hp
  clear hq
  unfold embrasureref18_Box_Held_l3
  have cpp_6 := rowCap h 2 rfl
  refine ⟨_, rfl, ?_⟩
  refine ⟨_, _, _, cellL h 1 0 rfl rfl rfl, ?_⟩
  refine cond_both' hp (fun hp => ?_) (fun hp => ?_)
  · exact ⟨Host_1, Port_1, L_5, p_6, L_5.length, c_6, Now_5, rfl, rfl, rfl, rfl, rfl, rfl, rfl, hp, h⟩
  refine ⟨_, rfl, ?_⟩
  refine ⟨_, _, _, cellL h 1 0 rfl rfl rfl, ?_⟩
  obtain ⟨ia_1, ja_1, hp⟩ := hp
  obtain ⟨a_1, ha_1⟩ := rdAddr (rowRd h 2 encL46 rfl) rfl ia_1 ja_1
  refine ⟨a_1, ha_1, ia_1, ja_1, ?_⟩
  obtain ⟨x_1, hx_1, hc⟩ := rdCell2 (rowRd h 2 encL46 rfl) ha_1 rfl ia_1 ja_1
  replace hp := hp x_1 hx_1
  refine ⟨_, hc 1 0 _ rfl, _, hc 1 1 _ rfl, ?_⟩
  refine newL (o := [(Value.int .u32 0), (Value.int .i64 0)]) h ?_
  intro b_3 w h
  refine storeL (ys := [(Value.int .u32 x_1.2.1), (Value.int .i64 x_1.2.2.1)]) h 0 0 rfl rfl rfl sz32 rfl rfl ?_
  intro w h
  dsimp only [setH, setVs, setV] at h
  obtain ⟨Q_1, hq, hp⟩ := hp
  refine ⟨fun b0_3 now1_3 out5_3p out5_3l out5_3c best6_2 n7_2 i8_1 a9 told10 w => (some (Addr.mk b_1 0 none)) = b0_3 ∧ now = now1_3 ∧ out5p = out5_3p ∧ out.length = out5_3l ∧ out5c = out5_3c ∧ (Addr.mk b_2 0 none) = best6_2 ∧ n7_1 = n7_2 ∧ i8 = i8_1 ∧ (Addr.mk b_3 0 none) = a9 ∧ Q_1 told10 ∧ Mem (cel b_3 32 [(Value.int .u32 x_1.2.1), (Value.int .i64 x_1.2.2.1)] :: cel b_2 32 [(Value.int .u32 Host_1), (Value.int .i64 Port_1)] :: cel b_1 29 [(Value.slice p_6 L_5.length c_6), (Value.int .i64 Now_5)] :: row enc46 46 4 p_6 c_6 L_5 :: row enc32 32 2 out5p out5c out :: FL) w, ?_, ?_⟩
  · rintro b0_3 now1_3 out5_3p out5_3l out5_3c best6_2 n7_2 i8_1 a9 told10 w ⟨rfl, rfl, rfl, rfl, rfl, rfl, rfl, rfl, rfl, hp, h⟩
    replace hp := hq told10 hp
    unfold embrasureref18_Box_Held_j4
    refine ⟨_, cellL h 0 0 rfl rfl rfl, _, cellL h 0 1 rfl rfl rfl, ?_⟩
    replace h := h.pick [2, 2]
    dsimp only [pickL, pickR, nthH, delH, dropH, List.cons_append, List.nil_append] at h
    refine embrasureref18_Box_Count_ok h hp ?_
    rintro r L_6 Now_6 p_7 n_12 c_7 w rfl h hp
    have cpp_7 := rowCap h 1 rfl
    refine ⟨_, rfl, ?_⟩
    obtain ⟨Q_2, hq, hp⟩ := hp
    refine ⟨fun b0_5 now1_5 out5_5p out5_5l out5_5c best6_4 n7_4 i8_3 a9_2 c12 t75 w => (some (Addr.mk b_1 0 none)) = b0_5 ∧ now = now1_5 ∧ out5p = out5_5p ∧ out.length = out5_5l ∧ out5c = out5_5c ∧ (Addr.mk b_2 0 none) = best6_4 ∧ n7_1 = n7_4 ∧ i8 = i8_3 ∧ (Addr.mk b_3 0 none) = a9_2 ∧ r = c12 ∧ Q_2 t75 ∧ Mem (cel b_1 29 [(Value.slice p_7 L_6.length c_7), (Value.int .i64 Now_6)] :: row enc46 46 4 p_7 c_7 L_6 :: cel b_3 32 [(Value.int .u32 x_1.2.1), (Value.int .i64 x_1.2.2.1)] :: cel b_2 32 [(Value.int .u32 Host_1), (Value.int .i64 Port_1)] :: row enc32 32 2 out5p out5c out :: FL) w, ?_, ?_⟩
    · rintro b0_5 now1_5 out5_5p out5_5l out5_5c best6_4 n7_4 i8_3 a9_2 c12 t75 w ⟨rfl, rfl, rfl, rfl, rfl, rfl, rfl, rfl, rfl, rfl, hp, h⟩
      replace hp := hq t75 hp
      unfold embrasureref18_Box_Held_j5
      refine cond_both' hp (fun hp => ?_) (fun hp => ?_)
      · replace h := h.sel [3, 0, 0, 1] 1
        dsimp only [pickL, pickR, nthH, delH, dropH, List.cons_append, List.nil_append] at h
        obtain ⟨n_14, hn, hp⟩ := hp
        exact ⟨n_14, hn, Host_1, Port_1, L_6, p_7, L_6.length, c_7, Now_6, rfl, rfl, rfl, rfl, rfl, rfl, rfl, hp, h⟩
      refine ⟨_, cellL h 2 0 rfl rfl rfl, _, cellL h 2 1 rfl rfl rfl, ?_⟩
      refine storeL (ys := [(Value.int .u32 x_1.2.1), (Value.int .i64 x_1.2.2.1)]) h 3 0 rfl rfl rfl sz32 rfl rfl ?_
      intro w h
      dsimp only [setH, setVs, setV] at h
      replace h := h.sel [3, 0, 0, 1] 1
      dsimp only [pickL, pickR, nthH, delH, dropH, List.cons_append, List.nil_append] at h
      obtain ⟨n_13, hn, hp⟩ := hp
      exact ⟨n_13, hn, x_1.2.1, x_1.2.2.1, L_6, p_7, L_6.length, c_7, Now_6, rfl, rfl, rfl, rfl, rfl, rfl, rfl, hp, h⟩
    clear hq
    refine cond_both' hp (fun hp => ?_) (fun hp => ?_)
    · exact ⟨rfl, rfl, rfl, rfl, rfl, rfl, rfl, rfl, rfl, rfl, hp, h⟩
    refine cond_both' hp (fun hp => ?_) (fun hp => ?_)
    · exact ⟨rfl, rfl, rfl, rfl, rfl, rfl, rfl, rfl, rfl, rfl, hp, h⟩
    refine cond_both hp (fun hp => ?_) (fun hp => ?_)
    · exact ⟨rfl, rfl, rfl, rfl, rfl, rfl, rfl, rfl, rfl, rfl, hp, h⟩
    refine cond_both' hp (fun hp => ?_) (fun hp => ?_)
    · exact ⟨rfl, rfl, rfl, rfl, rfl, rfl, rfl, rfl, rfl, rfl, hp, h⟩
    refine ⟨_, cellL h 2 0 rfl rfl rfl, _, cellL h 2 1 rfl rfl rfl, ?_⟩
    refine ⟨_, cellL h 3 0 rfl rfl rfl, _, cellL h 3 1 rfl rfl rfl, ?_⟩
    refine embrasureref03_Less_ok h hp ?_
    intro r_1 w h hp
    refine ⟨_, rfl, ?_⟩
    exact ⟨rfl, rfl, rfl, rfl, rfl, rfl, rfl, rfl, rfl, rfl, hp, h⟩
  clear hq
  obtain ⟨I_2, ⟨n_11, h0⟩, hq⟩ := hp
  refine ⟨fun n_8 b0_4 now1_4 out5_4p out5_4l out5_4c best6_3 n7_3 i8_2 a9_1 told10_1 k11 w => (some (Addr.mk b_1 0 none)) = b0_4 ∧ now = now1_4 ∧ out5p = out5_4p ∧ out.length = out5_4l ∧ out5c = out5_4c ∧ (Addr.mk b_2 0 none) = best6_3 ∧ n7_1 = n7_3 ∧ i8 = i8_2 ∧ (Addr.mk b_3 0 none) = a9_1 ∧ I_2 n_8 told10_1 k11 ∧ Mem (cel b_3 32 [(Value.int .u32 x_1.2.1), (Value.int .i64 x_1.2.2.1)] :: cel b_2 32 [(Value.int .u32 Host_1), (Value.int .i64 Port_1)] :: cel b_1 29 [(Value.slice p_6 L_5.length c_6), (Value.int .i64 Now_5)] :: row enc46 46 4 p_6 c_6 L_5 :: row enc32 32 2 out5p out5c out :: FL) w, ⟨n_11, rfl, rfl, rfl, rfl, rfl, rfl, rfl, rfl, rfl, h0, h⟩, ?_⟩
  clear h0 h
  rintro n_8 b0_4 now1_4 out5_4p out5_4l out5_4c best6_3 n7_3 i8_2 a9_1 told10_1 k11 w ⟨rfl, rfl, rfl, rfl, rfl, rfl, rfl, rfl, rfl, hp, h⟩
  replace hp := hq n_8 told10_1 k11 hp
  clear hq
  unfold embrasureref18_Box_Held_l6
  refine cond_both' hp (fun hp => ?_) (fun hp => ?_)
  · exact ⟨rfl, rfl, rfl, rfl, rfl, rfl, rfl, rfl, rfl, hp, h⟩
  replace h := h.drew
  refine cond_both hp (fun hp => ?_) (fun hp => ?_)
  · obtain ⟨n_9, hn, hp⟩ := hp
    exact ⟨n_9, hn, rfl, rfl, rfl, rfl, rfl, rfl, rfl, rfl, rfl, hp, h⟩
  obtain ⟨ia_2, ja_2, hp⟩ := hp
  obtain ⟨a_2, ha_2⟩ := rdAddr (rowRd h 4 encL32 rfl) rfl ia_2 ja_2
  refine ⟨a_2, ha_2, ia_2, ja_2, ?_⟩
  obtain ⟨x_2, hx_2, hc⟩ := rdCell (rowRd h 4 encL32 rfl) ha_2 rfl ia_2 ja_2
  replace hp := hp x_2 hx_2
  refine ⟨_, hc 0 _ rfl, _, hc 1 _ rfl, ?_⟩
  refine ⟨_, cellL h 0 0 rfl rfl rfl, _, cellL h 0 1 rfl rfl rfl, ?_⟩
  refine eqlAgg (xs := [(Value.int .u32 x_2.1), (Value.int .i64 x_2.2)]) (ys := [(Value.int .u32 x_1.2.1), (Value.int .i64 x_1.2.2.1)]) eqG32 eqA32 (eqT32 x_2.1 x_2.2 x_1.2.1 x_1.2.2.1) ?_
  refine ⟨_, rfl, ?_⟩
  refine ⟨rfl, ?_⟩
  obtain ⟨n_10, hn, hp⟩ := hp
  exact ⟨n_10, hn, rfl, rfl, rfl, rfl, rfl, rfl, rfl, rfl, rfl, hp, h⟩

/-! embrasure/embrasureref18.Addrs (13) -/
def embrasureref18_Addrs_wp (a_1 : List (Int × Int)) (b_1 : List (Int × Int)) (K : Bool → Prop) : Prop :=
  cond ((((a_1.length : Nat) : Int) : Int) != ((b_1.length : Nat) : Int)) (K false) (∃ (I : Nat → Int → Prop), (∃ (n_5 : Nat), I n_5 0) ∧ ∀ (n_3 : Nat) (i5 : Int), I n_3 i5 → (cond (decide ((i5 : Int) < ((a_1.length : Nat) : Int))) (0 ≤ (i5 : Int) ∧ (i5 : Int) < ((a_1.length : Nat) : Int) ∧ (∀ (x_1 : Int × Int), a_1[Int.toNat i5]? = some x_1 → (0 ≤ (i5 : Int) ∧ (i5 : Int) < ((b_1.length : Nat) : Int) ∧ (∀ (x_2 : Int × Int), b_1[Int.toNat i5]? = some x_2 → (cond (!(((x_1.1 : Int) == x_2.1) && (((x_1.2 : Int) == x_2.2) && true))) (K false) (∃ (n_4 : Nat), n_4 < n_3 ∧ I n_4 (IntKind.wrap .i64 (i5 + 1)))))))) (K true)))
theorem embrasureref18_Addrs_ok {p_1 : Option Addr} {n_1 : Nat} {c_1 : Nat} {p_2 : Option Addr} {n_2 : Nat} {c_2 : Nat} {a_1 : List (Int × Int)} {b_1 : List (Int × Int)} {FL : List HP} {w : World} {K : Bool → Prop} {R : Value → World → Prop}
  (hF_a_1 : ∀ w, Mem FL w → Rd w 2 p_1 enc32 a_1) (hl_a_1 : n_1 = a_1.length) (hc_a_1 : n_1 ≤ c_1)
  (hF_b_1 : ∀ w, Mem FL w → Rd w 2 p_2 enc32 b_1) (hl_b_1 : n_2 = b_1.length) (hc_b_1 : n_2 ≤ c_2)
  (h : Mem (FL) w) (hp : embrasureref18_Addrs_wp a_1 b_1 K)
  (hR : ∀ (r : Bool) (w : World), Mem (FL) w → K r → R (Value.bool r) w) :
  CallV Try.prog 13 #[(Value.slice p_1 n_1 c_1), (Value.slice p_2 n_2 c_2)] w R := by
  refine embrasureref18_Addrs_call ?_
  unfold embrasureref18_Addrs
  unfold embrasureref18_Addrs_wp at hp
  subst hl_a_1
  subst hl_b_1
  refine cond_both hp (fun hp => ?_) (fun hp => ?_)
  · exact hR false _ h hp
  obtain ⟨I, ⟨n_5, h0⟩, hq⟩ := hp
  refine ⟨fun n_3 a0p a0l a0c b1p b1l b1c i5 w => p_1 = a0p ∧ a_1.length = a0l ∧ c_1 = a0c ∧ p_2 = b1p ∧ b_1.length = b1l ∧ c_2 = b1c ∧ I n_3 i5 ∧ Mem (FL) w, ⟨n_5, rfl, rfl, rfl, rfl, rfl, rfl, h0, h⟩, ?_⟩
  clear h0 h
  rintro n_3 a0p a0l a0c b1p b1l b1c i5 w ⟨rfl, rfl, rfl, rfl, rfl, rfl, hp, h⟩
  replace hp := hq n_3 i5 hp
  clear hq
  unfold embrasureref18_Addrs_l1
  refine cond_both' hp (fun hp => ?_) (fun hp => ?_)
  · exact hR true _ h hp
  replace h := h.drew
  obtain ⟨ia_2, ja_2, hp⟩ := hp
  obtain ⟨a_2, ha_2⟩ := rdAddr (hF_a_1 _ (h.drop 0)) rfl ia_2 ja_2
  refine ⟨a_2, ha_2, ia_2, ja_2, ?_⟩
  obtain ⟨x_1, hx_1, hc⟩ := rdCell (hF_a_1 _ (h.drop 0)) ha_2 rfl ia_2 ja_2
  replace hp := hp x_1 hx_1
  refine ⟨_, hc 0 _ rfl, _, hc 1 _ rfl, ?_⟩
  obtain ⟨ia_3, ja_3, hp⟩ := hp
  obtain ⟨a_3, ha_3⟩ := rdAddr (hF_b_1 _ (h.drop 0)) rfl ia_3 ja_3
  refine ⟨a_3, ha_3, ia_3, ja_3, ?_⟩
  obtain ⟨x_2, hx_2, hc⟩ := rdCell (hF_b_1 _ (h.drop 0)) ha_3 rfl ia_3 ja_3
  replace hp := hp x_2 hx_2
  refine ⟨_, hc 0 _ rfl, _, hc 1 _ rfl, ?_⟩
  refine neqAgg (xs := [(Value.int .u32 x_1.1), (Value.int .i64 x_1.2)]) (ys := [(Value.int .u32 x_2.1), (Value.int .i64 x_2.2)]) eqG32 eqA32 (eqT32 x_1.1 x_1.2 x_2.1 x_2.2) ?_
  refine ⟨_, rfl, ?_⟩
  refine ⟨rfl, ?_⟩
  refine cond_both hp (fun hp => ?_) (fun hp => ?_)
  · exact hR false _ h hp
  obtain ⟨n_4, hn, hp⟩ := hp
  exact ⟨n_4, hn, rfl, rfl, rfl, rfl, rfl, rfl, hp, h⟩

/-! (*embrasure/embrasureref18.Box).All (16) -/
def embrasureref18_Box_All_wp (L : List (Int × Int × Int × Int)) (Now : Int) (now : Int) (K : List (Int × Int × Int × Int) → Int → Prop) : Prop :=
  embrasureref18_Box_on_wp L Now now (fun (L_2 : List (Int × Int × Int × Int)) (Now_2 : Int) => K L_2 Now_2)
theorem embrasureref18_Box_All_ok {b_1 : Nat} {p_1 : Option Addr} {c_1 : Nat} {L : List (Int × Int × Int × Int)} {Now : Int} {now : Int} {FL : List HP} {w : World} {K : List (Int × Int × Int × Int) → Int → Prop} {R : Value → World → Prop}
  (h : Mem (cel b_1 29 [(Value.slice p_1 L.length c_1), (Value.int .i64 Now)] :: row enc46 46 4 p_1 c_1 L :: FL) w) (hp : embrasureref18_Box_All_wp L Now now K)
  (hR : ∀ (L_1 : List (Int × Int × Int × Int)) (Now_1 : Int) (p_2 : Option Addr) (n_1 : Nat) (c_2 : Nat) (w : World), n_1 = L_1.length → Mem (cel b_1 29 [(Value.slice p_2 n_1 c_2), (Value.int .i64 Now_1)] :: row enc46 46 4 p_2 c_2 L_1 :: FL) w → K L_1 Now_1 → R (Value.slice p_2 n_1 c_2) w) :
  CallV Try.prog 16 #[(Value.pointer (some (Addr.mk b_1 0 none))), (Value.int .i64 now)] w R := by
  refine embrasureref18_Box_All_call ?_
  unfold embrasureref18_Box_All
  unfold embrasureref18_Box_All_wp at hp
  have cpp_1 := rowCap h 1 rfl
  refine embrasureref18_Box_on_ok h hp ?_
  rintro L_2 Now_2 p_3 n_2 c_3 w rfl h hp
  have cpp_3 := rowCap h 1 rfl
  refine ⟨rfl, ?_⟩
  refine ⟨_, rfl, ?_⟩
  refine ⟨_, _, _, cellL h 0 0 rfl rfl rfl, ?_⟩
  exact hR L_2 Now_2 p_3 L_2.length c_3 _ rfl h hp

/-! embrasure/embrasurelaw18.VotePlays (3) -/
def embrasurelaw18_VotePlays_wp (script : List (Int × Int × Int × Int)) (K : Bool → Prop) : Prop :=
  embrasurelaw18_awake_wp (fun (r : Bool) => cond (!r) (K (false)) (vote_New_wp (fun (list : List (Int × Int × Int × Int)) (now : Int) => joinP4 (fun (L : List (Int × Int × Int × Int)) (Now : Int) (list_1 : List (Int × Int × Int × Int)) (now_1 : Int) => K (true)) (fun (Q : List (Int × Int × Int × Int) → Int → List (Int × Int × Int × Int) → Int → Prop) => ∃ (I : Nat → List (Int × Int × Int × Int) → Int → List (Int × Int × Int × Int) → Int → Int → Int → Prop), (∃ (n_23 : Nat), I n_23 ([] : List (Int × Int × Int × Int)) 0 list now 0 0) ∧ ∀ (n_7 : Nat) (L_1 : List (Int × Int × Int × Int)) (Now_1 : Int) (list_2 : List (Int × Int × Int × Int)) (now_2 : Int) (now5 : Int) (i6 : Int), I n_7 L_1 Now_1 list_2 now_2 now5 i6 → (joinP1 (fun (t23 : Bool) => cond t23 (0 ≤ (i6 : Int) ∧ (i6 : Int) < ((script.length : Nat) : Int) ∧ (∀ (x_1 : Int × Int × Int × Int), script[Int.toNat i6]? = some x_1 → (joinP1 (fun (now5_2 : Int) => joinP5 (fun (L_2 : List (Int × Int × Int × Int)) (Now_2 : Int) (list_3 : List (Int × Int × Int × Int)) (now_3 : Int) (t79 : Bool) => cond t79 (K (false)) (embrasureref18_Box_All_wp L_2 Now_2 now5_2 (fun (L_6 : List (Int × Int × Int × Int)) (Now_6 : Int) => joinP3 (fun (x_2 : Int) (list_7 : List (Int × Int × Int × Int)) (now_7 : Int) => cond ((x_2 : Int) != ((L_6.length : Nat) : Int)) (K (false)) (∃ (n_22 : Nat), n_22 < n_7 ∧ I n_22 L_6 Now_6 list_7 now_7 (if (Now_6 : Int) < now5_2 then Now_6 else now5_2) (IntKind.wrap .i64 (i6 + 1)))) (fun (Q_5 : Int → List (Int × Int × Int × Int) → Int → Prop) => vote_Box_All_wp list_3 now_3 now5_2 (fun (x_3 : List (Int × Int × Int × Int)) (list_8 : List (Int × Int × Int × Int)) (now_8 : Int) => slices_Values_sl_api_Vote_api_Vote__c1_wp (0, 0) (fun x_5 (s : Nat × Int) K_1 => s.1 = 0 ∧ (joinP1 (fun (t98 : Bool) => cond t98 (K_1 false (1, s.2)) (K_1 true (0, (IntKind.wrap .i64 (s.2 + 1))))) (fun (Q_6 : Bool → Prop) => cond (decide ((s.2 : Int) ≥ ((L_6.length : Nat) : Int))) (Q_6 true) (0 ≤ (s.2 : Int) ∧ (s.2 : Int) < ((L_6.length : Nat) : Int) ∧ (∀ (x_6 : Int × Int × Int × Int), L_6[Int.toNat s.2]? = some x_6 → (Q_6 (!(((x_5.1 : Int) == x_6.1) && ((((x_5.2.1 : Int) == x_6.2.1) && (((x_5.2.2.1 : Int) == x_6.2.2.1) && true)) && (((x_5.2.2.2 : Int) == x_6.2.2.2) && true)))))))))) x_3 (fun (s_1 : (Nat × Int)) => (s_1.1 = 0 ∧ (Q_5 s_1.2 list_8 now_8)) ∨ (s_1.1 ≠ 0 ∧ (K (false))))))))) (fun (Q_4 : List (Int × Int × Int × Int) → Int → List (Int × Int × Int × Int) → Int → Bool → Prop) => vote_Box_Cast_wp list_2 now_2 now5_2 x_1.2.1 x_1.2.2.1 x_1.2.2.2 (fun (r_1 : Int) (list_4 : List (Int × Int × Int × Int)) (now_4 : Int) => embrasureref18_Box_Cast_wp L_1 Now_1 now5_2 x_1.2.1 x_1.2.2.1 x_1.2.2.2 (fun (r_2 : Int) (L_3 : List (Int × Int × Int × Int)) (Now_3 : Int) => cond ((r_1 : Int) != r_2) (Q_4 L_3 Now_3 list_4 now_4 true) (vote_Box_Count_wp list_4 now_4 now5_2 x_1.2.2.1 x_1.2.2.2 (fun (r_3 : Int) (list_5 : List (Int × Int × Int × Int)) (now_5 : Int) => embrasureref18_Box_Count_wp L_3 Now_3 now5_2 x_1.2.2.1 x_1.2.2.2 (fun (r_4 : Int) (L_4 : List (Int × Int × Int × Int)) (Now_4 : Int) => cond ((r_3 : Int) != r_4) (Q_4 L_4 Now_4 list_5 now_5 true) (vote_Box_Held_wp list_5 now_5 now5_2 (fun (rs : List (Int × Int)) (list_6 : List (Int × Int × Int × Int)) (now_6 : Int) => embrasureref18_Box_Held_wp L_4 Now_4 now5_2 (fun (rs_1 : List (Int × Int)) (L_5 : List (Int × Int × Int × Int)) (Now_5 : Int) => embrasureref18_Addrs_wp rs rs_1 (fun (r_5 : Bool) => Q_4 L_5 Now_5 list_6 now_6 (!r_5)))))))))))) (fun (Q_2 : Int → Prop) => joinP1 (fun (t37 : Bool) => cond t37 (Q_2 (IntKind.wrap .i64 (now5 + x_1.1))) (Q_2 now5)) (fun (Q_3 : Bool → Prop) => cond (decide ((x_1.1 : Int) > (-1000))) (Q_3 (decide ((x_1.1 : Int) < 1125899906842624))) (Q_3 false)))))) (Q L_1 Now_1 list_2 now_2)) (fun (Q_1 : Bool → Prop) => cond (decide ((i6 : Int) < ((script.length : Nat) : Int))) (Q_1 (decide ((i6 : Int) < 150))) (Q_1 false)))))))
theorem embrasurelaw18_VotePlays_ok {p_1 : Option Addr} {n_1 : Nat} {c_1 : Nat} {script : List (Int × Int × Int × Int)} {FL : List HP} {w : World} {K : Bool → Prop} {R : Value → World → Prop}
  (hF_script : ∀ w, Mem FL w → Rd w 4 p_1 enc34 script) (hl_script : n_1 = script.length) (hc_script : n_1 ≤ c_1)
  (h : Mem (FL) w) (hp : embrasurelaw18_VotePlays_wp script K)
  (hR : ∀ (r : Bool) (w : World), Mem (FL) w → K r → R (Value.bool r) w) :
  CallV Try.prog 3 #[(Value.slice p_1 n_1 c_1)] w R := by
  refine embrasurelaw18_VotePlays_call ?_
  unfold embrasurelaw18_VotePlays
  unfold embrasurelaw18_VotePlays_wp at hp
  subst hl_script
  replace h := marksNil h
  refine newL (o := [(Value.bool false)]) h ?_
  intro b_1 w h
  refine embrasurelaw18_awake_ok h hp ?_
  intro r w h hp
  refine ⟨_, rfl, ?_⟩
  refine cond_both hp (fun hp => ?_) (fun hp => ?_)
  · refine storeL (ys := [(Value.bool false)]) h 0 0 rfl rfl rfl sz4 rfl rfl ?_
    intro w h
    dsimp only [setH, setVs, setV] at h
    replace h := h.pick [1]
    dsimp only [pickL, pickR, nthH, delH, dropH, List.cons_append, List.nil_append] at h
    refine ⟨_, cellL h 1 0 rfl rfl rfl, ?_⟩
    replace h := h.sel [] 2
    dsimp only [pickL, pickR, nthH, delH, dropH, List.cons_append, List.nil_append] at h
    exact hR (false) _ h hp
  refine vote_New_ok h hp ?_
  rintro list now b_2 p_2 n_2 c_2 w rfl h hp
  have cpp_2 := rowCap h 1 rfl
  refine ⟨_, rfl, ?_⟩
  refine newL (o := [(Value.slice none 0 0), (Value.int .i64 0)]) h ?_
  intro b_3 w h
  obtain ⟨Q, hq, hp⟩ := hp
  refine ⟨fun t2 m_1 w => ∃ (L : List (Int × Int × Int × Int)), ∃ (p_3 : Option Addr), ∃ (n_3 : Nat), ∃ (c_3 : Nat), ∃ (Now : Int), ∃ (list_1 : List (Int × Int × Int × Int)), ∃ (p_4 : Option Addr), ∃ (n_4 : Nat), ∃ (c_4 : Nat), ∃ (now_1 : Int), (Addr.mk b_1 0 none) = t2 ∧ n_3 = L.length ∧ n_4 = list_1.length ∧ Q L Now list_1 now_1 ∧ Mem (cel b_3 29 [(Value.slice p_3 n_3 c_3), (Value.int .i64 Now)] :: row enc46 46 4 p_3 c_3 L :: cel b_2 57 [(Value.slice p_4 n_4 c_4), (Value.int .i64 now_1)] :: row enc46 46 4 p_4 c_4 list_1 :: cel b_1 4 [(Value.bool false)] :: marksP m_1 :: FL) w, ?_, ?_⟩
  · rintro t2 m_1 w ⟨L, p_3, n_3, c_3, Now, list_1, p_4, n_4, c_4, now_1, rfl, rfl, rfl, hp, h⟩
    replace hp := hq L Now list_1 now_1 hp
    unfold embrasurelaw18_VotePlays_j1
    have cpp_3 := rowCap h 1 rfl
    have cpp_4 := rowCap h 3 rfl
    refine storeL (ys := [(Value.bool true)]) h 4 0 rfl rfl rfl sz4 rfl rfl ?_
    intro w h
    dsimp only [setH, setVs, setV] at h
    replace h := h.pick [5]
    dsimp only [pickL, pickR, nthH, delH, dropH, List.cons_append, List.nil_append] at h
    refine finishMarks _ h ?_
    intro w h
    refine ⟨_, cellL h 4 0 rfl rfl rfl, ?_⟩
    replace h := h.sel [] 5
    dsimp only [pickL, pickR, nthH, delH, dropH, List.cons_append, List.nil_append] at h
    exact hR (true) _ h hp
  clear hq
  obtain ⟨I, ⟨n_23, h0⟩, hq⟩ := hp
  replace h := rowNil enc46 46 4 h
  replace h := h.sel [1, 0, 0, 0, 0, 0] 0
  dsimp only [pickL, pickR, nthH, delH, dropH, List.cons_append, List.nil_append] at h
  refine ⟨fun n_7 script0p script0l script0c t2_1 b3 r4 now5 i6 m_2 w => ∃ (L_1 : List (Int × Int × Int × Int)), ∃ (p_5 : Option Addr), ∃ (n_5 : Nat), ∃ (c_5 : Nat), ∃ (Now_1 : Int), ∃ (list_2 : List (Int × Int × Int × Int)), ∃ (p_6 : Option Addr), ∃ (n_6 : Nat), ∃ (c_6 : Nat), ∃ (now_2 : Int), p_1 = script0p ∧ script.length = script0l ∧ c_1 = script0c ∧ (Addr.mk b_1 0 none) = t2_1 ∧ (some (Addr.mk b_2 0 none)) = b3 ∧ (Addr.mk b_3 0 none) = r4 ∧ n_5 = L_1.length ∧ n_6 = list_2.length ∧ I n_7 L_1 Now_1 list_2 now_2 now5 i6 ∧ Mem (cel b_3 29 [(Value.slice p_5 n_5 c_5), (Value.int .i64 Now_1)] :: row enc46 46 4 p_5 c_5 L_1 :: cel b_2 57 [(Value.slice p_6 n_6 c_6), (Value.int .i64 now_2)] :: row enc46 46 4 p_6 c_6 list_2 :: cel b_1 4 [(Value.bool false)] :: marksP m_2 :: FL) w, ⟨n_23, ([] : List (Int × Int × Int × Int)), none , 0, 0, 0, list, p_2, list.length, c_2, now, rfl, rfl, rfl, rfl, rfl, rfl, rfl, rfl, h0, h⟩, ?_⟩
  clear h0 h
  rintro n_7 script0p script0l script0c t2_1 b3 r4 now5 i6 m_2 w ⟨L_1, p_5, n_5, c_5, Now_1, list_2, p_6, n_6, c_6, now_2, rfl, rfl, rfl, rfl, rfl, rfl, rfl, rfl, hp, h⟩
  replace hp := hq n_7 L_1 Now_1 list_2 now_2 now5 i6 hp
  clear hq
  unfold embrasurelaw18_VotePlays_l2
  have cpp_5 := rowCap h 1 rfl
  have cpp_6 := rowCap h 3 rfl
  obtain ⟨Q_1, hq, hp⟩ := hp
  refine ⟨fun script0_1p script0_1l script0_1c t2_2 b3_1 r4_1 now5_1 i6_1 t23 m_3 w => p_1 = script0_1p ∧ script.length = script0_1l ∧ c_1 = script0_1c ∧ (Addr.mk b_1 0 none) = t2_2 ∧ (some (Addr.mk b_2 0 none)) = b3_1 ∧ (Addr.mk b_3 0 none) = r4_1 ∧ now5 = now5_1 ∧ i6 = i6_1 ∧ Q_1 t23 ∧ Mem (cel b_3 29 [(Value.slice p_5 L_1.length c_5), (Value.int .i64 Now_1)] :: row enc46 46 4 p_5 c_5 L_1 :: cel b_2 57 [(Value.slice p_6 list_2.length c_6), (Value.int .i64 now_2)] :: row enc46 46 4 p_6 c_6 list_2 :: cel b_1 4 [(Value.bool false)] :: marksP m_3 :: FL) w, ?_, ?_⟩
  · rintro script0_1p script0_1l script0_1c t2_2 b3_1 r4_1 now5_1 i6_1 t23 m_3 w ⟨rfl, rfl, rfl, rfl, rfl, rfl, rfl, rfl, hp, h⟩
    replace hp := hq t23 hp
    unfold embrasurelaw18_VotePlays_j3
    refine cond_both' hp (fun hp => ?_) (fun hp => ?_)
    · exact ⟨L_1, p_5, L_1.length, c_5, Now_1, list_2, p_6, list_2.length, c_6, now_2, rfl, rfl, rfl, hp, h⟩
    obtain ⟨ia_1, ja_1, hp⟩ := hp
    obtain ⟨a_1, ha_1⟩ := rdAddr (hF_script _ (h.drop 6)) rfl ia_1 ja_1
    refine ⟨a_1, ha_1, ia_1, ja_1, ?_⟩
    obtain ⟨x_1, hx_1, hc⟩ := rdCell (hF_script _ (h.drop 6)) ha_1 rfl ia_1 ja_1
    replace hp := hp x_1 hx_1
    refine ⟨_, hc 0 _ rfl, _, hc 1 _ rfl, _, hc 2 _ rfl, _, hc 3 _ rfl, ?_⟩
    refine newL (o := [(Value.int .i64 0), (Value.int .u32 0), (Value.int .u32 0), (Value.int .i64 0)]) h ?_
    intro b_4 w h
    refine storeL (ys := [(Value.int .i64 x_1.1), (Value.int .u32 x_1.2.1), (Value.int .u32 x_1.2.2.1), (Value.int .i64 x_1.2.2.2)]) h 0 0 rfl rfl rfl sz34 rfl rfl ?_
    intro w h
    dsimp only [setH, setVs, setV] at h
    obtain ⟨Q_2, hq, hp⟩ := hp
    refine ⟨fun script0_2p script0_2l script0_2c t2_3 b3_2 r4_2 now5_2 i6_2 d7 m_4 w => p_1 = script0_2p ∧ script.length = script0_2l ∧ c_1 = script0_2c ∧ (Addr.mk b_1 0 none) = t2_3 ∧ (some (Addr.mk b_2 0 none)) = b3_2 ∧ (Addr.mk b_3 0 none) = r4_2 ∧ i6 = i6_2 ∧ (Addr.mk b_4 0 none) = d7 ∧ Q_2 now5_2 ∧ Mem (cel b_4 34 [(Value.int .i64 x_1.1), (Value.int .u32 x_1.2.1), (Value.int .u32 x_1.2.2.1), (Value.int .i64 x_1.2.2.2)] :: cel b_3 29 [(Value.slice p_5 L_1.length c_5), (Value.int .i64 Now_1)] :: row enc46 46 4 p_5 c_5 L_1 :: cel b_2 57 [(Value.slice p_6 list_2.length c_6), (Value.int .i64 now_2)] :: row enc46 46 4 p_6 c_6 list_2 :: cel b_1 4 [(Value.bool false)] :: marksP m_4 :: FL) w, ?_, ?_⟩
    · rintro script0_2p script0_2l script0_2c t2_3 b3_2 r4_2 now5_2 i6_2 d7 m_4 w ⟨rfl, rfl, rfl, rfl, rfl, rfl, rfl, rfl, hp, h⟩
      replace hp := hq now5_2 hp
      unfold embrasurelaw18_VotePlays_j4
      obtain ⟨Q_4, hq, hp⟩ := hp
      refine ⟨fun script0_4p script0_4l script0_4c t2_5 b3_4 r4_4 now5_4 i6_4 t79 m_6 w => ∃ (L_2 : List (Int × Int × Int × Int)), ∃ (p_7 : Option Addr), ∃ (n_8 : Nat), ∃ (c_7 : Nat), ∃ (Now_2 : Int), ∃ (list_3 : List (Int × Int × Int × Int)), ∃ (p_8 : Option Addr), ∃ (n_9 : Nat), ∃ (c_8 : Nat), ∃ (now_3 : Int), p_1 = script0_4p ∧ script.length = script0_4l ∧ c_1 = script0_4c ∧ (Addr.mk b_1 0 none) = t2_5 ∧ (some (Addr.mk b_2 0 none)) = b3_4 ∧ (Addr.mk b_3 0 none) = r4_4 ∧ now5_2 = now5_4 ∧ i6 = i6_4 ∧ n_8 = L_2.length ∧ n_9 = list_3.length ∧ Q_4 L_2 Now_2 list_3 now_3 t79 ∧ Mem (cel b_4 34 [(Value.int .i64 x_1.1), (Value.int .u32 x_1.2.1), (Value.int .u32 x_1.2.2.1), (Value.int .i64 x_1.2.2.2)] :: cel b_3 29 [(Value.slice p_7 n_8 c_7), (Value.int .i64 Now_2)] :: row enc46 46 4 p_7 c_7 L_2 :: cel b_2 57 [(Value.slice p_8 n_9 c_8), (Value.int .i64 now_3)] :: row enc46 46 4 p_8 c_8 list_3 :: cel b_1 4 [(Value.bool false)] :: marksP m_6 :: FL) w, ?_, ?_⟩
      · rintro script0_4p script0_4l script0_4c t2_5 b3_4 r4_4 now5_4 i6_4 t79 m_6 w ⟨L_2, p_7, n_8, c_7, Now_2, list_3, p_8, n_9, c_8, now_3, rfl, rfl, rfl, rfl, rfl, rfl, rfl, rfl, rfl, rfl, hp, h⟩
        replace hp := hq L_2 Now_2 list_3 now_3 t79 hp
        unfold embrasurelaw18_VotePlays_j5
        have cpp_7 := rowCap h 2 rfl
        have cpp_8 := rowCap h 4 rfl
        refine cond_both hp (fun hp => ?_) (fun hp => ?_)
        · refine storeL (ys := [(Value.bool false)]) h 5 0 rfl rfl rfl sz4 rfl rfl ?_
          intro w h
          dsimp only [setH, setVs, setV] at h
          replace h := h.pick [6]
          dsimp only [pickL, pickR, nthH, delH, dropH, List.cons_append, List.nil_append] at h
          refine finishMarks _ h ?_
          intro w h
          refine ⟨_, cellL h 5 0 rfl rfl rfl, ?_⟩
          replace h := h.sel [] 6
          dsimp only [pickL, pickR, nthH, delH, dropH, List.cons_append, List.nil_append] at h
          exact hR (false) _ h hp
        refine newL (o := [(Value.int .i64 0)]) h ?_
        intro b_5 w h
        refine storeL (ys := [(Value.int .i64 0)]) h 0 0 rfl rfl rfl sz3 rfl rfl ?_
        intro w h
        dsimp only [setH, setVs, setV] at h
        replace h := h.pick [2, 2]
        dsimp only [pickL, pickR, nthH, delH, dropH, List.cons_append, List.nil_append] at h
        refine embrasureref18_Box_All_ok h hp ?_
        rintro L_6 Now_6 p_17 n_18 c_17 w rfl h hp
        have cpp_17 := rowCap h 1 rfl
        refine ⟨_, _, _, rfl, ?_⟩
        refine newL (o := [(Value.slice none 0 0)]) h ?_
        intro b_6 w h
        refine storeL (ys := [(Value.slice p_17 L_6.length c_17)]) h 0 0 rfl rfl rfl sz27 rfl rfl ?_
        intro w h
        dsimp only [setH, setVs, setV] at h
        obtain ⟨Q_5, hq, hp⟩ := hp
        refine ⟨fun script0_5p script0_5l script0_5c t2_6 b3_5 r4_5 now5_5 i6_5 k8 want9 m_7 w => ∃ (x_2 : Int), ∃ (list_7 : List (Int × Int × Int × Int)), ∃ (p_18 : Option Addr), ∃ (n_19 : Nat), ∃ (c_18 : Nat), ∃ (now_7 : Int), p_1 = script0_5p ∧ script.length = script0_5l ∧ c_1 = script0_5c ∧ (Addr.mk b_1 0 none) = t2_6 ∧ (some (Addr.mk b_2 0 none)) = b3_5 ∧ (Addr.mk b_3 0 none) = r4_5 ∧ now5_2 = now5_5 ∧ i6 = i6_5 ∧ (Addr.mk b_5 0 none) = k8 ∧ (Addr.mk b_6 0 none) = want9 ∧ n_19 = list_7.length ∧ Q_5 x_2 list_7 now_7 ∧ Mem (cel b_6 27 [(Value.slice p_17 L_6.length c_17)] :: row enc46 46 4 p_17 c_17 L_6 :: cel b_3 29 [(Value.slice p_17 L_6.length c_17), (Value.int .i64 Now_6)] :: cel b_5 3 [(Value.int .i64 x_2)] :: cel b_4 34 [(Value.int .i64 x_1.1), (Value.int .u32 x_1.2.1), (Value.int .u32 x_1.2.2.1), (Value.int .i64 x_1.2.2.2)] :: cel b_2 57 [(Value.slice p_18 n_19 c_18), (Value.int .i64 now_7)] :: row enc46 46 4 p_18 c_18 list_7 :: cel b_1 4 [(Value.bool false)] :: marksP m_7 :: FL) w, ?_, ?_⟩
        · rintro script0_5p script0_5l script0_5c t2_6 b3_5 r4_5 now5_5 i6_5 k8 want9 m_7 w ⟨x_2, list_7, p_18, n_19, c_18, now_7, rfl, rfl, rfl, rfl, rfl, rfl, rfl, rfl, rfl, rfl, rfl, hp, h⟩
          replace hp := hq x_2 list_7 now_7 hp
          unfold embrasurelaw18_VotePlays_j6
          have cpp_18 := rowCap h 6 rfl
          refine ⟨_, cellL h 3 0 rfl rfl rfl, ?_⟩
          refine ⟨_, _, _, cellL h 0 0 rfl rfl rfl, ?_⟩
          refine cond_both' hp (fun hp => ?_) (fun hp => ?_)
          · refine ⟨_, rfl, ?_⟩
            refine ⟨_, cellL h 2 1 rfl rfl rfl, ?_⟩
            replace h := h.sel [2, 1, 3, 3, 3, 3] 3
            dsimp only [pickL, pickR, nthH, delH, dropH, List.cons_append, List.nil_append] at h
            obtain ⟨n_22, hn, hp⟩ := hp
            exact ⟨n_22, hn, L_6, p_17, L_6.length, c_17, Now_6, list_7, p_18, list_7.length, c_18, now_7, rfl, rfl, rfl, rfl, rfl, rfl, rfl, rfl, hp, h⟩
          refine storeL (ys := [(Value.bool false)]) h 7 0 rfl rfl rfl sz4 rfl rfl ?_
          intro w h
          dsimp only [setH, setVs, setV] at h
          replace h := h.pick [8]
          dsimp only [pickL, pickR, nthH, delH, dropH, List.cons_append, List.nil_append] at h
          refine finishMarks _ h ?_
          intro w h
          refine ⟨_, cellL h 7 0 rfl rfl rfl, ?_⟩
          replace h := h.sel [] 8
          dsimp only [pickL, pickR, nthH, delH, dropH, List.cons_append, List.nil_append] at h
          exact hR (false) _ h hp
        clear hq
        replace h := h.pick [5, 5]
        dsimp only [pickL, pickR, nthH, delH, dropH, List.cons_append, List.nil_append] at h
        refine vote_Box_All_ok h hp ?_
        rintro x_3 list_8 now_8 b_7 p_19 n_20 c_19 p_20 n_21 c_20 w rfl rfl h hp
        have cpp_19 := rowCap h 1 rfl
        have cpp_20 := rowCap h 3 rfl
        refine ⟨_, _, _, rfl, ?_⟩
        intro e_1 fn_e_1 he_e_1 hr_e_1
        refine newO h ?_
        intro d w h
        refine newO h ?_
        intro l_1 w h
        replace h := h.pick [1, 11]
        dsimp only [pickL, pickR, nthH, delH, dropH, List.cons_append, List.nil_append] at h
        replace h := marksPush h
        show rangeCallW _ (Value.func (Fn.func 40) _ _) _ _ _
        refine rangeCallFn (by kernel_rfl) ?_
        replace h := h.pick [1, 3, 3, 3, 3, 3, 3, 3, 3]
        dsimp only [pickL, pickR, nthH, delH, dropH, List.cons_append, List.nil_append] at h
        replace h := h.pick [0, 0, 0, 0, 1, 0, 0, 0, 0]
        dsimp only [pickL, pickR, nthH, delH, dropH, List.cons_append, List.nil_append] at h
        replace h : Mem ((fun (s : Nat × Int) => HL [pt l_1 (loopS (embrasurelaw18_VotePlays_lo1 fn_e_1 e_1 d) s.1 (fun (n : Nat) => ((if n = 0 then none else (some .ret)) : Option Code))), cel b_2 57 [(Value.slice p_20 list_8.length c_20), (Value.int .i64 now_8)], row enc46 46 4 p_20 c_20 list_8, cel b_6 27 [(Value.slice p_17 L_6.length c_17)], row enc46 46 4 p_17 c_17 L_6, cel b_3 29 [(Value.slice p_17 L_6.length c_17), (Value.int .i64 Now_6)], cel b_5 3 [(Value.int .i64 s.2)], cel b_4 34 [(Value.int .i64 x_1.1), (Value.int .u32 x_1.2.1), (Value.int .u32 x_1.2.2.1), (Value.int .i64 x_1.2.2.2)], cel b_1 4 [(Value.bool false)]]) (0, 0) :: marksP (d :: m_6) :: cel b_7 27 [(Value.slice p_19 x_3.length c_19)] :: row enc46 46 4 p_19 c_19 x_3 :: FL) _ := h.pack 9 [pt l_1 (loopS (embrasurelaw18_VotePlays_lo1 fn_e_1 e_1 d) 0 (fun (n : Nat) => ((if n = 0 then none else (some .ret)) : Option Code))), cel b_2 57 [(Value.slice p_20 list_8.length c_20), (Value.int .i64 now_8)], row enc46 46 4 p_20 c_20 list_8, cel b_6 27 [(Value.slice p_17 L_6.length c_17)], row enc46 46 4 p_17 c_17 L_6, cel b_3 29 [(Value.slice p_17 L_6.length c_17), (Value.int .i64 Now_6)], cel b_5 3 [(Value.int .i64 0)], cel b_4 34 [(Value.int .i64 x_1.1), (Value.int .u32 x_1.2.1), (Value.int .u32 x_1.2.2.1), (Value.int .i64 x_1.2.2.2)], cel b_1 4 [(Value.bool false)]] rfl
        replace h := h.pick [2, 0]
        dsimp only [pickL, pickR, nthH, delH, dropH, List.cons_append, List.nil_append] at h
        refine slices_Values_sl_api_Vote_api_Vote__c1_ok (FL := marksP (d :: m_6) :: row enc46 46 4 p_19 c_19 x_3 :: FL) (A0 := (fun (s : Nat × Int) => HL [pt l_1 (loopS (embrasurelaw18_VotePlays_lo1 fn_e_1 e_1 d) s.1 (fun (n : Nat) => ((if n = 0 then none else (some .ret)) : Option Code))), cel b_2 57 [(Value.slice p_20 list_8.length c_20), (Value.int .i64 now_8)], row enc46 46 4 p_20 c_20 list_8, cel b_6 27 [(Value.slice p_17 L_6.length c_17)], row enc46 46 4 p_17 c_17 L_6, cel b_3 29 [(Value.slice p_17 L_6.length c_17), (Value.int .i64 Now_6)], cel b_5 3 [(Value.int .i64 s.2)], cel b_4 34 [(Value.int .i64 x_1.1), (Value.int .u32 x_1.2.1), (Value.int .u32 x_1.2.2.1), (Value.int .i64 x_1.2.2.2)], cel b_1 4 [(Value.bool false)]])) (Y0 := (fun x_5 (s : Nat × Int) K_1 => s.1 = 0 ∧ (joinP1 (fun (t98 : Bool) => cond t98 (K_1 false (1, s.2)) (K_1 true (0, (IntKind.wrap .i64 (s.2 + 1))))) (fun (Q_6 : Bool → Prop) => cond (decide ((s.2 : Int) ≥ ((L_6.length : Nat) : Int))) (Q_6 true) (0 ≤ (s.2 : Int) ∧ (s.2 : Int) < ((L_6.length : Nat) : Int) ∧ (∀ (x_6 : Int × Int × Int × Int), L_6[Int.toNat s.2]? = some x_6 → (Q_6 (!(((x_5.1 : Int) == x_6.1) && ((((x_5.2.1 : Int) == x_6.2.1) && (((x_5.2.2.1 : Int) == x_6.2.2.1) && true)) && (((x_5.2.2.2 : Int) == x_6.2.2.2) && true))))))))))) (σ0 := Nat × Int) (s := (0, 0)) ?_ (fun w h => (rowRd h 1 encL46 rfl)) rfl cpp_19 h hp ?_
        · intro x_5 s K_1 FL2 w R hx h hp hR
          replace h := h.unpack
          dsimp only [pickL, pickR, nthH, delH, dropH, List.cons_append, List.nil_append] at h
          obtain ⟨hst, hp⟩ := hp
          refine embrasurelaw18_VotePlays_r1_yield (by have := objAt h 0 rfl; rw [hst] at this; exact this) he_e_1 hr_e_1 ?_
          unfold embrasurelaw18_VotePlays_r1
          refine newL (o := [(Value.int .u32 0), (Value.int .u32 0), (Value.int .i64 0), (Value.int .i64 0)]) h ?_
          intro b_8 w h
          refine storeL (ys := [(Value.int .u32 x_5.1), (Value.int .u32 x_5.2.1), (Value.int .i64 x_5.2.2.1), (Value.int .i64 x_5.2.2.2)]) h 0 0 rfl rfl rfl sz46 rfl rfl ?_
          intro w h
          dsimp only [setH, setVs, setV] at h
          refine ⟨_, (by have := objAt h 1 rfl; rw [hst] at this; exact this : _ = some (Obj.loop (embrasurelaw18_VotePlays_lo1 fn_e_1 e_1 d))), rfl, ?_⟩
          replace h := h.putK 1 rfl (.loop { embrasurelaw18_VotePlays_lo1 fn_e_1 e_1 d with state := .busy })
          dsimp only [setH] at h
          obtain ⟨Q_6, hq, hp⟩ := hp
          refine ⟨fun t2_7 k8_1 t98 m_8 w => (Addr.mk b_1 0 none) = t2_7 ∧ (Addr.mk b_5 0 none) = k8_1 ∧ ([] : List Nat) = m_8 ∧ Q_6 t98 ∧ Mem (cel b_8 46 [(Value.int .u32 x_5.1), (Value.int .u32 x_5.2.1), (Value.int .i64 x_5.2.2.1), (Value.int .i64 x_5.2.2.2)] :: cel b_2 57 [(Value.slice p_20 list_8.length c_20), (Value.int .i64 now_8)] :: row enc46 46 4 p_20 c_20 list_8 :: cel b_6 27 [(Value.slice p_17 L_6.length c_17)] :: row enc46 46 4 p_17 c_17 L_6 :: cel b_3 29 [(Value.slice p_17 L_6.length c_17), (Value.int .i64 Now_6)] :: cel b_5 3 [(Value.int .i64 s.2)] :: cel b_4 34 [(Value.int .i64 x_1.1), (Value.int .u32 x_1.2.1), (Value.int .u32 x_1.2.2.1), (Value.int .i64 x_1.2.2.2)] :: cel b_1 4 [(Value.bool false)] :: pt l_1 (.loop { embrasurelaw18_VotePlays_lo1 fn_e_1 e_1 d with state := .busy }) :: FL2) w, ?_, ?_⟩
          · rintro t2_7 k8_1 t98 m_8 w ⟨rfl, rfl, rfl, hp, h⟩
            replace hp := hq t98 hp
            unfold embrasurelaw18_VotePlays_j7
            refine cond_both hp (fun hp => ?_) (fun hp => ?_)
            · refine storeL (ys := [(Value.bool false)]) h 8 0 rfl rfl rfl sz4 rfl rfl ?_
              intro w h
              dsimp only [setH, setVs, setV] at h
              refine ⟨_, objAt h 9 rfl, ?_⟩
              replace h := h.putK 9 rfl (loopS (embrasurelaw18_VotePlays_lo1 fn_e_1 e_1 d) 1 (fun (n : Nat) => ((if n = 0 then none else (some .ret)) : Option Code)))
              dsimp only [setH] at h
              replace h := h.pick [9]
              dsimp only [pickL, pickR, nthH, delH, dropH, List.cons_append, List.nil_append] at h
              replace h := h.sel [0, 1, 1, 1, 1, 1, 1, 1, 1] 1
              dsimp only [pickL, pickR, nthH, delH, dropH, List.cons_append, List.nil_append] at h
              exact hR false (1, s.2) _ (h.pack 9 [pt l_1 (loopS (embrasurelaw18_VotePlays_lo1 fn_e_1 e_1 d) 1 (fun (n : Nat) => ((if n = 0 then none else (some .ret)) : Option Code))), cel b_2 57 [(Value.slice p_20 list_8.length c_20), (Value.int .i64 now_8)], row enc46 46 4 p_20 c_20 list_8, cel b_6 27 [(Value.slice p_17 L_6.length c_17)], row enc46 46 4 p_17 c_17 L_6, cel b_3 29 [(Value.slice p_17 L_6.length c_17), (Value.int .i64 Now_6)], cel b_5 3 [(Value.int .i64 s.2)], cel b_4 34 [(Value.int .i64 x_1.1), (Value.int .u32 x_1.2.1), (Value.int .u32 x_1.2.2.1), (Value.int .i64 x_1.2.2.2)], cel b_1 4 [(Value.bool false)]] rfl) hp
            refine ⟨_, cellL h 6 0 rfl rfl rfl, ?_⟩
            refine storeL (ys := [(Value.int .i64 (IntKind.wrap .i64 (s.2 + 1)))]) h 6 0 rfl rfl rfl sz3 rfl rfl ?_
            intro w h
            dsimp only [setH, setVs, setV] at h
            refine ⟨_, objAt h 9 rfl, ?_⟩
            replace h := h.putK 9 rfl (loopS (embrasurelaw18_VotePlays_lo1 fn_e_1 e_1 d) 0 (fun (n : Nat) => ((if n = 0 then none else (some .ret)) : Option Code)))
            dsimp only [setH] at h
            replace h := h.pick [9]
            dsimp only [pickL, pickR, nthH, delH, dropH, List.cons_append, List.nil_append] at h
            replace h := h.sel [0, 1, 1, 1, 1, 1, 1, 1, 1] 1
            dsimp only [pickL, pickR, nthH, delH, dropH, List.cons_append, List.nil_append] at h
            exact hR true (0, (IntKind.wrap .i64 (s.2 + 1))) _ (h.pack 9 [pt l_1 (loopS (embrasurelaw18_VotePlays_lo1 fn_e_1 e_1 d) 0 (fun (n : Nat) => ((if n = 0 then none else (some .ret)) : Option Code))), cel b_2 57 [(Value.slice p_20 list_8.length c_20), (Value.int .i64 now_8)], row enc46 46 4 p_20 c_20 list_8, cel b_6 27 [(Value.slice p_17 L_6.length c_17)], row enc46 46 4 p_17 c_17 L_6, cel b_3 29 [(Value.slice p_17 L_6.length c_17), (Value.int .i64 Now_6)], cel b_5 3 [(Value.int .i64 (IntKind.wrap .i64 (s.2 + 1)))], cel b_4 34 [(Value.int .i64 x_1.1), (Value.int .u32 x_1.2.1), (Value.int .u32 x_1.2.2.1), (Value.int .i64 x_1.2.2.2)], cel b_1 4 [(Value.bool false)]] rfl) hp
          clear hq
          replace h := h.drew
          refine ⟨_, cellL h 7 0 rfl rfl rfl, ?_⟩
          refine ⟨_, _, _, cellL h 4 0 rfl rfl rfl, ?_⟩
          refine ⟨rfl, ?_⟩
          refine cond_both hp (fun hp => ?_) (fun hp => ?_)
          · replace h := h.sel [0, 1, 1, 1, 1, 1, 1, 1, 1, 0] 0
            dsimp only [pickL, pickR, nthH, delH, dropH, List.cons_append, List.nil_append] at h
            exact ⟨rfl, rfl, rfl, hp, h⟩
          refine ⟨_, cellL h 0 0 rfl rfl rfl, _, cellL h 0 1 rfl rfl rfl, _, cellL h 0 2 rfl rfl rfl, _, cellL h 0 3 rfl rfl rfl, ?_⟩
          refine ⟨_, _, _, cellL h 4 0 rfl rfl rfl, ?_⟩
          refine ⟨_, cellL h 7 0 rfl rfl rfl, ?_⟩
          obtain ⟨ia_2, ja_2, hp⟩ := hp
          obtain ⟨a_2, ha_2⟩ := rdAddr (rowRd h 5 encL46 rfl) rfl ia_2 ja_2
          refine ⟨a_2, ha_2, ia_2, ja_2, ?_⟩
          obtain ⟨x_6, hx_6, hc⟩ := rdCell (rowRd h 5 encL46 rfl) ha_2 rfl ia_2 ja_2
          replace hp := hp x_6 hx_6
          refine ⟨_, hc 0 _ rfl, _, hc 1 _ rfl, _, hc 2 _ rfl, _, hc 3 _ rfl, ?_⟩
          refine neqAgg (xs := [(Value.int .u32 x_5.1), (Value.int .u32 x_5.2.1), (Value.int .i64 x_5.2.2.1), (Value.int .i64 x_5.2.2.2)]) (ys := [(Value.int .u32 x_6.1), (Value.int .u32 x_6.2.1), (Value.int .i64 x_6.2.2.1), (Value.int .i64 x_6.2.2.2)]) eqG46 eqA46 (eqT46 x_5.1 x_5.2.1 x_5.2.2.1 x_5.2.2.2 x_6.1 x_6.2.1 x_6.2.2.1 x_6.2.2.2) ?_
          refine ⟨_, rfl, ?_⟩
          refine ⟨rfl, ?_⟩
          replace h := h.sel [0, 1, 1, 1, 1, 1, 1, 1, 1, 0] 0
          dsimp only [pickL, pickR, nthH, delH, dropH, List.cons_append, List.nil_append] at h
          exact ⟨rfl, rfl, rfl, hp, h⟩
        intro s_1 w h hp
        replace h := h.pick [1]
        dsimp only [pickL, pickR, nthH, delH, dropH, List.cons_append, List.nil_append] at h
        replace h := h.unpack
        dsimp only [pickL, pickR, nthH, delH, dropH, List.cons_append, List.nil_append] at h
        refine ⟨_, objAt h 0 rfl, loopS_ns _, ?_⟩
        replace h := h.putK 0 rfl (.loop { embrasurelaw18_VotePlays_lo1 fn_e_1 e_1 d with state := .exhausted, pending := (fun (n : Nat) => ((if n = 0 then none else (some .ret)) : Option Code)) s_1.1 })
        dsimp only [setH] at h
        rcases hp with ⟨hst, hp⟩ | ⟨hst, hp⟩
        · refine Or.inl ?_
          refine ⟨congrArg (fun (n : Nat) => ((if n = 0 then none else (some .ret)) : Option Code)) hst, ?_⟩
          replace h := h.sel [3, 3, 3, 3, 3, 1, 1, 1, 2] 3
          dsimp only [pickL, pickR, nthH, delH, dropH, List.cons_append, List.nil_append] at h
          exact ⟨s_1.2, list_8, p_20, list_8.length, c_20, now_8, rfl, rfl, rfl, rfl, rfl, rfl, rfl, rfl, rfl, rfl, rfl, hp, h⟩
        · refine Or.inr (?_)
          refine ⟨show (fun (n : Nat) => ((if n = 0 then none else (some .ret)) : Option Code)) s_1.1 = _ from if_neg hst, ?_⟩
          replace h := h.pick [10]
          dsimp only [pickL, pickR, nthH, delH, dropH, List.cons_append, List.nil_append] at h
          refine finishMarks _ h ?_
          intro w h
          refine ⟨_, cellL h 8 0 rfl rfl rfl, ?_⟩
          replace h := h.sel [] 11
          dsimp only [pickL, pickR, nthH, delH, dropH, List.cons_append, List.nil_append] at h
          exact hR (false) _ h hp
      clear hq
      replace h := h.drew
      refine ⟨fun w => Mem (cel b_4 34 [(Value.int .i64 x_1.1), (Value.int .u32 x_1.2.1), (Value.int .u32 x_1.2.2.1), (Value.int .i64 x_1.2.2.2)] :: FL) w, (h.sel [0] 6), ?_⟩
      refine ⟨_, cellL h 0 1 rfl rfl rfl, ?_⟩
      refine ⟨?_, ?_⟩
      · intro w h
        change Mem _ _ at h
        refine ⟨_, cellL h 0 1 rfl rfl rfl, ?_⟩
        exact ⟨rfl, rfl⟩
      refine ⟨_, cellL h 0 2 rfl rfl rfl, _, cellL h 0 3 rfl rfl rfl, ?_⟩
      refine ⟨?_, ?_⟩
      · intro w h
        change Mem _ _ at h
        refine ⟨_, cellL h 0 2 rfl rfl rfl, _, cellL h 0 3 rfl rfl rfl, ?_⟩
        exact ⟨rfl, rfl⟩
      refine ⟨_, cellL h 0 1 rfl rfl rfl, ?_⟩
      refine ⟨?_, ?_⟩
      · intro w h
        change Mem _ _ at h
        refine ⟨_, cellL h 0 1 rfl rfl rfl, ?_⟩
        exact ⟨rfl, rfl⟩
      refine ⟨_, cellL h 0 2 rfl rfl rfl, _, cellL h 0 3 rfl rfl rfl, ?_⟩
      refine ⟨?_, ?_⟩
      · intro w h
        change Mem _ _ at h
        refine ⟨_, cellL h 0 2 rfl rfl rfl, _, cellL h 0 3 rfl rfl rfl, ?_⟩
        exact ⟨rfl, rfl⟩
      replace h := h.pick [3, 3]
      dsimp only [pickL, pickR, nthH, delH, dropH, List.cons_append, List.nil_append] at h
      refine vote_Box_Cast_ok h hp ?_
      rintro r_1 list_4 now_4 p_9 n_10 c_9 w rfl h hp
      have cpp_9 := rowCap h 1 rfl
      refine ⟨_, rfl, ?_⟩
      refine ⟨(h.sel [2] 6), ?_⟩
      replace h := h.pick [3, 3]
      dsimp only [pickL, pickR, nthH, delH, dropH, List.cons_append, List.nil_append] at h
      refine embrasureref18_Box_Cast_ok h hp ?_
      rintro r_2 L_3 Now_3 p_10 n_11 c_10 w rfl h hp
      have cpp_10 := rowCap h 1 rfl
      refine ⟨_, rfl, ?_⟩
      refine ⟨(h.sel [4] 6), ?_⟩
      refine cond_both hp (fun hp => ?_) (fun hp => ?_)
      · replace h := h.sel [4, 0, 0, 0, 0, 0, 0] 0
        dsimp only [pickL, pickR, nthH, delH, dropH, List.cons_append, List.nil_append] at h
        exact ⟨L_3, p_10, L_3.length, c_10, Now_3, list_4, p_9, list_4.length, c_9, now_4, rfl, rfl, rfl, rfl, rfl, rfl, rfl, rfl, rfl, rfl, hp, h⟩
      refine ⟨_, cellL h 4 2 rfl rfl rfl, _, cellL h 4 3 rfl rfl rfl, ?_⟩
      refine ⟨_, cellL h 4 2 rfl rfl rfl, _, cellL h 4 3 rfl rfl rfl, ?_⟩
      refine ⟨?_, ?_⟩
      · intro w h
        change Mem _ _ at h
        refine ⟨_, cellL h 0 2 rfl rfl rfl, _, cellL h 0 3 rfl rfl rfl, ?_⟩
        exact ⟨rfl, rfl⟩
      replace h := h.pick [2, 2]
      dsimp only [pickL, pickR, nthH, delH, dropH, List.cons_append, List.nil_append] at h
      refine vote_Box_Count_ok h hp ?_
      rintro r_3 list_5 now_5 p_11 n_12 c_11 w rfl h hp
      have cpp_11 := rowCap h 1 rfl
      refine ⟨_, rfl, ?_⟩
      refine ⟨(h.sel [4] 6), ?_⟩
      replace h := h.pick [2, 2]
      dsimp only [pickL, pickR, nthH, delH, dropH, List.cons_append, List.nil_append] at h
      refine embrasureref18_Box_Count_ok h hp ?_
      rintro r_4 L_4 Now_4 p_12 n_13 c_12 w rfl h hp
      have cpp_12 := rowCap h 1 rfl
      refine ⟨_, rfl, ?_⟩
      refine ⟨(h.sel [4] 6), ?_⟩
      refine cond_both hp (fun hp => ?_) (fun hp => ?_)
      · replace h := h.sel [4, 0, 0, 0, 0, 0, 0] 0
        dsimp only [pickL, pickR, nthH, delH, dropH, List.cons_append, List.nil_append] at h
        exact ⟨L_4, p_12, L_4.length, c_12, Now_4, list_5, p_11, list_5.length, c_11, now_5, rfl, rfl, rfl, rfl, rfl, rfl, rfl, rfl, rfl, rfl, hp, h⟩
      replace h := h.pick [2, 2]
      dsimp only [pickL, pickR, nthH, delH, dropH, List.cons_append, List.nil_append] at h
      refine vote_Box_Held_ok h hp ?_
      rintro rs list_6 now_6 p_13 n_14 c_13 p_14 n_15 c_14 w rfl rfl h hp
      have cpp_13 := rowCap h 0 rfl
      have cpp_14 := rowCap h 2 rfl
      refine ⟨_, _, _, rfl, ?_⟩
      refine ⟨(h.sel [5] 7), ?_⟩
      replace h := h.pick [3, 3]
      dsimp only [pickL, pickR, nthH, delH, dropH, List.cons_append, List.nil_append] at h
      refine embrasureref18_Box_Held_ok h hp ?_
      rintro rs_1 L_5 Now_5 p_15 n_16 c_15 p_16 n_17 c_16 w rfl rfl h hp
      have cpp_15 := rowCap h 0 rfl
      have cpp_16 := rowCap h 2 rfl
      refine ⟨_, _, _, rfl, ?_⟩
      refine ⟨(h.sel [6] 8), ?_⟩
      refine embrasureref18_Addrs_ok (FL := row enc32 32 2 p_15 c_15 rs_1 :: cel b_3 29 [(Value.slice p_16 L_5.length c_16), (Value.int .i64 Now_5)] :: row enc46 46 4 p_16 c_16 L_5 :: row enc32 32 2 p_13 c_13 rs :: cel b_2 57 [(Value.slice p_14 list_6.length c_14), (Value.int .i64 now_6)] :: row enc46 46 4 p_14 c_14 list_6 :: cel b_4 34 [(Value.int .i64 x_1.1), (Value.int .u32 x_1.2.1), (Value.int .u32 x_1.2.2.1), (Value.int .i64 x_1.2.2.2)] :: cel b_1 4 [(Value.bool false)] :: marksP m_4 :: FL) (fun w h => (rowRd h 3 encL32 rfl)) rfl cpp_13 (fun w h => (rowRd h 0 encL32 rfl)) rfl cpp_15 h hp ?_
      intro r_5 w h hp
      refine ⟨_, rfl, ?_⟩
      refine ⟨(h.sel [6] 8), ?_⟩
      replace h := h.sel [6, 1, 1, 2, 2, 2, 2] 2
      dsimp only [pickL, pickR, nthH, delH, dropH, List.cons_append, List.nil_append] at h
      exact ⟨L_5, p_16, L_5.length, c_16, Now_5, list_6, p_14, list_6.length, c_14, now_6, rfl, rfl, rfl, rfl, rfl, rfl, rfl, rfl, rfl, rfl, hp, h⟩
    clear hq
    obtain ⟨Q_3, hq, hp⟩ := hp
    refine ⟨fun script0_3p script0_3l script0_3c t2_4 b3_3 r4_3 now5_3 i6_3 d7_1 t37 m_5 w => p_1 = script0_3p ∧ script.length = script0_3l ∧ c_1 = script0_3c ∧ (Addr.mk b_1 0 none) = t2_4 ∧ (some (Addr.mk b_2 0 none)) = b3_3 ∧ (Addr.mk b_3 0 none) = r4_3 ∧ now5 = now5_3 ∧ i6 = i6_3 ∧ (Addr.mk b_4 0 none) = d7_1 ∧ Q_3 t37 ∧ Mem (cel b_4 34 [(Value.int .i64 x_1.1), (Value.int .u32 x_1.2.1), (Value.int .u32 x_1.2.2.1), (Value.int .i64 x_1.2.2.2)] :: cel b_3 29 [(Value.slice p_5 L_1.length c_5), (Value.int .i64 Now_1)] :: row enc46 46 4 p_5 c_5 L_1 :: cel b_2 57 [(Value.slice p_6 list_2.length c_6), (Value.int .i64 now_2)] :: row enc46 46 4 p_6 c_6 list_2 :: cel b_1 4 [(Value.bool false)] :: marksP m_5 :: FL) w, ?_, ?_⟩
    · rintro script0_3p script0_3l script0_3c t2_4 b3_3 r4_3 now5_3 i6_3 d7_1 t37 m_5 w ⟨rfl, rfl, rfl, rfl, rfl, rfl, rfl, rfl, rfl, hp, h⟩
      replace hp := hq t37 hp
      unfold embrasurelaw18_VotePlays_j8
      refine cond_both' hp (fun hp => ?_) (fun hp => ?_)
      · exact ⟨rfl, rfl, rfl, rfl, rfl, rfl, rfl, rfl, hp, h⟩
      refine ⟨_, cellL h 0 0 rfl rfl rfl, ?_⟩
      exact ⟨rfl, rfl, rfl, rfl, rfl, rfl, rfl, rfl, hp, h⟩
    clear hq
    refine ⟨_, cellL h 0 0 rfl rfl rfl, ?_⟩
    refine cond_both' hp (fun hp => ?_) (fun hp => ?_)
    · exact ⟨rfl, rfl, rfl, rfl, rfl, rfl, rfl, rfl, rfl, hp, h⟩
    refine ⟨_, cellL h 0 0 rfl rfl rfl, ?_⟩
    exact ⟨rfl, rfl, rfl, rfl, rfl, rfl, rfl, rfl, rfl, hp, h⟩
  clear hq
  refine cond_both hp (fun hp => ?_) (fun hp => ?_)
  · exact ⟨rfl, rfl, rfl, rfl, rfl, rfl, rfl, rfl, hp, h⟩
  exact ⟨rfl, rfl, rfl, rfl, rfl, rfl, rfl, rfl, hp, h⟩

/-! embrasure/embrasurelaw18.VoteGroups (4) -/
def embrasurelaw18_VoteGroups_wp (groups_x : Int) (groups_x_1 : Int) (groups_x_2 : Int) (script : List (Int × Int × Int × Int)) (K : Bool → Prop) : Prop :=
  embrasurelaw18_awake_wp (fun (r : Bool) => cond (!r) (K false) (vote_New_wp (fun (list : List (Int × Int × Int × Int)) (now : Int) => joinP2 (fun (list_1 : List (Int × Int × Int × Int)) (now_1 : Int) => vote_New_wp (fun (list_15 : List (Int × Int × Int × Int)) (now_15 : Int) => joinP2 (fun (list_16 : List (Int × Int × Int × Int)) (now_16 : Int) => vote_Box_Held_wp list_16 now_16 1 (fun (rs_3 : List (Int × Int)) (list_19 : List (Int × Int × Int × Int)) (now_19 : Int) => joinP2 (fun (list_20 : List (Int × Int × Int × Int)) (now_20 : Int) => K (decide ((((rs_3.length : Nat) : Int) : Int) ≤ 3))) (fun (Q_9 : List (Int × Int × Int × Int) → Int → Prop) => ∃ (I_2 : Nat → List (Int × Int × Int × Int) → Int → Int → Prop), (∃ (n_39 : Nat), I_2 n_39 list_19 now_19 0) ∧ ∀ (n_36 : Nat) (list_21 : List (Int × Int × Int × Int)) (now_21 : Int) (i12 : Int), I_2 n_36 list_21 now_21 i12 → (cond (decide ((i12 : Int) < ((rs_3.length : Nat) : Int))) (0 ≤ (i12 : Int) ∧ (i12 : Int) < ((rs_3.length : Nat) : Int) ∧ (∀ (x_15 : Int × Int), rs_3[Int.toNat i12]? = some x_15 → (vote_Box_Count_wp list_21 now_21 1 x_15.1 x_15.2 (fun (r_8 : Int) (list_22 : List (Int × Int × Int × Int)) (now_22 : Int) => cond (decide ((r_8 : Int) < 4)) (K false) (∃ (n_38 : Nat), n_38 < n_36 ∧ I_2 n_38 list_22 now_22 (IntKind.wrap .i64 (i12 + 1))))))) (Q_9 list_21 now_21))))) (fun (Q_7 : List (Int × Int × Int × Int) → Int → Prop) => ∃ (I_1 : Nat → List (Int × Int × Int × Int) → Int → Int → Prop), (∃ (n_31 : Nat), I_1 n_31 list_15 now_15 0) ∧ ∀ (n_28 : Nat) (list_17 : List (Int × Int × Int × Int)) (now_17 : Int) (i10 : Int), I_1 n_28 list_17 now_17 i10 → (joinP1 (fun (t93 : Bool) => cond t93 (0 ≤ (i10 : Int) ∧ (i10 : Int) < ((script.length : Nat) : Int) ∧ (∀ (x_13 : Int × Int × Int × Int), script[Int.toNat i10]? = some x_13 → (0 ≤ (i10 : Int) ∧ (i10 : Int) < ((script.length : Nat) : Int) ∧ (∀ (x_14 : Int × Int × Int × Int), script[Int.toNat i10]? = some x_14 → (vote_Box_Cast_wp list_17 now_17 1 x_13.2.1 x_14.2.2.1 x_14.2.2.2 (fun (r_7 : Int) (list_18 : List (Int × Int × Int × Int)) (now_18 : Int) => ∃ (n_30 : Nat), n_30 < n_28 ∧ I_1 n_30 list_18 now_18 (IntKind.wrap .i64 (i10 + 1)))))))) (Q_7 list_17 now_17)) (fun (Q_8 : Bool → Prop) => cond (decide ((i10 : Int) < ((script.length : Nat) : Int))) (Q_8 (decide ((i10 : Int) < 150))) (Q_8 false)))))) (fun (Q : List (Int × Int × Int × Int) → Int → Prop) => ∃ (I : Nat → List (Int × Int × Int × Int) → Int → Int → Int → Prop), (∃ (n_24 : Nat), I n_24 list now 0 0) ∧ ∀ (n_5 : Nat) (list_2 : List (Int × Int × Int × Int)) (now_2 : Int) (now6 : Int) (i7 : Int), I n_5 list_2 now_2 now6 i7 → (joinP1 (fun (t23 : Bool) => cond t23 (joinP1 (fun (now6_2 : Int) => 0 ≤ ((Int.tmod i7 3) : Int) ∧ ((Int.tmod i7 3) : Int) < ((3 : Nat) : Int) ∧ ((((Int.tmod i7 3) : Int) = 0 → (0 ≤ (i7 : Int) ∧ (i7 : Int) < ((script.length : Nat) : Int) ∧ (∀ (x_4 : Int × Int × Int × Int), script[Int.toNat i7]? = some x_4 → (0 ≤ (i7 : Int) ∧ (i7 : Int) < ((script.length : Nat) : Int) ∧ (∀ (x_5 : Int × Int × Int × Int), script[Int.toNat i7]? = some x_5 → (vote_Box_Cast_wp list_2 now_2 now6_2 (bitsV .or .u32 (IntKind.wrap .u32 ((IntKind.wrap .u32 groups_x) * 2 ^ (min (Int.toNat 16) (IntKind.bits .u32)))) (Int.tmod x_4.2.1 65536)) x_5.2.2.1 x_5.2.2.2 (fun (r_1 : Int) (list_3 : List (Int × Int × Int × Int)) (now_3 : Int) => joinP3 (fun (list_4 : List (Int × Int × Int × Int)) (now_4 : Int) (t84 : Bool) => cond t84 (K false) (∃ (n_11 : Nat), n_11 < n_5 ∧ I n_11 list_4 now_4 now6_2 (IntKind.wrap .i64 (i7 + 1)))) (fun (Q_4 : List (Int × Int × Int × Int) → Int → Bool → Prop) => vote_Box_Held_wp list_3 now_3 now6_2 (fun (rs : List (Int × Int)) (list_5 : List (Int × Int × Int × Int)) (now_5 : Int) => cond ((((rs.length : Nat) : Int) : Int) != 0) (Q_4 list_5 now_5 true) (0 ≤ (i7 : Int) ∧ (i7 : Int) < ((script.length : Nat) : Int) ∧ (∀ (x_6 : Int × Int × Int × Int), script[Int.toNat i7]? = some x_6 → (vote_Box_Count_wp list_5 now_5 now6_2 x_6.2.2.1 x_6.2.2.2 (fun (r_2 : Int) (list_6 : List (Int × Int × Int × Int)) (now_6 : Int) => Q_4 list_6 now_6 (decide ((r_2 : Int) > 3))))))))))))))) ∧ (((Int.tmod i7 3) : Int) = 1 → (0 ≤ (i7 : Int) ∧ (i7 : Int) < ((script.length : Nat) : Int) ∧ (∀ (x_7 : Int × Int × Int × Int), script[Int.toNat i7]? = some x_7 → (0 ≤ (i7 : Int) ∧ (i7 : Int) < ((script.length : Nat) : Int) ∧ (∀ (x_8 : Int × Int × Int × Int), script[Int.toNat i7]? = some x_8 → (vote_Box_Cast_wp list_2 now_2 now6_2 (bitsV .or .u32 (IntKind.wrap .u32 ((IntKind.wrap .u32 groups_x_1) * 2 ^ (min (Int.toNat 16) (IntKind.bits .u32)))) (Int.tmod x_7.2.1 65536)) x_8.2.2.1 x_8.2.2.2 (fun (r_3 : Int) (list_7 : List (Int × Int × Int × Int)) (now_7 : Int) => joinP3 (fun (list_8 : List (Int × Int × Int × Int)) (now_8 : Int) (t84_1 : Bool) => cond t84_1 (K false) (∃ (n_17 : Nat), n_17 < n_5 ∧ I n_17 list_8 now_8 now6_2 (IntKind.wrap .i64 (i7 + 1)))) (fun (Q_5 : List (Int × Int × Int × Int) → Int → Bool → Prop) => vote_Box_Held_wp list_7 now_7 now6_2 (fun (rs_1 : List (Int × Int)) (list_9 : List (Int × Int × Int × Int)) (now_9 : Int) => cond ((((rs_1.length : Nat) : Int) : Int) != 0) (Q_5 list_9 now_9 true) (0 ≤ (i7 : Int) ∧ (i7 : Int) < ((script.length : Nat) : Int) ∧ (∀ (x_9 : Int × Int × Int × Int), script[Int.toNat i7]? = some x_9 → (vote_Box_Count_wp list_9 now_9 now6_2 x_9.2.2.1 x_9.2.2.2 (fun (r_4 : Int) (list_10 : List (Int × Int × Int × Int)) (now_10 : Int) => Q_5 list_10 now_10 (decide ((r_4 : Int) > 3))))))))))))))) ∧ (((Int.tmod i7 3) : Int) = 2 → (0 ≤ (i7 : Int) ∧ (i7 : Int) < ((script.length : Nat) : Int) ∧ (∀ (x_10 : Int × Int × Int × Int), script[Int.toNat i7]? = some x_10 → (0 ≤ (i7 : Int) ∧ (i7 : Int) < ((script.length : Nat) : Int) ∧ (∀ (x_11 : Int × Int × Int × Int), script[Int.toNat i7]? = some x_11 → (vote_Box_Cast_wp list_2 now_2 now6_2 (bitsV .or .u32 (IntKind.wrap .u32 ((IntKind.wrap .u32 groups_x_2) * 2 ^ (min (Int.toNat 16) (IntKind.bits .u32)))) (Int.tmod x_10.2.1 65536)) x_11.2.2.1 x_11.2.2.2 (fun (r_5 : Int) (list_11 : List (Int × Int × Int × Int)) (now_11 : Int) => joinP3 (fun (list_12 : List (Int × Int × Int × Int)) (now_12 : Int) (t84_2 : Bool) => cond t84_2 (K false) (∃ (n_23 : Nat), n_23 < n_5 ∧ I n_23 list_12 now_12 now6_2 (IntKind.wrap .i64 (i7 + 1)))) (fun (Q_6 : List (Int × Int × Int × Int) → Int → Bool → Prop) => vote_Box_Held_wp list_11 now_11 now6_2 (fun (rs_2 : List (Int × Int)) (list_13 : List (Int × Int × Int × Int)) (now_13 : Int) => cond ((((rs_2.length : Nat) : Int) : Int) != 0) (Q_6 list_13 now_13 true) (0 ≤ (i7 : Int) ∧ (i7 : Int) < ((script.length : Nat) : Int) ∧ (∀ (x_12 : Int × Int × Int × Int), script[Int.toNat i7]? = some x_12 → (vote_Box_Count_wp list_13 now_13 now6_2 x_12.2.2.1 x_12.2.2.2 (fun (r_6 : Int) (list_14 : List (Int × Int × Int × Int)) (now_14 : Int) => Q_6 list_14 now_14 (decide ((r_6 : Int) > 3))))))))))))))))) (fun (Q_2 : Int → Prop) => joinP1 (fun (t39 : Bool) => cond t39 (0 ≤ (i7 : Int) ∧ (i7 : Int) < ((script.length : Nat) : Int) ∧ (∀ (x_3 : Int × Int × Int × Int), script[Int.toNat i7]? = some x_3 → (Q_2 (IntKind.wrap .i64 (now6 + x_3.1))))) (Q_2 now6)) (fun (Q_3 : Bool → Prop) => 0 ≤ (i7 : Int) ∧ (i7 : Int) < ((script.length : Nat) : Int) ∧ (∀ (x_1 : Int × Int × Int × Int), script[Int.toNat i7]? = some x_1 → (cond (decide ((x_1.1 : Int) > 0)) (0 ≤ (i7 : Int) ∧ (i7 : Int) < ((script.length : Nat) : Int) ∧ (∀ (x_2 : Int × Int × Int × Int), script[Int.toNat i7]? = some x_2 → (Q_3 (decide ((x_2.1 : Int) < 1000))))) (Q_3 false)))))) (Q list_2 now_2)) (fun (Q_1 : Bool → Prop) => cond (decide ((i7 : Int) < ((script.length : Nat) : Int))) (Q_1 (decide ((i7 : Int) < 150))) (Q_1 false)))))))
theorem embrasurelaw18_VoteGroups_ok {p_1 : Option Addr} {n_1 : Nat} {c_1 : Nat} {groups_x : Int} {groups_x_1 : Int} {groups_x_2 : Int} {script : List (Int × Int × Int × Int)} {FL : List HP} {w : World} {K : Bool → Prop} {R : Value → World → Prop}
  (hF_script : ∀ w, Mem FL w → Rd w 4 p_1 enc34 script) (hl_script : n_1 = script.length) (hc_script : n_1 ≤ c_1)
  (h : Mem (FL) w) (hp : embrasurelaw18_VoteGroups_wp groups_x groups_x_1 groups_x_2 script K)
  (hR : ∀ (r : Bool) (w : World), Mem (FL) w → K r → R (Value.bool r) w) :
  CallV Try.prog 4 #[(Value.agg #[(Value.int .u16 groups_x), (Value.int .u16 groups_x_1), (Value.int .u16 groups_x_2)]), (Value.slice p_1 n_1 c_1)] w R := by
  refine embrasurelaw18_VoteGroups_call ?_
  unfold embrasurelaw18_VoteGroups
  unfold embrasurelaw18_VoteGroups_wp at hp
  subst hl_script
  refine newL (o := [(Value.int .u16 groups_x), (Value.int .u16 groups_x_1), (Value.int .u16 groups_x_2)]) h ?_
  intro b_1 w h
  refine embrasurelaw18_awake_ok h hp ?_
  intro r w h hp
  refine ⟨_, rfl, ?_⟩
  refine cond_both hp (fun hp => ?_) (fun hp => ?_)
  · replace h := h.sel [] 1
    dsimp only [pickL, pickR, nthH, delH, dropH, List.cons_append, List.nil_append] at h
    exact hR false _ h hp
  refine vote_New_ok h hp ?_
  rintro list now b_2 p_2 n_2 c_2 w rfl h hp
  have cpp_2 := rowCap h 1 rfl
  refine ⟨_, rfl, ?_⟩
  obtain ⟨Q, hq, hp⟩ := hp
  refine ⟨fun script1p script1l script1c w => ∃ (list_1 : List (Int × Int × Int × Int)), ∃ (p_3 : Option Addr), ∃ (n_3 : Nat), ∃ (c_3 : Nat), ∃ (now_1 : Int), p_1 = script1p ∧ script.length = script1l ∧ c_1 = script1c ∧ n_3 = list_1.length ∧ Q list_1 now_1 ∧ Mem (cel b_2 57 [(Value.slice p_3 n_3 c_3), (Value.int .i64 now_1)] :: row enc46 46 4 p_3 c_3 list_1 :: cel b_1 49 [(Value.int .u16 groups_x), (Value.int .u16 groups_x_1), (Value.int .u16 groups_x_2)] :: FL) w, ?_, ?_⟩
  · rintro script1p script1l script1c w ⟨list_1, p_3, n_3, c_3, now_1, rfl, rfl, rfl, rfl, hp, h⟩
    replace hp := hq list_1 now_1 hp
    unfold embrasurelaw18_VoteGroups_j1
    have cpp_3 := rowCap h 1 rfl
    refine vote_New_ok h hp ?_
    rintro list_15 now_15 b_3 p_20 n_25 c_20 w rfl h hp
    have cpp_20 := rowCap h 1 rfl
    refine ⟨_, rfl, ?_⟩
    obtain ⟨Q_7, hq, hp⟩ := hp
    refine ⟨fun c9 w => ∃ (list_16 : List (Int × Int × Int × Int)), ∃ (p_21 : Option Addr), ∃ (n_26 : Nat), ∃ (c_21 : Nat), ∃ (now_16 : Int), (some (Addr.mk b_3 0 none)) = c9 ∧ n_26 = list_16.length ∧ Q_7 list_16 now_16 ∧ Mem (cel b_3 57 [(Value.slice p_21 n_26 c_21), (Value.int .i64 now_16)] :: row enc46 46 4 p_21 c_21 list_16 :: cel b_2 57 [(Value.slice p_3 list_1.length c_3), (Value.int .i64 now_1)] :: row enc46 46 4 p_3 c_3 list_1 :: cel b_1 49 [(Value.int .u16 groups_x), (Value.int .u16 groups_x_1), (Value.int .u16 groups_x_2)] :: FL) w, ?_, ?_⟩
    · rintro c9 w ⟨list_16, p_21, n_26, c_21, now_16, rfl, rfl, hp, h⟩
      replace hp := hq list_16 now_16 hp
      unfold embrasurelaw18_VoteGroups_j2
      have cpp_21 := rowCap h 1 rfl
      refine vote_Box_Held_ok h hp ?_
      rintro rs_3 list_19 now_19 p_24 n_32 c_24 p_25 n_33 c_25 w rfl rfl h hp
      have cpp_24 := rowCap h 0 rfl
      have cpp_25 := rowCap h 2 rfl
      refine ⟨_, _, _, rfl, ?_⟩
      obtain ⟨Q_9, hq, hp⟩ := hp
      refine ⟨fun held11p held11l held11c w => ∃ (list_20 : List (Int × Int × Int × Int)), ∃ (p_26 : Option Addr), ∃ (n_34 : Nat), ∃ (c_26 : Nat), ∃ (now_20 : Int), p_24 = held11p ∧ rs_3.length = held11l ∧ c_24 = held11c ∧ n_34 = list_20.length ∧ Q_9 list_20 now_20 ∧ Mem (cel b_3 57 [(Value.slice p_26 n_34 c_26), (Value.int .i64 now_20)] :: row enc46 46 4 p_26 c_26 list_20 :: cel b_2 57 [(Value.slice p_3 list_1.length c_3), (Value.int .i64 now_1)] :: row enc46 46 4 p_3 c_3 list_1 :: cel b_1 49 [(Value.int .u16 groups_x), (Value.int .u16 groups_x_1), (Value.int .u16 groups_x_2)] :: row enc32 32 2 p_24 c_24 rs_3 :: FL) w, ?_, ?_⟩
      · rintro held11p held11l held11c w ⟨list_20, p_26, n_34, c_26, now_20, rfl, rfl, rfl, rfl, hp, h⟩
        replace hp := hq list_20 now_20 hp
        unfold embrasurelaw18_VoteGroups_j3
        have cpp_26 := rowCap h 1 rfl
        replace h := h.sel [] 6
        dsimp only [pickL, pickR, nthH, delH, dropH, List.cons_append, List.nil_append] at h
        exact hR (decide ((((rs_3.length : Nat) : Int) : Int) ≤ 3)) _ h hp
      clear hq
      obtain ⟨I_2, ⟨n_39, h0⟩, hq⟩ := hp
      replace h := h.sel [1, 1, 1, 1, 1, 0] 0
      dsimp only [pickL, pickR, nthH, delH, dropH, List.cons_append, List.nil_append] at h
      refine ⟨fun n_36 c9_3 held11_1p held11_1l held11_1c i12 w => ∃ (list_21 : List (Int × Int × Int × Int)), ∃ (p_27 : Option Addr), ∃ (n_35 : Nat), ∃ (c_27 : Nat), ∃ (now_21 : Int), (some (Addr.mk b_3 0 none)) = c9_3 ∧ p_24 = held11_1p ∧ rs_3.length = held11_1l ∧ c_24 = held11_1c ∧ n_35 = list_21.length ∧ I_2 n_36 list_21 now_21 i12 ∧ Mem (cel b_3 57 [(Value.slice p_27 n_35 c_27), (Value.int .i64 now_21)] :: row enc46 46 4 p_27 c_27 list_21 :: cel b_2 57 [(Value.slice p_3 list_1.length c_3), (Value.int .i64 now_1)] :: row enc46 46 4 p_3 c_3 list_1 :: cel b_1 49 [(Value.int .u16 groups_x), (Value.int .u16 groups_x_1), (Value.int .u16 groups_x_2)] :: row enc32 32 2 p_24 c_24 rs_3 :: FL) w, ⟨n_39, list_19, p_25, list_19.length, c_25, now_19, rfl, rfl, rfl, rfl, rfl, h0, h⟩, ?_⟩
      clear h0 h
      rintro n_36 c9_3 held11_1p held11_1l held11_1c i12 w ⟨list_21, p_27, n_35, c_27, now_21, rfl, rfl, rfl, rfl, rfl, hp, h⟩
      replace hp := hq n_36 list_21 now_21 i12 hp
      clear hq
      unfold embrasurelaw18_VoteGroups_l4
      have cpp_27 := rowCap h 1 rfl
      refine cond_both' hp (fun hp => ?_) (fun hp => ?_)
      · exact ⟨list_21, p_27, list_21.length, c_27, now_21, rfl, rfl, rfl, rfl, hp, h⟩
      obtain ⟨ia_15, ja_15, hp⟩ := hp
      obtain ⟨a_15, ha_15⟩ := rdAddr (rowRd h 5 encL32 rfl) rfl ia_15 ja_15
      refine ⟨a_15, ha_15, ia_15, ja_15, ?_⟩
      obtain ⟨x_15, hx_15, hc⟩ := rdCell (rowRd h 5 encL32 rfl) ha_15 rfl ia_15 ja_15
      replace hp := hp x_15 hx_15
      refine ⟨_, hc 0 _ rfl, _, hc 1 _ rfl, ?_⟩
      refine vote_Box_Count_ok h hp ?_
      rintro r_8 list_22 now_22 p_28 n_37 c_28 w rfl h hp
      have cpp_28 := rowCap h 1 rfl
      refine ⟨_, rfl, ?_⟩
      refine cond_both' hp (fun hp => ?_) (fun hp => ?_)
      · obtain ⟨n_38, hn, hp⟩ := hp
        exact ⟨n_38, hn, list_22, p_28, list_22.length, c_28, now_22, rfl, rfl, rfl, rfl, rfl, hp, h⟩
      replace h := h.sel [] 6
      dsimp only [pickL, pickR, nthH, delH, dropH, List.cons_append, List.nil_append] at h
      exact hR false _ h hp
    clear hq
    obtain ⟨I_1, ⟨n_31, h0⟩, hq⟩ := hp
    refine ⟨fun n_28 script1_8p script1_8l script1_8c c9_1 i10 w => ∃ (list_17 : List (Int × Int × Int × Int)), ∃ (p_22 : Option Addr), ∃ (n_27 : Nat), ∃ (c_22 : Nat), ∃ (now_17 : Int), p_1 = script1_8p ∧ script.length = script1_8l ∧ c_1 = script1_8c ∧ (some (Addr.mk b_3 0 none)) = c9_1 ∧ n_27 = list_17.length ∧ I_1 n_28 list_17 now_17 i10 ∧ Mem (cel b_3 57 [(Value.slice p_22 n_27 c_22), (Value.int .i64 now_17)] :: row enc46 46 4 p_22 c_22 list_17 :: cel b_2 57 [(Value.slice p_3 list_1.length c_3), (Value.int .i64 now_1)] :: row enc46 46 4 p_3 c_3 list_1 :: cel b_1 49 [(Value.int .u16 groups_x), (Value.int .u16 groups_x_1), (Value.int .u16 groups_x_2)] :: FL) w, ⟨n_31, list_15, p_20, list_15.length, c_20, now_15, rfl, rfl, rfl, rfl, rfl, h0, h⟩, ?_⟩
    clear h0 h
    rintro n_28 script1_8p script1_8l script1_8c c9_1 i10 w ⟨list_17, p_22, n_27, c_22, now_17, rfl, rfl, rfl, rfl, rfl, hp, h⟩
    replace hp := hq n_28 list_17 now_17 i10 hp
    clear hq
    unfold embrasurelaw18_VoteGroups_l5
    have cpp_22 := rowCap h 1 rfl
    obtain ⟨Q_8, hq, hp⟩ := hp
    refine ⟨fun script1_9p script1_9l script1_9c c9_2 i10_1 t93 w => p_1 = script1_9p ∧ script.length = script1_9l ∧ c_1 = script1_9c ∧ (some (Addr.mk b_3 0 none)) = c9_2 ∧ i10 = i10_1 ∧ Q_8 t93 ∧ Mem (cel b_3 57 [(Value.slice p_22 list_17.length c_22), (Value.int .i64 now_17)] :: row enc46 46 4 p_22 c_22 list_17 :: cel b_2 57 [(Value.slice p_3 list_1.length c_3), (Value.int .i64 now_1)] :: row enc46 46 4 p_3 c_3 list_1 :: cel b_1 49 [(Value.int .u16 groups_x), (Value.int .u16 groups_x_1), (Value.int .u16 groups_x_2)] :: FL) w, ?_, ?_⟩
    · rintro script1_9p script1_9l script1_9c c9_2 i10_1 t93 w ⟨rfl, rfl, rfl, rfl, rfl, hp, h⟩
      replace hp := hq t93 hp
      unfold embrasurelaw18_VoteGroups_j6
      refine cond_both' hp (fun hp => ?_) (fun hp => ?_)
      · exact ⟨list_17, p_22, list_17.length, c_22, now_17, rfl, rfl, hp, h⟩
      replace h := h.drew
      obtain ⟨ia_13, ja_13, hp⟩ := hp
      obtain ⟨a_13, ha_13⟩ := rdAddr (hF_script _ (h.drop 5)) rfl ia_13 ja_13
      refine ⟨a_13, ha_13, ia_13, ja_13, ?_⟩
      obtain ⟨x_13, hx_13, hc⟩ := rdCell (hF_script _ (h.drop 5)) ha_13 rfl ia_13 ja_13
      replace hp := hp x_13 hx_13
      refine ⟨_, hc 1 _ rfl, ?_⟩
      obtain ⟨ia_14, ja_14, hp⟩ := hp
      obtain ⟨a_14, ha_14⟩ := rdAddr (hF_script _ (h.drop 5)) rfl ia_14 ja_14
      refine ⟨a_14, ha_14, ia_14, ja_14, ?_⟩
      obtain ⟨x_14, hx_14, hc⟩ := rdCell2 (hF_script _ (h.drop 5)) ha_14 rfl ia_14 ja_14
      replace hp := hp x_14 hx_14
      refine ⟨_, hc 2 0 _ rfl, _, hc 2 1 _ rfl, ?_⟩
      refine vote_Box_Cast_ok h hp ?_
      rintro r_7 list_18 now_18 p_23 n_29 c_23 w rfl h hp
      have cpp_23 := rowCap h 1 rfl
      refine ⟨_, rfl, ?_⟩
      obtain ⟨n_30, hn, hp⟩ := hp
      exact ⟨n_30, hn, list_18, p_23, list_18.length, c_23, now_18, rfl, rfl, rfl, rfl, rfl, hp, h⟩
    clear hq
    refine cond_both hp (fun hp => ?_) (fun hp => ?_)
    · exact ⟨rfl, rfl, rfl, rfl, rfl, hp, h⟩
    exact ⟨rfl, rfl, rfl, rfl, rfl, hp, h⟩
  clear hq
  obtain ⟨I, ⟨n_24, h0⟩, hq⟩ := hp
  refine ⟨fun n_5 script1_1p script1_1l script1_1c groups2 b5 now6 i7 w => ∃ (list_2 : List (Int × Int × Int × Int)), ∃ (p_4 : Option Addr), ∃ (n_4 : Nat), ∃ (c_4 : Nat), ∃ (now_2 : Int), p_1 = script1_1p ∧ script.length = script1_1l ∧ c_1 = script1_1c ∧ (Addr.mk b_1 0 none) = groups2 ∧ (some (Addr.mk b_2 0 none)) = b5 ∧ n_4 = list_2.length ∧ I n_5 list_2 now_2 now6 i7 ∧ Mem (cel b_2 57 [(Value.slice p_4 n_4 c_4), (Value.int .i64 now_2)] :: row enc46 46 4 p_4 c_4 list_2 :: cel b_1 49 [(Value.int .u16 groups_x), (Value.int .u16 groups_x_1), (Value.int .u16 groups_x_2)] :: FL) w, ⟨n_24, list, p_2, list.length, c_2, now, rfl, rfl, rfl, rfl, rfl, rfl, h0, h⟩, ?_⟩
  clear h0 h
  rintro n_5 script1_1p script1_1l script1_1c groups2 b5 now6 i7 w ⟨list_2, p_4, n_4, c_4, now_2, rfl, rfl, rfl, rfl, rfl, rfl, hp, h⟩
  replace hp := hq n_5 list_2 now_2 now6 i7 hp
  clear hq
  unfold embrasurelaw18_VoteGroups_l7
  have cpp_4 := rowCap h 1 rfl
  obtain ⟨Q_1, hq, hp⟩ := hp
  refine ⟨fun script1_2p script1_2l script1_2c groups2_1 b5_1 now6_1 i7_1 t23 w => p_1 = script1_2p ∧ script.length = script1_2l ∧ c_1 = script1_2c ∧ (Addr.mk b_1 0 none) = groups2_1 ∧ (some (Addr.mk b_2 0 none)) = b5_1 ∧ now6 = now6_1 ∧ i7 = i7_1 ∧ Q_1 t23 ∧ Mem (cel b_2 57 [(Value.slice p_4 list_2.length c_4), (Value.int .i64 now_2)] :: row enc46 46 4 p_4 c_4 list_2 :: cel b_1 49 [(Value.int .u16 groups_x), (Value.int .u16 groups_x_1), (Value.int .u16 groups_x_2)] :: FL) w, ?_, ?_⟩
  · rintro script1_2p script1_2l script1_2c groups2_1 b5_1 now6_1 i7_1 t23 w ⟨rfl, rfl, rfl, rfl, rfl, rfl, rfl, hp, h⟩
    replace hp := hq t23 hp
    unfold embrasurelaw18_VoteGroups_j8
    refine cond_both' hp (fun hp => ?_) (fun hp => ?_)
    · exact ⟨list_2, p_4, list_2.length, c_4, now_2, rfl, rfl, rfl, rfl, hp, h⟩
    obtain ⟨Q_2, hq, hp⟩ := hp
    refine ⟨fun script1_3p script1_3l script1_3c groups2_2 b5_2 now6_2 i7_2 w => p_1 = script1_3p ∧ script.length = script1_3l ∧ c_1 = script1_3c ∧ (Addr.mk b_1 0 none) = groups2_2 ∧ (some (Addr.mk b_2 0 none)) = b5_2 ∧ i7 = i7_2 ∧ Q_2 now6_2 ∧ Mem (cel b_2 57 [(Value.slice p_4 list_2.length c_4), (Value.int .i64 now_2)] :: row enc46 46 4 p_4 c_4 list_2 :: cel b_1 49 [(Value.int .u16 groups_x), (Value.int .u16 groups_x_1), (Value.int .u16 groups_x_2)] :: FL) w, ?_, ?_⟩
    · rintro script1_3p script1_3l script1_3c groups2_2 b5_2 now6_2 i7_2 w ⟨rfl, rfl, rfl, rfl, rfl, rfl, hp, h⟩
      replace hp := hq now6_2 hp
      unfold embrasurelaw18_VoteGroups_j9
      replace h := h.drew
      refine ⟨by decide, ?_⟩
      refine ⟨hp.1, hp.2.1, ?_⟩
      obtain ⟨hi0, hi1, hp⟩ := hp
      rcases (by omega : ((Int.tmod i7 3) : Int) = 0 ∨ ((Int.tmod i7 3) : Int) = 1 ∨ ((Int.tmod i7 3) : Int) = 2) with e_1 | e_1 | e_1
      · replace hp := hp.1 e_1
        try rw [show Int.toNat (Int.tmod i7 3) * 1 = 0 by rw [e_1]; rfl]
        refine ⟨_, cellL h 2 0 rfl rfl rfl, ?_⟩
        refine ⟨by decide, ?_⟩
        obtain ⟨ia_4, ja_4, hp⟩ := hp
        obtain ⟨a_4, ha_4⟩ := rdAddr (hF_script _ (h.drop 3)) rfl ia_4 ja_4
        refine ⟨a_4, ha_4, ia_4, ja_4, ?_⟩
        obtain ⟨x_4, hx_4, hc⟩ := rdCell (hF_script _ (h.drop 3)) ha_4 rfl ia_4 ja_4
        replace hp := hp x_4 hx_4
        refine ⟨_, hc 1 _ rfl, ?_⟩
        refine ⟨by decide, ?_⟩
        obtain ⟨ia_5, ja_5, hp⟩ := hp
        obtain ⟨a_5, ha_5⟩ := rdAddr (hF_script _ (h.drop 3)) rfl ia_5 ja_5
        refine ⟨a_5, ha_5, ia_5, ja_5, ?_⟩
        obtain ⟨x_5, hx_5, hc⟩ := rdCell2 (hF_script _ (h.drop 3)) ha_5 rfl ia_5 ja_5
        replace hp := hp x_5 hx_5
        refine ⟨_, hc 2 0 _ rfl, _, hc 2 1 _ rfl, ?_⟩
        refine vote_Box_Cast_ok h hp ?_
        rintro r_1 list_3 now_3 p_5 n_6 c_5 w rfl h hp
        have cpp_5 := rowCap h 1 rfl
        refine ⟨_, rfl, ?_⟩
        obtain ⟨Q_4, hq, hp⟩ := hp
        refine ⟨fun script1_5p script1_5l script1_5c groups2_4 b5_4 now6_4 i7_4 t84 w => ∃ (list_4 : List (Int × Int × Int × Int)), ∃ (p_6 : Option Addr), ∃ (n_7 : Nat), ∃ (c_6 : Nat), ∃ (now_4 : Int), p_1 = script1_5p ∧ script.length = script1_5l ∧ c_1 = script1_5c ∧ (Addr.mk b_1 0 none) = groups2_4 ∧ (some (Addr.mk b_2 0 none)) = b5_4 ∧ now6_2 = now6_4 ∧ i7 = i7_4 ∧ n_7 = list_4.length ∧ Q_4 list_4 now_4 t84 ∧ Mem (cel b_2 57 [(Value.slice p_6 n_7 c_6), (Value.int .i64 now_4)] :: row enc46 46 4 p_6 c_6 list_4 :: cel b_1 49 [(Value.int .u16 groups_x), (Value.int .u16 groups_x_1), (Value.int .u16 groups_x_2)] :: FL) w, ?_, ?_⟩
        · rintro script1_5p script1_5l script1_5c groups2_4 b5_4 now6_4 i7_4 t84 w ⟨list_4, p_6, n_7, c_6, now_4, rfl, rfl, rfl, rfl, rfl, rfl, rfl, rfl, hp, h⟩
          replace hp := hq list_4 now_4 t84 hp
          unfold embrasurelaw18_VoteGroups_j10
          have cpp_6 := rowCap h 1 rfl
          refine cond_both' hp (fun hp => ?_) (fun hp => ?_)
          · obtain ⟨n_11, hn, hp⟩ := hp
            exact ⟨n_11, hn, list_4, p_6, list_4.length, c_6, now_4, rfl, rfl, rfl, rfl, rfl, rfl, hp, h⟩
          replace h := h.sel [] 3
          dsimp only [pickL, pickR, nthH, delH, dropH, List.cons_append, List.nil_append] at h
          exact hR false _ h hp
        clear hq
        refine vote_Box_Held_ok h hp ?_
        rintro rs list_5 now_5 p_7 n_8 c_7 p_8 n_9 c_8 w rfl rfl h hp
        have cpp_7 := rowCap h 0 rfl
        have cpp_8 := rowCap h 2 rfl
        refine ⟨_, _, _, rfl, ?_⟩
        refine cond_both hp (fun hp => ?_) (fun hp => ?_)
        · replace h := h.sel [1, 1, 1] 1
          dsimp only [pickL, pickR, nthH, delH, dropH, List.cons_append, List.nil_append] at h
          exact ⟨list_5, p_8, list_5.length, c_8, now_5, rfl, rfl, rfl, rfl, rfl, rfl, rfl, rfl, hp, h⟩
        obtain ⟨ia_6, ja_6, hp⟩ := hp
        obtain ⟨a_6, ha_6⟩ := rdAddr (hF_script _ (h.drop 4)) rfl ia_6 ja_6
        refine ⟨a_6, ha_6, ia_6, ja_6, ?_⟩
        obtain ⟨x_6, hx_6, hc⟩ := rdCell2 (hF_script _ (h.drop 4)) ha_6 rfl ia_6 ja_6
        replace hp := hp x_6 hx_6
        refine ⟨_, hc 2 0 _ rfl, _, hc 2 1 _ rfl, ?_⟩
        replace h := h.pick [1, 1]
        dsimp only [pickL, pickR, nthH, delH, dropH, List.cons_append, List.nil_append] at h
        refine vote_Box_Count_ok h hp ?_
        rintro r_2 list_6 now_6 p_9 n_10 c_9 w rfl h hp
        have cpp_9 := rowCap h 1 rfl
        refine ⟨_, rfl, ?_⟩
        replace h := h.sel [0, 0, 1] 1
        dsimp only [pickL, pickR, nthH, delH, dropH, List.cons_append, List.nil_append] at h
        exact ⟨list_6, p_9, list_6.length, c_9, now_6, rfl, rfl, rfl, rfl, rfl, rfl, rfl, rfl, hp, h⟩
      · replace hp := hp.2.1 e_1
        try rw [show Int.toNat (Int.tmod i7 3) * 1 = 1 by rw [e_1]; rfl]
        refine ⟨_, cellL h 2 1 rfl rfl rfl, ?_⟩
        refine ⟨by decide, ?_⟩
        obtain ⟨ia_7, ja_7, hp⟩ := hp
        obtain ⟨a_7, ha_7⟩ := rdAddr (hF_script _ (h.drop 3)) rfl ia_7 ja_7
        refine ⟨a_7, ha_7, ia_7, ja_7, ?_⟩
        obtain ⟨x_7, hx_7, hc⟩ := rdCell (hF_script _ (h.drop 3)) ha_7 rfl ia_7 ja_7
        replace hp := hp x_7 hx_7
        refine ⟨_, hc 1 _ rfl, ?_⟩
        refine ⟨by decide, ?_⟩
        obtain ⟨ia_8, ja_8, hp⟩ := hp
        obtain ⟨a_8, ha_8⟩ := rdAddr (hF_script _ (h.drop 3)) rfl ia_8 ja_8
        refine ⟨a_8, ha_8, ia_8, ja_8, ?_⟩
        obtain ⟨x_8, hx_8, hc⟩ := rdCell2 (hF_script _ (h.drop 3)) ha_8 rfl ia_8 ja_8
        replace hp := hp x_8 hx_8
        refine ⟨_, hc 2 0 _ rfl, _, hc 2 1 _ rfl, ?_⟩
        refine vote_Box_Cast_ok h hp ?_
        rintro r_3 list_7 now_7 p_10 n_12 c_10 w rfl h hp
        have cpp_10 := rowCap h 1 rfl
        refine ⟨_, rfl, ?_⟩
        obtain ⟨Q_5, hq, hp⟩ := hp
        refine ⟨fun script1_6p script1_6l script1_6c groups2_5 b5_5 now6_5 i7_5 t84_1 w => ∃ (list_8 : List (Int × Int × Int × Int)), ∃ (p_11 : Option Addr), ∃ (n_13 : Nat), ∃ (c_11 : Nat), ∃ (now_8 : Int), p_1 = script1_6p ∧ script.length = script1_6l ∧ c_1 = script1_6c ∧ (Addr.mk b_1 0 none) = groups2_5 ∧ (some (Addr.mk b_2 0 none)) = b5_5 ∧ now6_2 = now6_5 ∧ i7 = i7_5 ∧ n_13 = list_8.length ∧ Q_5 list_8 now_8 t84_1 ∧ Mem (cel b_2 57 [(Value.slice p_11 n_13 c_11), (Value.int .i64 now_8)] :: row enc46 46 4 p_11 c_11 list_8 :: cel b_1 49 [(Value.int .u16 groups_x), (Value.int .u16 groups_x_1), (Value.int .u16 groups_x_2)] :: FL) w, ?_, ?_⟩
        · rintro script1_6p script1_6l script1_6c groups2_5 b5_5 now6_5 i7_5 t84_1 w ⟨list_8, p_11, n_13, c_11, now_8, rfl, rfl, rfl, rfl, rfl, rfl, rfl, rfl, hp, h⟩
          replace hp := hq list_8 now_8 t84_1 hp
          unfold embrasurelaw18_VoteGroups_j10
          have cpp_11 := rowCap h 1 rfl
          refine cond_both' hp (fun hp => ?_) (fun hp => ?_)
          · obtain ⟨n_17, hn, hp⟩ := hp
            exact ⟨n_17, hn, list_8, p_11, list_8.length, c_11, now_8, rfl, rfl, rfl, rfl, rfl, rfl, hp, h⟩
          replace h := h.sel [] 3
          dsimp only [pickL, pickR, nthH, delH, dropH, List.cons_append, List.nil_append] at h
          exact hR false _ h hp
        clear hq
        refine vote_Box_Held_ok h hp ?_
        rintro rs_1 list_9 now_9 p_12 n_14 c_12 p_13 n_15 c_13 w rfl rfl h hp
        have cpp_12 := rowCap h 0 rfl
        have cpp_13 := rowCap h 2 rfl
        refine ⟨_, _, _, rfl, ?_⟩
        refine cond_both hp (fun hp => ?_) (fun hp => ?_)
        · replace h := h.sel [1, 1, 1] 1
          dsimp only [pickL, pickR, nthH, delH, dropH, List.cons_append, List.nil_append] at h
          exact ⟨list_9, p_13, list_9.length, c_13, now_9, rfl, rfl, rfl, rfl, rfl, rfl, rfl, rfl, hp, h⟩
        obtain ⟨ia_9, ja_9, hp⟩ := hp
        obtain ⟨a_9, ha_9⟩ := rdAddr (hF_script _ (h.drop 4)) rfl ia_9 ja_9
        refine ⟨a_9, ha_9, ia_9, ja_9, ?_⟩
        obtain ⟨x_9, hx_9, hc⟩ := rdCell2 (hF_script _ (h.drop 4)) ha_9 rfl ia_9 ja_9
        replace hp := hp x_9 hx_9
        refine ⟨_, hc 2 0 _ rfl, _, hc 2 1 _ rfl, ?_⟩
        replace h := h.pick [1, 1]
        dsimp only [pickL, pickR, nthH, delH, dropH, List.cons_append, List.nil_append] at h
        refine vote_Box_Count_ok h hp ?_
        rintro r_4 list_10 now_10 p_14 n_16 c_14 w rfl h hp
        have cpp_14 := rowCap h 1 rfl
        refine ⟨_, rfl, ?_⟩
        replace h := h.sel [0, 0, 1] 1
        dsimp only [pickL, pickR, nthH, delH, dropH, List.cons_append, List.nil_append] at h
        exact ⟨list_10, p_14, list_10.length, c_14, now_10, rfl, rfl, rfl, rfl, rfl, rfl, rfl, rfl, hp, h⟩
      · replace hp := hp.2.2 e_1
        try rw [show Int.toNat (Int.tmod i7 3) * 1 = 2 by rw [e_1]; rfl]
        refine ⟨_, cellL h 2 2 rfl rfl rfl, ?_⟩
        refine ⟨by decide, ?_⟩
        obtain ⟨ia_10, ja_10, hp⟩ := hp
        obtain ⟨a_10, ha_10⟩ := rdAddr (hF_script _ (h.drop 3)) rfl ia_10 ja_10
        refine ⟨a_10, ha_10, ia_10, ja_10, ?_⟩
        obtain ⟨x_10, hx_10, hc⟩ := rdCell (hF_script _ (h.drop 3)) ha_10 rfl ia_10 ja_10
        replace hp := hp x_10 hx_10
        refine ⟨_, hc 1 _ rfl, ?_⟩
        refine ⟨by decide, ?_⟩
        obtain ⟨ia_11, ja_11, hp⟩ := hp
        obtain ⟨a_11, ha_11⟩ := rdAddr (hF_script _ (h.drop 3)) rfl ia_11 ja_11
        refine ⟨a_11, ha_11, ia_11, ja_11, ?_⟩
        obtain ⟨x_11, hx_11, hc⟩ := rdCell2 (hF_script _ (h.drop 3)) ha_11 rfl ia_11 ja_11
        replace hp := hp x_11 hx_11
        refine ⟨_, hc 2 0 _ rfl, _, hc 2 1 _ rfl, ?_⟩
        refine vote_Box_Cast_ok h hp ?_
        rintro r_5 list_11 now_11 p_15 n_18 c_15 w rfl h hp
        have cpp_15 := rowCap h 1 rfl
        refine ⟨_, rfl, ?_⟩
        obtain ⟨Q_6, hq, hp⟩ := hp
        refine ⟨fun script1_7p script1_7l script1_7c groups2_6 b5_6 now6_6 i7_6 t84_2 w => ∃ (list_12 : List (Int × Int × Int × Int)), ∃ (p_16 : Option Addr), ∃ (n_19 : Nat), ∃ (c_16 : Nat), ∃ (now_12 : Int), p_1 = script1_7p ∧ script.length = script1_7l ∧ c_1 = script1_7c ∧ (Addr.mk b_1 0 none) = groups2_6 ∧ (some (Addr.mk b_2 0 none)) = b5_6 ∧ now6_2 = now6_6 ∧ i7 = i7_6 ∧ n_19 = list_12.length ∧ Q_6 list_12 now_12 t84_2 ∧ Mem (cel b_2 57 [(Value.slice p_16 n_19 c_16), (Value.int .i64 now_12)] :: row enc46 46 4 p_16 c_16 list_12 :: cel b_1 49 [(Value.int .u16 groups_x), (Value.int .u16 groups_x_1), (Value.int .u16 groups_x_2)] :: FL) w, ?_, ?_⟩
        · rintro script1_7p script1_7l script1_7c groups2_6 b5_6 now6_6 i7_6 t84_2 w ⟨list_12, p_16, n_19, c_16, now_12, rfl, rfl, rfl, rfl, rfl, rfl, rfl, rfl, hp, h⟩
          replace hp := hq list_12 now_12 t84_2 hp
          unfold embrasurelaw18_VoteGroups_j10
          have cpp_16 := rowCap h 1 rfl
          refine cond_both' hp (fun hp => ?_) (fun hp => ?_)
          · obtain ⟨n_23, hn, hp⟩ := hp
            exact ⟨n_23, hn, list_12, p_16, list_12.length, c_16, now_12, rfl, rfl, rfl, rfl, rfl, rfl, hp, h⟩
          replace h := h.sel [] 3
          dsimp only [pickL, pickR, nthH, delH, dropH, List.cons_append, List.nil_append] at h
          exact hR false _ h hp
        clear hq
        refine vote_Box_Held_ok h hp ?_
        rintro rs_2 list_13 now_13 p_17 n_20 c_17 p_18 n_21 c_18 w rfl rfl h hp
        have cpp_17 := rowCap h 0 rfl
        have cpp_18 := rowCap h 2 rfl
        refine ⟨_, _, _, rfl, ?_⟩
        refine cond_both hp (fun hp => ?_) (fun hp => ?_)
        · replace h := h.sel [1, 1, 1] 1
          dsimp only [pickL, pickR, nthH, delH, dropH, List.cons_append, List.nil_append] at h
          exact ⟨list_13, p_18, list_13.length, c_18, now_13, rfl, rfl, rfl, rfl, rfl, rfl, rfl, rfl, hp, h⟩
        obtain ⟨ia_12, ja_12, hp⟩ := hp
        obtain ⟨a_12, ha_12⟩ := rdAddr (hF_script _ (h.drop 4)) rfl ia_12 ja_12
        refine ⟨a_12, ha_12, ia_12, ja_12, ?_⟩
        obtain ⟨x_12, hx_12, hc⟩ := rdCell2 (hF_script _ (h.drop 4)) ha_12 rfl ia_12 ja_12
        replace hp := hp x_12 hx_12
        refine ⟨_, hc 2 0 _ rfl, _, hc 2 1 _ rfl, ?_⟩
        replace h := h.pick [1, 1]
        dsimp only [pickL, pickR, nthH, delH, dropH, List.cons_append, List.nil_append] at h
        refine vote_Box_Count_ok h hp ?_
        rintro r_6 list_14 now_14 p_19 n_22 c_19 w rfl h hp
        have cpp_19 := rowCap h 1 rfl
        refine ⟨_, rfl, ?_⟩
        replace h := h.sel [0, 0, 1] 1
        dsimp only [pickL, pickR, nthH, delH, dropH, List.cons_append, List.nil_append] at h
        exact ⟨list_14, p_19, list_14.length, c_19, now_14, rfl, rfl, rfl, rfl, rfl, rfl, rfl, rfl, hp, h⟩
    clear hq
    obtain ⟨Q_3, hq, hp⟩ := hp
    refine ⟨fun script1_4p script1_4l script1_4c groups2_3 b5_3 now6_3 i7_3 t39 w => p_1 = script1_4p ∧ script.length = script1_4l ∧ c_1 = script1_4c ∧ (Addr.mk b_1 0 none) = groups2_3 ∧ (some (Addr.mk b_2 0 none)) = b5_3 ∧ now6 = now6_3 ∧ i7 = i7_3 ∧ Q_3 t39 ∧ Mem (cel b_2 57 [(Value.slice p_4 list_2.length c_4), (Value.int .i64 now_2)] :: row enc46 46 4 p_4 c_4 list_2 :: cel b_1 49 [(Value.int .u16 groups_x), (Value.int .u16 groups_x_1), (Value.int .u16 groups_x_2)] :: FL) w, ?_, ?_⟩
    · rintro script1_4p script1_4l script1_4c groups2_3 b5_3 now6_3 i7_3 t39 w ⟨rfl, rfl, rfl, rfl, rfl, rfl, rfl, hp, h⟩
      replace hp := hq t39 hp
      unfold embrasurelaw18_VoteGroups_j11
      refine cond_both' hp (fun hp => ?_) (fun hp => ?_)
      · exact ⟨rfl, rfl, rfl, rfl, rfl, rfl, hp, h⟩
      obtain ⟨ia_3, ja_3, hp⟩ := hp
      obtain ⟨a_3, ha_3⟩ := rdAddr (hF_script _ (h.drop 3)) rfl ia_3 ja_3
      refine ⟨a_3, ha_3, ia_3, ja_3, ?_⟩
      obtain ⟨x_3, hx_3, hc⟩ := rdCell (hF_script _ (h.drop 3)) ha_3 rfl ia_3 ja_3
      replace hp := hp x_3 hx_3
      refine ⟨_, hc 0 _ rfl, ?_⟩
      exact ⟨rfl, rfl, rfl, rfl, rfl, rfl, hp, h⟩
    clear hq
    obtain ⟨ia_1, ja_1, hp⟩ := hp
    obtain ⟨a_1, ha_1⟩ := rdAddr (hF_script _ (h.drop 3)) rfl ia_1 ja_1
    refine ⟨a_1, ha_1, ia_1, ja_1, ?_⟩
    obtain ⟨x_1, hx_1, hc⟩ := rdCell (hF_script _ (h.drop 3)) ha_1 rfl ia_1 ja_1
    replace hp := hp x_1 hx_1
    refine ⟨_, hc 0 _ rfl, ?_⟩
    refine cond_both' hp (fun hp => ?_) (fun hp => ?_)
    · exact ⟨rfl, rfl, rfl, rfl, rfl, rfl, rfl, hp, h⟩
    obtain ⟨ia_2, ja_2, hp⟩ := hp
    obtain ⟨a_2, ha_2⟩ := rdAddr (hF_script _ (h.drop 3)) rfl ia_2 ja_2
    refine ⟨a_2, ha_2, ia_2, ja_2, ?_⟩
    obtain ⟨x_2, hx_2, hc⟩ := rdCell (hF_script _ (h.drop 3)) ha_2 rfl ia_2 ja_2
    replace hp := hp x_2 hx_2
    refine ⟨_, hc 0 _ rfl, ?_⟩
    exact ⟨rfl, rfl, rfl, rfl, rfl, rfl, rfl, hp, h⟩
  clear hq
  refine cond_both hp (fun hp => ?_) (fun hp => ?_)
  · exact ⟨rfl, rfl, rfl, rfl, rfl, rfl, rfl, hp, h⟩
  exact ⟨rfl, rfl, rfl, rfl, rfl, rfl, rfl, hp, h⟩

/-! embrasure/embrasurelaw18.VoteOld (5) -/
def embrasurelaw18_VoteOld_wp (by_ : Int) (ends_x : Int) (ends_x_1 : Int) (ends_x_2 : Int) (ends_x_3 : Int) (again : Int) (K : Bool → Prop) : Prop :=
  embrasurelaw18_awake_wp (fun (r : Bool) => cond (!r) (K false) (vote_New_wp (fun (list : List (Int × Int × Int × Int)) (now : Int) => joinP1 (fun (t24 : Bool) => cond t24 (K ((by_ : Int) == 0)) (vote_Box_Cast_wp list now 0 by_ ends_x ends_x_1 (fun (r_1 : Int) (list_1 : List (Int × Int × Int × Int)) (now_1 : Int) => cond ((r_1 : Int) != 0) (vote_Box_Count_wp list_1 now_1 0 ends_x ends_x_1 (fun (r_2 : Int) (list_2 : List (Int × Int × Int × Int)) (now_2 : Int) => K ((r_2 : Int) == 0))) (vote_Box_Cast_wp list_1 now_1 (Int.tmod (IntKind.wrap .i64 again) 600) by_ ends_x_2 ends_x_3 (fun (r_3 : Int) (list_3 : List (Int × Int × Int × Int)) (now_3 : Int) => cond (((ends_x : Int) == ends_x_2) && (((ends_x_1 : Int) == ends_x_3) && true)) (cond ((r_3 : Int) == 0) (vote_Box_Count_wp list_3 now_3 (IntKind.wrap .i64 ((Int.tmod (IntKind.wrap .i64 again) 600) + 599)) ends_x ends_x_1 (fun (r_4 : Int) (list_4 : List (Int × Int × Int × Int)) (now_4 : Int) => cond ((r_4 : Int) == 1) (vote_Box_Count_wp list_4 now_4 (IntKind.wrap .i64 ((Int.tmod (IntKind.wrap .i64 again) 600) + 600)) ends_x ends_x_1 (fun (r_5 : Int) (list_5 : List (Int × Int × Int × Int)) (now_5 : Int) => K ((r_5 : Int) == 0))) (K false))) (K false)) (joinP3 (fun (list_6 : List (Int × Int × Int × Int)) (now_6 : Int) (t79 : Bool) => cond t79 (K false) (vote_Box_Count_wp list_6 now_6 599 ends_x ends_x_1 (fun (r_8 : Int) (list_9 : List (Int × Int × Int × Int)) (now_9 : Int) => cond ((r_8 : Int) == 1) (vote_Box_Count_wp list_9 now_9 600 ends_x ends_x_1 (fun (r_9 : Int) (list_10 : List (Int × Int × Int × Int)) (now_10 : Int) => cond ((r_9 : Int) == 0) (cond ((r_3 : Int) != 0) (K true) (vote_Box_Count_wp list_10 now_10 (IntKind.wrap .i64 ((Int.tmod (IntKind.wrap .i64 again) 600) + 599)) ends_x_2 ends_x_3 (fun (r_10 : Int) (list_11 : List (Int × Int × Int × Int)) (now_11 : Int) => cond ((r_10 : Int) == 1) (vote_Box_Count_wp list_11 now_11 (IntKind.wrap .i64 ((Int.tmod (IntKind.wrap .i64 again) 600) + 600)) ends_x_2 ends_x_3 (fun (r_11 : Int) (list_12 : List (Int × Int × Int × Int)) (now_12 : Int) => cond ((r_11 : Int) == 0) (K true) (K (((Int.tmod (IntKind.wrap .i64 again) 600) : Int) == 0)))) (K (((Int.tmod (IntKind.wrap .i64 again) 600) : Int) == 0))))) (K false))) (K false)))) (fun (Q_1 : List (Int × Int × Int × Int) → Int → Bool → Prop) => vote_Box_Count_wp list_3 now_3 (Int.tmod (IntKind.wrap .i64 again) 600) ends_x ends_x_1 (fun (r_6 : Int) (list_7 : List (Int × Int × Int × Int)) (now_7 : Int) => cond ((r_6 : Int) != 1) (Q_1 list_7 now_7 true) (vote_Box_Count_wp list_7 now_7 (Int.tmod (IntKind.wrap .i64 again) 600) ends_x_2 ends_x_3 (fun (r_7 : Int) (list_8 : List (Int × Int × Int × Int)) (now_8 : Int) => Q_1 list_8 now_8 (!(((r_7 : Int) == 1) == ((r_3 : Int) == 0))))))))))))) (fun (Q : Bool → Prop) => cond ((by_ : Int) == 0) (Q true) (Q (false))))))
theorem embrasurelaw18_VoteOld_ok {by_ : Int} {ends_x : Int} {ends_x_1 : Int} {ends_x_2 : Int} {ends_x_3 : Int} {again : Int} {FL : List HP} {w : World} {K : Bool → Prop} {R : Value → World → Prop}
  (h : Mem (FL) w) (hp : embrasurelaw18_VoteOld_wp by_ ends_x ends_x_1 ends_x_2 ends_x_3 again K)
  (hR : ∀ (r : Bool) (w : World), Mem (FL) w → K r → R (Value.bool r) w) :
  CallV Try.prog 5 #[(Value.int .u32 by_), (Value.agg #[(Value.int .u32 ends_x), (Value.int .i64 ends_x_1), (Value.int .u32 ends_x_2), (Value.int .i64 ends_x_3)]), (Value.int .u16 again)] w R := by
  refine embrasurelaw18_VoteOld_call ?_
  unfold embrasurelaw18_VoteOld
  unfold embrasurelaw18_VoteOld_wp at hp
  refine newL (o := [(Value.int .u32 ends_x), (Value.int .i64 ends_x_1), (Value.int .u32 ends_x_2), (Value.int .i64 ends_x_3)]) h ?_
  intro b_1 w h
  refine embrasurelaw18_awake_ok h hp ?_
  intro r w h hp
  refine ⟨_, rfl, ?_⟩
  refine cond_both hp (fun hp => ?_) (fun hp => ?_)
  · replace h := h.sel [] 1
    dsimp only [pickL, pickR, nthH, delH, dropH, List.cons_append, List.nil_append] at h
    exact hR false _ h hp
  refine ⟨by decide, by decide, ?_⟩
  refine ⟨_, cellL h 0 0 rfl rfl rfl, _, cellL h 0 1 rfl rfl rfl, ?_⟩
  refine newL (o := [(Value.int .u32 0), (Value.int .i64 0)]) h ?_
  intro b_2 w h
  refine storeL (ys := [(Value.int .u32 ends_x), (Value.int .i64 ends_x_1)]) h 0 0 rfl rfl rfl sz32 rfl rfl ?_
  intro w h
  dsimp only [setH, setVs, setV] at h
  refine ⟨by decide, by decide, ?_⟩
  refine ⟨_, cellL h 1 2 rfl rfl rfl, _, cellL h 1 3 rfl rfl rfl, ?_⟩
  refine newL (o := [(Value.int .u32 0), (Value.int .i64 0)]) h ?_
  intro b_3 w h
  refine storeL (ys := [(Value.int .u32 ends_x_2), (Value.int .i64 ends_x_3)]) h 0 0 rfl rfl rfl sz32 rfl rfl ?_
  intro w h
  dsimp only [setH, setVs, setV] at h
  refine vote_New_ok h hp ?_
  rintro list now b_4 p_1 n_1 c_1 w rfl h hp
  have cpp_1 := rowCap h 1 rfl
  refine ⟨_, rfl, ?_⟩
  obtain ⟨Q, hq, hp⟩ := hp
  refine ⟨fun by0 again2 a7 b8 x9 t24 w => by_ = by0 ∧ again = again2 ∧ (Addr.mk b_2 0 none) = a7 ∧ (Addr.mk b_3 0 none) = b8 ∧ (some (Addr.mk b_4 0 none)) = x9 ∧ Q t24 ∧ Mem (cel b_4 57 [(Value.slice p_1 list.length c_1), (Value.int .i64 now)] :: row enc46 46 4 p_1 c_1 list :: cel b_3 32 [(Value.int .u32 ends_x_2), (Value.int .i64 ends_x_3)] :: cel b_2 32 [(Value.int .u32 ends_x), (Value.int .i64 ends_x_1)] :: cel b_1 52 [(Value.int .u32 ends_x), (Value.int .i64 ends_x_1), (Value.int .u32 ends_x_2), (Value.int .i64 ends_x_3)] :: FL) w, ?_, ?_⟩
  · rintro by0 again2 a7 b8 x9 t24 w ⟨rfl, rfl, rfl, rfl, rfl, hp, h⟩
    replace hp := hq t24 hp
    unfold embrasurelaw18_VoteOld_j1
    refine cond_both hp (fun hp => ?_) (fun hp => ?_)
    · replace h := h.sel [] 5
      dsimp only [pickL, pickR, nthH, delH, dropH, List.cons_append, List.nil_append] at h
      exact hR ((by_ : Int) == 0) _ h hp
    refine ⟨_, cellL h 3 0 rfl rfl rfl, _, cellL h 3 1 rfl rfl rfl, ?_⟩
    refine vote_Box_Cast_ok h hp ?_
    rintro r_1 list_1 now_1 p_2 n_2 c_2 w rfl h hp
    have cpp_2 := rowCap h 1 rfl
    refine ⟨_, rfl, ?_⟩
    refine cond_both hp (fun hp => ?_) (fun hp => ?_)
    · refine ⟨_, cellL h 3 0 rfl rfl rfl, _, cellL h 3 1 rfl rfl rfl, ?_⟩
      refine vote_Box_Count_ok h hp ?_
      rintro r_2 list_2 now_2 p_3 n_3 c_3 w rfl h hp
      have cpp_3 := rowCap h 1 rfl
      refine ⟨_, rfl, ?_⟩
      replace h := h.sel [] 5
      dsimp only [pickL, pickR, nthH, delH, dropH, List.cons_append, List.nil_append] at h
      exact hR ((r_2 : Int) == 0) _ h hp
    refine ⟨by decide, ?_⟩
    refine ⟨_, cellL h 2 0 rfl rfl rfl, _, cellL h 2 1 rfl rfl rfl, ?_⟩
    refine vote_Box_Cast_ok h hp ?_
    rintro r_3 list_3 now_3 p_4 n_4 c_4 w rfl h hp
    have cpp_4 := rowCap h 1 rfl
    refine ⟨_, rfl, ?_⟩
    refine ⟨_, cellL h 3 0 rfl rfl rfl, _, cellL h 3 1 rfl rfl rfl, ?_⟩
    refine ⟨_, cellL h 2 0 rfl rfl rfl, _, cellL h 2 1 rfl rfl rfl, ?_⟩
    refine eqlAgg (xs := [(Value.int .u32 ends_x), (Value.int .i64 ends_x_1)]) (ys := [(Value.int .u32 ends_x_2), (Value.int .i64 ends_x_3)]) eqG32 eqA32 (eqT32 ends_x ends_x_1 ends_x_2 ends_x_3) ?_
    refine ⟨_, rfl, ?_⟩
    refine cond_both hp (fun hp => ?_) (fun hp => ?_)
    · refine cond_both' hp (fun hp => ?_) (fun hp => ?_)
      · replace h := h.sel [] 5
        dsimp only [pickL, pickR, nthH, delH, dropH, List.cons_append, List.nil_append] at h
        exact hR false _ h hp
      refine ⟨_, cellL h 3 0 rfl rfl rfl, _, cellL h 3 1 rfl rfl rfl, ?_⟩
      refine vote_Box_Count_ok h hp ?_
      rintro r_4 list_4 now_4 p_5 n_5 c_5 w rfl h hp
      have cpp_5 := rowCap h 1 rfl
      refine ⟨_, rfl, ?_⟩
      refine cond_both' hp (fun hp => ?_) (fun hp => ?_)
      · replace h := h.sel [] 5
        dsimp only [pickL, pickR, nthH, delH, dropH, List.cons_append, List.nil_append] at h
        exact hR false _ h hp
      refine ⟨_, cellL h 3 0 rfl rfl rfl, _, cellL h 3 1 rfl rfl rfl, ?_⟩
      refine vote_Box_Count_ok h hp ?_
      rintro r_5 list_5 now_5 p_6 n_6 c_6 w rfl h hp
      have cpp_6 := rowCap h 1 rfl
      refine ⟨_, rfl, ?_⟩
      replace h := h.sel [] 5
      dsimp only [pickL, pickR, nthH, delH, dropH, List.cons_append, List.nil_append] at h
      exact hR ((r_5 : Int) == 0) _ h hp
    obtain ⟨Q_1, hq, hp⟩ := hp
    refine ⟨fun a7_1 b8_1 x9_1 k10 y11 t79 w => ∃ (list_6 : List (Int × Int × Int × Int)), ∃ (p_7 : Option Addr), ∃ (n_7 : Nat), ∃ (c_7 : Nat), ∃ (now_6 : Int), (Addr.mk b_2 0 none) = a7_1 ∧ (Addr.mk b_3 0 none) = b8_1 ∧ (some (Addr.mk b_4 0 none)) = x9_1 ∧ (Int.tmod (IntKind.wrap .i64 again) 600) = k10 ∧ r_3 = y11 ∧ n_7 = list_6.length ∧ Q_1 list_6 now_6 t79 ∧ Mem (cel b_4 57 [(Value.slice p_7 n_7 c_7), (Value.int .i64 now_6)] :: row enc46 46 4 p_7 c_7 list_6 :: cel b_3 32 [(Value.int .u32 ends_x_2), (Value.int .i64 ends_x_3)] :: cel b_2 32 [(Value.int .u32 ends_x), (Value.int .i64 ends_x_1)] :: cel b_1 52 [(Value.int .u32 ends_x), (Value.int .i64 ends_x_1), (Value.int .u32 ends_x_2), (Value.int .i64 ends_x_3)] :: FL) w, ?_, ?_⟩
    · rintro a7_1 b8_1 x9_1 k10 y11 t79 w ⟨list_6, p_7, n_7, c_7, now_6, rfl, rfl, rfl, rfl, rfl, rfl, hp, h⟩
      replace hp := hq list_6 now_6 t79 hp
      unfold embrasurelaw18_VoteOld_j2
      have cpp_7 := rowCap h 1 rfl
      refine cond_both hp (fun hp => ?_) (fun hp => ?_)
      · replace h := h.sel [] 5
        dsimp only [pickL, pickR, nthH, delH, dropH, List.cons_append, List.nil_append] at h
        exact hR false _ h hp
      refine ⟨_, cellL h 3 0 rfl rfl rfl, _, cellL h 3 1 rfl rfl rfl, ?_⟩
      refine vote_Box_Count_ok h hp ?_
      rintro r_8 list_9 now_9 p_10 n_10 c_10 w rfl h hp
      have cpp_10 := rowCap h 1 rfl
      refine ⟨_, rfl, ?_⟩
      refine cond_both' hp (fun hp => ?_) (fun hp => ?_)
      · replace h := h.sel [] 5
        dsimp only [pickL, pickR, nthH, delH, dropH, List.cons_append, List.nil_append] at h
        exact hR false _ h hp
      refine ⟨_, cellL h 3 0 rfl rfl rfl, _, cellL h 3 1 rfl rfl rfl, ?_⟩
      refine vote_Box_Count_ok h hp ?_
      rintro r_9 list_10 now_10 p_11 n_11 c_11 w rfl h hp
      have cpp_11 := rowCap h 1 rfl
      refine ⟨_, rfl, ?_⟩
      refine cond_both' hp (fun hp => ?_) (fun hp => ?_)
      · replace h := h.sel [] 5
        dsimp only [pickL, pickR, nthH, delH, dropH, List.cons_append, List.nil_append] at h
        exact hR false _ h hp
      refine cond_both hp (fun hp => ?_) (fun hp => ?_)
      · replace h := h.sel [] 5
        dsimp only [pickL, pickR, nthH, delH, dropH, List.cons_append, List.nil_append] at h
        exact hR true _ h hp
      refine ⟨_, cellL h 2 0 rfl rfl rfl, _, cellL h 2 1 rfl rfl rfl, ?_⟩
      refine vote_Box_Count_ok h hp ?_
      rintro r_10 list_11 now_11 p_12 n_12 c_12 w rfl h hp
      have cpp_12 := rowCap h 1 rfl
      refine ⟨_, rfl, ?_⟩
      refine cond_both' hp (fun hp => ?_) (fun hp => ?_)
      · replace h := h.sel [] 5
        dsimp only [pickL, pickR, nthH, delH, dropH, List.cons_append, List.nil_append] at h
        exact hR (((Int.tmod (IntKind.wrap .i64 again) 600) : Int) == 0) _ h hp
      refine ⟨_, cellL h 2 0 rfl rfl rfl, _, cellL h 2 1 rfl rfl rfl, ?_⟩
      refine vote_Box_Count_ok h hp ?_
      rintro r_11 list_12 now_12 p_13 n_13 c_13 w rfl h hp
      have cpp_13 := rowCap h 1 rfl
      refine ⟨_, rfl, ?_⟩
      refine cond_both hp (fun hp => ?_) (fun hp => ?_)
      · replace h := h.sel [] 5
        dsimp only [pickL, pickR, nthH, delH, dropH, List.cons_append, List.nil_append] at h
        exact hR true _ h hp
      replace h := h.sel [] 5
      dsimp only [pickL, pickR, nthH, delH, dropH, List.cons_append, List.nil_append] at h
      exact hR (((Int.tmod (IntKind.wrap .i64 again) 600) : Int) == 0) _ h hp
    clear hq
    refine ⟨_, cellL h 3 0 rfl rfl rfl, _, cellL h 3 1 rfl rfl rfl, ?_⟩
    refine vote_Box_Count_ok h hp ?_
    rintro r_6 list_7 now_7 p_8 n_8 c_8 w rfl h hp
    have cpp_8 := rowCap h 1 rfl
    refine ⟨_, rfl, ?_⟩
    refine cond_both hp (fun hp => ?_) (fun hp => ?_)
    · exact ⟨list_7, p_8, list_7.length, c_8, now_7, rfl, rfl, rfl, rfl, rfl, rfl, hp, h⟩
    refine ⟨_, cellL h 2 0 rfl rfl rfl, _, cellL h 2 1 rfl rfl rfl, ?_⟩
    refine vote_Box_Count_ok h hp ?_
    rintro r_7 list_8 now_8 p_9 n_9 c_9 w rfl h hp
    have cpp_9 := rowCap h 1 rfl
    refine ⟨_, rfl, ?_⟩
    refine neqBool undB4 ?_
    refine ⟨_, rfl, ?_⟩
    exact ⟨list_8, p_9, list_8.length, c_9, now_8, rfl, rfl, rfl, rfl, rfl, rfl, hp, h⟩
  clear hq
  refine cond_both hp (fun hp => ?_) (fun hp => ?_)
  · exact ⟨rfl, rfl, rfl, rfl, rfl, hp, h⟩
  refine eqlPtrNil undP24 ?_
  refine ⟨_, rfl, ?_⟩
  exact ⟨rfl, rfl, rfl, rfl, rfl, hp, h⟩

/-! embrasure/embrasurelaw18.VoteOrder (6) -/
def embrasurelaw18_VoteOrder_wp (votes : List (Int)) (K : Bool → Prop) : Prop :=
  embrasurelaw18_awake_wp (fun (r : Bool) => cond (!r) (K false) (vote_New_wp (fun (list : List (Int × Int × Int × Int)) (now : Int) => joinP1 (fun (t19 : Bool) => cond t19 (K (true)) (joinP2 (fun (list_1 : List (Int × Int × Int × Int)) (now_1 : Int) => vote_Box_Held_wp list_1 now_1 1 (fun (rs : List (Int × Int)) (list_4 : List (Int × Int × Int × Int)) (now_4 : Int) => joinP2 (fun (list_5 : List (Int × Int × Int × Int)) (now_5 : Int) => joinP3 (fun (list_11 : List (Int × Int × Int × Int)) (now_11 : Int) (many8 : Int) => K ((((rs.length : Nat) : Int) : Int) == (if (3 : Int) < many8 then 3 else many8))) (fun (Q_4 : List (Int × Int × Int × Int) → Int → Int → Prop) => ∃ (I_2 : Nat → List (Int × Int × Int × Int) → Int → Int → Int → Prop), (∃ (n_26 : Nat), I_2 n_26 list_5 now_5 0 1) ∧ ∀ (n_22 : Nat) (list_12 : List (Int × Int × Int × Int)) (now_12 : Int) (many8_1 : Int) (h9 : Int), I_2 n_22 list_12 now_12 many8_1 h9 → (cond (decide ((h9 : Int) ≤ 4)) (vote_Box_Count_wp list_12 now_12 1 h9 9 (fun (r_5 : Int) (list_13 : List (Int × Int × Int × Int)) (now_13 : Int) => cond (decide ((r_5 : Int) ≥ 4)) (∃ (n_24 : Nat), n_24 < n_22 ∧ I_2 n_24 list_13 now_13 (IntKind.wrap .i64 (many8_1 + 1)) (IntKind.wrap .u32 (h9 + 1))) (∃ (n_25 : Nat), n_25 < n_22 ∧ I_2 n_25 list_13 now_13 many8_1 (IntKind.wrap .u32 (h9 + 1))))) (Q_4 list_12 now_12 many8_1)))) (fun (Q_2 : List (Int × Int × Int × Int) → Int → Prop) => ∃ (I_1 : Nat → List (Int × Int × Int × Int) → Int → Int → Prop), (∃ (n_19 : Nat), I_1 n_19 list_4 now_4 0) ∧ ∀ (n_13 : Nat) (list_6 : List (Int × Int × Int × Int)) (now_6 : Int) (i6 : Int), I_1 n_13 list_6 now_6 i6 → (cond (decide ((i6 : Int) < ((rs.length : Nat) : Int))) (0 ≤ (i6 : Int) ∧ (i6 : Int) < ((rs.length : Nat) : Int) ∧ (∀ (x_5 : Int × Int), rs[Int.toNat i6]? = some x_5 → (vote_Box_Count_wp list_6 now_6 1 x_5.1 x_5.2 (fun (r_2 : Int) (list_7 : List (Int × Int × Int × Int)) (now_7 : Int) => cond (decide ((r_2 : Int) < 4)) (K false) (joinP3 (fun (list_8 : List (Int × Int × Int × Int)) (now_8 : Int) (t101 : Bool) => cond t101 (K false) (∃ (n_18 : Nat), n_18 < n_13 ∧ I_1 n_18 list_8 now_8 (IntKind.wrap .i64 (i6 + 1)))) (fun (Q_3 : List (Int × Int × Int × Int) → Int → Bool → Prop) => cond (decide ((i6 : Int) > 0)) (0 ≤ ((IntKind.wrap .i64 (i6 - 1)) : Int) ∧ ((IntKind.wrap .i64 (i6 - 1)) : Int) < ((rs.length : Nat) : Int) ∧ (∀ (x_6 : Int × Int), rs[Int.toNat (IntKind.wrap .i64 (i6 - 1))]? = some x_6 → (vote_Box_Count_wp list_7 now_7 1 x_6.1 x_6.2 (fun (r_3 : Int) (list_9 : List (Int × Int × Int × Int)) (now_9 : Int) => cond (decide ((r_3 : Int) < r_2)) (Q_3 list_9 now_9 true) (0 ≤ ((IntKind.wrap .i64 (i6 - 1)) : Int) ∧ ((IntKind.wrap .i64 (i6 - 1)) : Int) < ((rs.length : Nat) : Int) ∧ (∀ (x_7 : Int × Int), rs[Int.toNat (IntKind.wrap .i64 (i6 - 1))]? = some x_7 → (vote_Box_Count_wp list_9 now_9 1 x_7.1 x_7.2 (fun (r_4 : Int) (list_10 : List (Int × Int × Int × Int)) (now_10 : Int) => cond ((r_4 : Int) == r_2) (0 ≤ ((IntKind.wrap .i64 (i6 - 1)) : Int) ∧ ((IntKind.wrap .i64 (i6 - 1)) : Int) < ((rs.length : Nat) : Int) ∧ (∀ (x_8 : Int × Int), rs[Int.toNat (IntKind.wrap .i64 (i6 - 1))]? = some x_8 → (0 ≤ (i6 : Int) ∧ (i6 : Int) < ((rs.length : Nat) : Int) ∧ (∀ (x_9 : Int × Int), rs[Int.toNat i6]? = some x_9 → (Q_3 list_10 now_10 (decide ((x_8.1 : Int) ≥ x_9.1))))))) (Q_3 list_10 now_10 false))))))))) (Q_3 list_7 now_7 false))))))) (Q_2 list_6 now_6))))) (fun (Q_1 : List (Int × Int × Int × Int) → Int → Prop) => ∃ (I : Nat → List (Int × Int × Int × Int) → Int → Int → Prop), (∃ (n_8 : Nat), I n_8 list now 0) ∧ ∀ (n_5 : Nat) (list_2 : List (Int × Int × Int × Int)) (now_2 : Int) (i4 : Int), I n_5 list_2 now_2 i4 → (cond (decide ((i4 : Int) < ((votes.length : Nat) : Int))) (0 ≤ (i4 : Int) ∧ (i4 : Int) < ((votes.length : Nat) : Int) ∧ (∀ (x_2 : Int), votes[Int.toNat i4]? = some x_2 → (0 ≤ (i4 : Int) ∧ (i4 : Int) < ((votes.length : Nat) : Int) ∧ (∀ (x_4 : Int), votes[Int.toNat i4]? = some x_4 → (vote_Box_Cast_wp list_2 now_2 1 (IntKind.wrap .u32 ((IntKind.wrap .u32 (IntKind.wrap .i64 (1 + (Int.tmod (IntKind.wrap .i64 (Int.tdiv (IntKind.wrap .i64 x_2) 4)) 20)))) * 2 ^ (min (Int.toNat 16) (IntKind.bits .u32)))) (IntKind.wrap .u32 (IntKind.wrap .u8 (1 + (Int.tmod x_4 4)))) 9 (fun (r_1 : Int) (list_3 : List (Int × Int × Int × Int)) (now_3 : Int) => ∃ (n_7 : Nat), n_7 < n_5 ∧ I n_7 list_3 now_3 (IntKind.wrap .i64 (i4 + 1)))))))) (Q_1 list_2 now_2))))) (fun (Q : Bool → Prop) => Q (decide ((((votes.length : Nat) : Int) : Int) > 80))))))
theorem embrasurelaw18_VoteOrder_ok {p_1 : Option Addr} {n_1 : Nat} {c_1 : Nat} {votes : List (Int)} {FL : List HP} {w : World} {K : Bool → Prop} {R : Value → World → Prop}
  (hF_votes : ∀ w, Mem FL w → Rd w 1 p_1 enc5 votes) (hl_votes : n_1 = votes.length) (hc_votes : n_1 ≤ c_1)
  (h : Mem (FL) w) (hp : embrasurelaw18_VoteOrder_wp votes K)
  (hR : ∀ (r : Bool) (w : World), Mem (FL) w → K r → R (Value.bool r) w) :
  CallV Try.prog 6 #[(Value.slice p_1 n_1 c_1)] w R := by
  refine embrasurelaw18_VoteOrder_call ?_
  unfold embrasurelaw18_VoteOrder
  unfold embrasurelaw18_VoteOrder_wp at hp
  subst hl_votes
  refine embrasurelaw18_awake_ok h hp ?_
  intro r w h hp
  refine ⟨_, rfl, ?_⟩
  refine cond_both hp (fun hp => ?_) (fun hp => ?_)
  · exact hR false _ h hp
  refine vote_New_ok h hp ?_
  rintro list now b_1 p_2 n_2 c_2 w rfl h hp
  have cpp_2 := rowCap h 1 rfl
  refine ⟨_, rfl, ?_⟩
  obtain ⟨Q, hq, hp⟩ := hp
  refine ⟨fun votes0p votes0l votes0c b3 t19 w => p_1 = votes0p ∧ votes.length = votes0l ∧ c_1 = votes0c ∧ (some (Addr.mk b_1 0 none)) = b3 ∧ Q t19 ∧ Mem (cel b_1 57 [(Value.slice p_2 list.length c_2), (Value.int .i64 now)] :: row enc46 46 4 p_2 c_2 list :: FL) w, ?_, ?_⟩
  · rintro votes0p votes0l votes0c b3 t19 w ⟨rfl, rfl, rfl, rfl, hp, h⟩
    replace hp := hq t19 hp
    unfold embrasurelaw18_VoteOrder_j1
    refine cond_both hp (fun hp => ?_) (fun hp => ?_)
    · refine neqPtrNil undP24 ?_
      refine ⟨_, rfl, ?_⟩
      replace h := h.sel [] 2
      dsimp only [pickL, pickR, nthH, delH, dropH, List.cons_append, List.nil_append] at h
      exact hR (true) _ h hp
    obtain ⟨Q_1, hq, hp⟩ := hp
    refine ⟨fun b3_1 w => ∃ (list_1 : List (Int × Int × Int × Int)), ∃ (p_3 : Option Addr), ∃ (n_3 : Nat), ∃ (c_3 : Nat), ∃ (now_1 : Int), (some (Addr.mk b_1 0 none)) = b3_1 ∧ n_3 = list_1.length ∧ Q_1 list_1 now_1 ∧ Mem (cel b_1 57 [(Value.slice p_3 n_3 c_3), (Value.int .i64 now_1)] :: row enc46 46 4 p_3 c_3 list_1 :: FL) w, ?_, ?_⟩
    · rintro b3_1 w ⟨list_1, p_3, n_3, c_3, now_1, rfl, rfl, hp, h⟩
      replace hp := hq list_1 now_1 hp
      unfold embrasurelaw18_VoteOrder_j2
      have cpp_3 := rowCap h 1 rfl
      refine vote_Box_Held_ok h hp ?_
      rintro rs list_4 now_4 p_6 n_9 c_6 p_7 n_10 c_7 w rfl rfl h hp
      have cpp_6 := rowCap h 0 rfl
      have cpp_7 := rowCap h 2 rfl
      refine ⟨_, _, _, rfl, ?_⟩
      obtain ⟨Q_2, hq, hp⟩ := hp
      refine ⟨fun b3_3 l5p l5l l5c w => ∃ (list_5 : List (Int × Int × Int × Int)), ∃ (p_8 : Option Addr), ∃ (n_11 : Nat), ∃ (c_8 : Nat), ∃ (now_5 : Int), (some (Addr.mk b_1 0 none)) = b3_3 ∧ p_6 = l5p ∧ rs.length = l5l ∧ c_6 = l5c ∧ n_11 = list_5.length ∧ Q_2 list_5 now_5 ∧ Mem (cel b_1 57 [(Value.slice p_8 n_11 c_8), (Value.int .i64 now_5)] :: row enc46 46 4 p_8 c_8 list_5 :: row enc32 32 2 p_6 c_6 rs :: FL) w, ?_, ?_⟩
      · rintro b3_3 l5p l5l l5c w ⟨list_5, p_8, n_11, c_8, now_5, rfl, rfl, rfl, rfl, rfl, hp, h⟩
        replace hp := hq list_5 now_5 hp
        unfold embrasurelaw18_VoteOrder_j3
        have cpp_8 := rowCap h 1 rfl
        obtain ⟨Q_4, hq, hp⟩ := hp
        refine ⟨fun l5_3p l5_3l l5_3c many8 w => ∃ (list_11 : List (Int × Int × Int × Int)), ∃ (p_14 : Option Addr), ∃ (n_20 : Nat), ∃ (c_14 : Nat), ∃ (now_11 : Int), p_6 = l5_3p ∧ rs.length = l5_3l ∧ c_6 = l5_3c ∧ n_20 = list_11.length ∧ Q_4 list_11 now_11 many8 ∧ Mem (cel b_1 57 [(Value.slice p_14 n_20 c_14), (Value.int .i64 now_11)] :: row enc46 46 4 p_14 c_14 list_11 :: row enc32 32 2 p_6 c_6 rs :: FL) w, ?_, ?_⟩
        · rintro l5_3p l5_3l l5_3c many8 w ⟨list_11, p_14, n_20, c_14, now_11, rfl, rfl, rfl, rfl, hp, h⟩
          replace hp := hq list_11 now_11 many8 hp
          unfold embrasurelaw18_VoteOrder_j4
          have cpp_14 := rowCap h 1 rfl
          replace h := h.sel [] 3
          dsimp only [pickL, pickR, nthH, delH, dropH, List.cons_append, List.nil_append] at h
          exact hR ((((rs.length : Nat) : Int) : Int) == (if (3 : Int) < many8 then 3 else many8)) _ h hp
        clear hq
        obtain ⟨I_2, ⟨n_26, h0⟩, hq⟩ := hp
        refine ⟨fun n_22 b3_6 l5_4p l5_4l l5_4c many8_1 h9 w => ∃ (list_12 : List (Int × Int × Int × Int)), ∃ (p_15 : Option Addr), ∃ (n_21 : Nat), ∃ (c_15 : Nat), ∃ (now_12 : Int), (some (Addr.mk b_1 0 none)) = b3_6 ∧ p_6 = l5_4p ∧ rs.length = l5_4l ∧ c_6 = l5_4c ∧ n_21 = list_12.length ∧ I_2 n_22 list_12 now_12 many8_1 h9 ∧ Mem (cel b_1 57 [(Value.slice p_15 n_21 c_15), (Value.int .i64 now_12)] :: row enc46 46 4 p_15 c_15 list_12 :: row enc32 32 2 p_6 c_6 rs :: FL) w, ⟨n_26, list_5, p_8, list_5.length, c_8, now_5, rfl, rfl, rfl, rfl, rfl, h0, h⟩, ?_⟩
        clear h0 h
        rintro n_22 b3_6 l5_4p l5_4l l5_4c many8_1 h9 w ⟨list_12, p_15, n_21, c_15, now_12, rfl, rfl, rfl, rfl, rfl, hp, h⟩
        replace hp := hq n_22 list_12 now_12 many8_1 h9 hp
        clear hq
        unfold embrasurelaw18_VoteOrder_l5
        have cpp_15 := rowCap h 1 rfl
        refine cond_both' hp (fun hp => ?_) (fun hp => ?_)
        · exact ⟨list_12, p_15, list_12.length, c_15, now_12, rfl, rfl, rfl, rfl, hp, h⟩
        refine vote_Box_Count_ok h hp ?_
        rintro r_5 list_13 now_13 p_16 n_23 c_16 w rfl h hp
        have cpp_16 := rowCap h 1 rfl
        refine ⟨_, rfl, ?_⟩
        refine cond_both hp (fun hp => ?_) (fun hp => ?_)
        · obtain ⟨n_24, hn, hp⟩ := hp
          exact ⟨n_24, hn, list_13, p_16, list_13.length, c_16, now_13, rfl, rfl, rfl, rfl, rfl, hp, h⟩
        obtain ⟨n_25, hn, hp⟩ := hp
        exact ⟨n_25, hn, list_13, p_16, list_13.length, c_16, now_13, rfl, rfl, rfl, rfl, rfl, hp, h⟩
      clear hq
      obtain ⟨I_1, ⟨n_19, h0⟩, hq⟩ := hp
      replace h := h.sel [1, 1, 0] 0
      dsimp only [pickL, pickR, nthH, delH, dropH, List.cons_append, List.nil_append] at h
      refine ⟨fun n_13 b3_4 l5_1p l5_1l l5_1c i6 w => ∃ (list_6 : List (Int × Int × Int × Int)), ∃ (p_9 : Option Addr), ∃ (n_12 : Nat), ∃ (c_9 : Nat), ∃ (now_6 : Int), (some (Addr.mk b_1 0 none)) = b3_4 ∧ p_6 = l5_1p ∧ rs.length = l5_1l ∧ c_6 = l5_1c ∧ n_12 = list_6.length ∧ I_1 n_13 list_6 now_6 i6 ∧ Mem (cel b_1 57 [(Value.slice p_9 n_12 c_9), (Value.int .i64 now_6)] :: row enc46 46 4 p_9 c_9 list_6 :: row enc32 32 2 p_6 c_6 rs :: FL) w, ⟨n_19, list_4, p_7, list_4.length, c_7, now_4, rfl, rfl, rfl, rfl, rfl, h0, h⟩, ?_⟩
      clear h0 h
      rintro n_13 b3_4 l5_1p l5_1l l5_1c i6 w ⟨list_6, p_9, n_12, c_9, now_6, rfl, rfl, rfl, rfl, rfl, hp, h⟩
      replace hp := hq n_13 list_6 now_6 i6 hp
      clear hq
      unfold embrasurelaw18_VoteOrder_l6
      have cpp_9 := rowCap h 1 rfl
      refine cond_both' hp (fun hp => ?_) (fun hp => ?_)
      · exact ⟨list_6, p_9, list_6.length, c_9, now_6, rfl, rfl, rfl, rfl, rfl, hp, h⟩
      obtain ⟨ia_3, ja_3, hp⟩ := hp
      obtain ⟨a_3, ha_3⟩ := rdAddr (rowRd h 2 encL32 rfl) rfl ia_3 ja_3
      refine ⟨a_3, ha_3, ia_3, ja_3, ?_⟩
      obtain ⟨x_5, hx_5, hc⟩ := rdCell (rowRd h 2 encL32 rfl) ha_3 rfl ia_3 ja_3
      replace hp := hp x_5 hx_5
      refine ⟨_, hc 0 _ rfl, _, hc 1 _ rfl, ?_⟩
      refine vote_Box_Count_ok h hp ?_
      rintro r_2 list_7 now_7 p_10 n_14 c_10 w rfl h hp
      have cpp_10 := rowCap h 1 rfl
      refine ⟨_, rfl, ?_⟩
      refine cond_both hp (fun hp => ?_) (fun hp => ?_)
      · replace h := h.sel [] 3
        dsimp only [pickL, pickR, nthH, delH, dropH, List.cons_append, List.nil_append] at h
        exact hR false _ h hp
      obtain ⟨Q_3, hq, hp⟩ := hp
      refine ⟨fun b3_5 l5_2p l5_2l l5_2c i6_1 t101 w => ∃ (list_8 : List (Int × Int × Int × Int)), ∃ (p_11 : Option Addr), ∃ (n_15 : Nat), ∃ (c_11 : Nat), ∃ (now_8 : Int), (some (Addr.mk b_1 0 none)) = b3_5 ∧ p_6 = l5_2p ∧ rs.length = l5_2l ∧ c_6 = l5_2c ∧ i6 = i6_1 ∧ n_15 = list_8.length ∧ Q_3 list_8 now_8 t101 ∧ Mem (cel b_1 57 [(Value.slice p_11 n_15 c_11), (Value.int .i64 now_8)] :: row enc46 46 4 p_11 c_11 list_8 :: row enc32 32 2 p_6 c_6 rs :: FL) w, ?_, ?_⟩
      · rintro b3_5 l5_2p l5_2l l5_2c i6_1 t101 w ⟨list_8, p_11, n_15, c_11, now_8, rfl, rfl, rfl, rfl, rfl, rfl, hp, h⟩
        replace hp := hq list_8 now_8 t101 hp
        unfold embrasurelaw18_VoteOrder_j7
        have cpp_11 := rowCap h 1 rfl
        refine cond_both' hp (fun hp => ?_) (fun hp => ?_)
        · obtain ⟨n_18, hn, hp⟩ := hp
          exact ⟨n_18, hn, list_8, p_11, list_8.length, c_11, now_8, rfl, rfl, rfl, rfl, rfl, hp, h⟩
        replace h := h.sel [] 3
        dsimp only [pickL, pickR, nthH, delH, dropH, List.cons_append, List.nil_append] at h
        exact hR false _ h hp
      clear hq
      replace h := h.drew
      refine ⟨fun w => Mem (FL) w, (h.sel [] 3), ?_⟩
      refine cond_both' hp (fun hp => ?_) (fun hp => ?_)
      · exact ⟨list_7, p_10, list_7.length, c_10, now_7, rfl, rfl, rfl, rfl, rfl, rfl, hp, h⟩
      obtain ⟨ia_4, ja_4, hp⟩ := hp
      obtain ⟨a_4, ha_4⟩ := rdAddr (rowRd h 2 encL32 rfl) rfl ia_4 ja_4
      refine ⟨a_4, ha_4, ia_4, ja_4, ?_⟩
      obtain ⟨x_6, hx_6, hc⟩ := rdCell (rowRd h 2 encL32 rfl) ha_4 rfl ia_4 ja_4
      replace hp := hp x_6 hx_6
      refine ⟨_, hc 0 _ rfl, _, hc 1 _ rfl, ?_⟩
      refine vote_Box_Count_ok h hp ?_
      rintro r_3 list_9 now_9 p_12 n_16 c_12 w rfl h hp
      have cpp_12 := rowCap h 1 rfl
      refine ⟨_, rfl, ?_⟩
      refine ⟨(h.sel [] 3), ?_⟩
      refine cond_both hp (fun hp => ?_) (fun hp => ?_)
      · exact ⟨list_9, p_12, list_9.length, c_12, now_9, rfl, rfl, rfl, rfl, rfl, rfl, hp, h⟩
      obtain ⟨ia_5, ja_5, hp⟩ := hp
      obtain ⟨a_5, ha_5⟩ := rdAddr (rowRd h 2 encL32 rfl) rfl ia_5 ja_5
      refine ⟨a_5, ha_5, ia_5, ja_5, ?_⟩
      obtain ⟨x_7, hx_7, hc⟩ := rdCell (rowRd h 2 encL32 rfl) ha_5 rfl ia_5 ja_5
      replace hp := hp x_7 hx_7
      refine ⟨_, hc 0 _ rfl, _, hc 1 _ rfl, ?_⟩
      refine vote_Box_Count_ok h hp ?_
      rintro r_4 list_10 now_10 p_13 n_17 c_13 w rfl h hp
      have cpp_13 := rowCap h 1 rfl
      refine ⟨_, rfl, ?_⟩
      refine ⟨(h.sel [] 3), ?_⟩
      refine cond_both' hp (fun hp => ?_) (fun hp => ?_)
      · exact ⟨list_10, p_13, list_10.length, c_13, now_10, rfl, rfl, rfl, rfl, rfl, rfl, hp, h⟩
      obtain ⟨ia_6, ja_6, hp⟩ := hp
      obtain ⟨a_6, ha_6⟩ := rdAddr (rowRd h 2 encL32 rfl) rfl ia_6 ja_6
      refine ⟨a_6, ha_6, ia_6, ja_6, ?_⟩
      obtain ⟨x_8, hx_8, hc⟩ := rdCell (rowRd h 2 encL32 rfl) ha_6 rfl ia_6 ja_6
      replace hp := hp x_8 hx_8
      refine ⟨_, hc 0 _ rfl, ?_⟩
      obtain ⟨ia_7, ja_7, hp⟩ := hp
      obtain ⟨a_7, ha_7⟩ := rdAddr (rowRd h 2 encL32 rfl) rfl ia_7 ja_7
      refine ⟨a_7, ha_7, ia_7, ja_7, ?_⟩
      obtain ⟨x_9, hx_9, hc⟩ := rdCell (rowRd h 2 encL32 rfl) ha_7 rfl ia_7 ja_7
      replace hp := hp x_9 hx_9
      refine ⟨_, hc 0 _ rfl, ?_⟩
      exact ⟨list_10, p_13, list_10.length, c_13, now_10, rfl, rfl, rfl, rfl, rfl, rfl, hp, h⟩
    clear hq
    obtain ⟨I, ⟨n_8, h0⟩, hq⟩ := hp
    refine ⟨fun n_5 votes0_1p votes0_1l votes0_1c b3_2 i4 w => ∃ (list_2 : List (Int × Int × Int × Int)), ∃ (p_4 : Option Addr), ∃ (n_4 : Nat), ∃ (c_4 : Nat), ∃ (now_2 : Int), p_1 = votes0_1p ∧ votes.length = votes0_1l ∧ c_1 = votes0_1c ∧ (some (Addr.mk b_1 0 none)) = b3_2 ∧ n_4 = list_2.length ∧ I n_5 list_2 now_2 i4 ∧ Mem (cel b_1 57 [(Value.slice p_4 n_4 c_4), (Value.int .i64 now_2)] :: row enc46 46 4 p_4 c_4 list_2 :: FL) w, ⟨n_8, list, p_2, list.length, c_2, now, rfl, rfl, rfl, rfl, rfl, h0, h⟩, ?_⟩
    clear h0 h
    rintro n_5 votes0_1p votes0_1l votes0_1c b3_2 i4 w ⟨list_2, p_4, n_4, c_4, now_2, rfl, rfl, rfl, rfl, rfl, hp, h⟩
    replace hp := hq n_5 list_2 now_2 i4 hp
    clear hq
    unfold embrasurelaw18_VoteOrder_l8
    have cpp_4 := rowCap h 1 rfl
    refine cond_both' hp (fun hp => ?_) (fun hp => ?_)
    · exact ⟨list_2, p_4, list_2.length, c_4, now_2, rfl, rfl, hp, h⟩
    replace h := h.drew
    refine ⟨fun w => Mem (FL) w, (h.sel [] 2), ?_⟩
    obtain ⟨ia_1, ja_1, hp⟩ := hp
    obtain ⟨a_1, ha_1⟩ := rdAddr (hF_votes _ (h.drop 2)) rfl ia_1 ja_1
    refine ⟨a_1, ha_1, ia_1, ja_1, ?_⟩
    obtain ⟨x_2, hx_2, hc⟩ := rdCell0 (hF_votes _ (h.drop 2)) ha_1 rfl ia_1 ja_1
    replace hp := hp x_2 hx_2
    refine ⟨_, hc _ rfl, ?_⟩
    refine ⟨?_, ?_⟩
    · intro w h
      change Mem _ _ at h
      obtain ⟨x_1, hx_1, hcq⟩ := rdCell0 (hF_votes _ (h.drop 0)) ha_1 rfl ia_1 ja_1
      obtain rfl : x_1 = x_2 := Option.some.inj (hx_1.symm.trans hx_2)
      refine ⟨_, hcq _ rfl, ?_⟩
      exact ⟨rfl, rfl⟩
    refine ⟨by decide, ?_⟩
    refine ⟨by decide, ?_⟩
    refine ⟨by decide, ?_⟩
    obtain ⟨ia_2, ja_2, hp⟩ := hp
    obtain ⟨a_2, ha_2⟩ := rdAddr (hF_votes _ (h.drop 2)) rfl ia_2 ja_2
    refine ⟨a_2, ha_2, ia_2, ja_2, ?_⟩
    obtain ⟨x_4, hx_4, hc⟩ := rdCell0 (hF_votes _ (h.drop 2)) ha_2 rfl ia_2 ja_2
    replace hp := hp x_4 hx_4
    refine ⟨_, hc _ rfl, ?_⟩
    refine ⟨?_, ?_⟩
    · intro w h
      change Mem _ _ at h
      obtain ⟨x_3, hx_3, hcq⟩ := rdCell0 (hF_votes _ (h.drop 0)) ha_2 rfl ia_2 ja_2
      obtain rfl : x_3 = x_4 := Option.some.inj (hx_3.symm.trans hx_4)
      refine ⟨_, hcq _ rfl, ?_⟩
      exact ⟨rfl, rfl⟩
    refine ⟨by decide, ?_⟩
    refine vote_Box_Cast_ok h hp ?_
    rintro r_1 list_3 now_3 p_5 n_6 c_5 w rfl h hp
    have cpp_5 := rowCap h 1 rfl
    refine ⟨_, rfl, ?_⟩
    refine ⟨(h.sel [] 2), ?_⟩
    obtain ⟨n_7, hn, hp⟩ := hp
    exact ⟨n_7, hn, list_3, p_5, list_3.length, c_5, now_3, rfl, rfl, rfl, rfl, rfl, hp, h⟩
  clear hq
  refine eqlPtrNil undP24 ?_
  refine ⟨_, rfl, ?_⟩
  refine cond_ff ?_
  exact ⟨rfl, rfl, rfl, rfl, hp, h⟩

end Go.Proofs.Ytgcodbcfcaacgaa
