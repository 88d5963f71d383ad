/- Each function over plain data (printed by a program of this claim's author). -/
import Derived.Test.YtjlmpfoaiaolhaaD
import Derived.Test.YtjlmpfoaiaolhaaEngU
namespace Go.Proofs.Ytjlmpfoaiaolhaa
open Go Go.Eng Go.Proofs
set_option maxRecDepth 100000
set_option maxHeartbeats 2000000

def enc31 (x : Int × Int × Int × Bool) : List Value := [(Value.int .u32 x.1), (Value.int .i64 x.2.1), (Value.int .i64 x.2.2.1), (Value.bool x.2.2.2)]
theorem encL31 : ∀ x, (enc31 x).length = 4 := fun _ => rfl
theorem encO31 : ∀ x, ∀ v ∈ enc31 x, v.oneCell' = true := by intro x v hv; simp only [enc31, List.mem_cons, List.not_mem_nil, or_false] at hv; rcases hv with rfl | rfl | rfl | rfl <;> rfl
def enc44 (x : Int × Int × Int × Int) : List Value := [(Value.int .i64 x.1), (Value.int .i64 x.2.1), (Value.int .u32 x.2.2.1), (Value.int .i64 x.2.2.2)]
theorem encL44 : ∀ x, (enc44 x).length = 4 := fun _ => rfl
theorem encO44 : ∀ x, ∀ v ∈ enc44 x, v.oneCell' = true := by intro x v hv; simp only [enc44, List.mem_cons, List.not_mem_nil, or_false] at hv; rcases hv with rfl | rfl | rfl | rfl <;> rfl
theorem sz3 : sizeT Try.prog 3 = some 1 := by kernel_rfl
theorem sz23 : sizeT Try.prog 23 = some 1 := by kernel_rfl
theorem sz31 : sizeT Try.prog 31 = some 4 := by kernel_rfl
theorem sz35 : sizeT Try.prog 35 = some 6 := by kernel_rfl
theorem sz44 : sizeT Try.prog 44 = some 4 := by kernel_rfl
theorem sz57 : sizeT Try.prog 57 = some 1 := by kernel_rfl
theorem eqG29 : Try.prog.eqGuardType Try.prog.depth 29 = false := by kernel_rfl
theorem eqA29 : isAggB Try.prog 29 = true := by kernel_rfl
theorem eqT29 (a0 : Int) (a1 : Int) (b0 : Int) (b1 : Int) : eqT Try.prog 20 29 [(Value.int .u32 a0), (Value.int .i64 a1)] [(Value.int .u32 b0), (Value.int .i64 b1)] = some (((a0 : Int) == b0) && (((a1 : Int) == b1) && true)) := by kernel_rfl
theorem eqG31 : Try.prog.eqGuardType Try.prog.depth 31 = false := by kernel_rfl
theorem eqA31 : isAggB Try.prog 31 = true := by kernel_rfl
theorem eqT31 (a0 : Int) (a1 : Int) (a2 : Int) (a3 : Bool) (b0 : Int) (b1 : Int) (b2 : Int) (b3 : Bool) : eqT Try.prog 20 31 [(Value.int .u32 a0), (Value.int .i64 a1), (Value.int .i64 a2), (Value.bool a3)] [(Value.int .u32 b0), (Value.int .i64 b1), (Value.int .i64 b2), (Value.bool b3)] = some ((((a0 : Int) == b0) && (((a1 : Int) == b1) && true)) && (((a2 : Int) == b2) && ((a3 == b3) && true))) := by kernel_rfl
theorem eqG35 : Try.prog.eqGuardType Try.prog.depth 35 = false := by kernel_rfl
theorem eqA35 : isAggB Try.prog 35 = true := by kernel_rfl
theorem eqT35 (a0 : Int) (a1 : Int) (a2 : Int) (a3 : Int) (a4 : Bool) (a5 : Int) (b0 : Int) (b1 : Int) (b2 : Int) (b3 : Int) (b4 : Bool) (b5 : Int) : eqT Try.prog 20 35 [(Value.int .i64 a0), (Value.int .u32 a1), (Value.int .i64 a2), (Value.int .i64 a3), (Value.bool a4), (Value.int .i64 a5)] [(Value.int .i64 b0), (Value.int .u32 b1), (Value.int .i64 b2), (Value.int .i64 b3), (Value.bool b4), (Value.int .i64 b5)] = some (((a0 : Int) == b0) && (((((a1 : Int) == b1) && (((a2 : Int) == b2) && true)) && (((a3 : Int) == b3) && ((a4 == b4) && true))) && (((a5 : Int) == b5) && true))) := by kernel_rfl
theorem slt23 : SlT Try.prog 23 31 (Value.agg #[(Value.int .u32 0), (Value.int .i64 0), (Value.int .i64 0), (Value.bool false)]) 4 32 := ⟨by kernel_rfl, by kernel_rfl, by kernel_rfl, by decide⟩
theorem undP25 : Try.prog.underlying 25 = some (.pointer (Try.prog.pointee 25)) := by kernel_rfl
theorem undB4 : Try.prog.underlying 4 = some .bool := by kernel_rfl
theorem und23 : Try.prog.underlying 23 = some (.slice 31) := by kernel_rfl


/-! embrasure/advert.Inside (28) -/
def advert_Inside_wp (host : Int) (K : Bool → Prop) : Prop :=
  cond (((Int.fdiv host (2 ^ (min (Int.toNat 24) (IntKind.bits .u32)))) : Int) == 10) (K true) (cond (((Int.fdiv host (2 ^ (min (Int.toNat 20) (IntKind.bits .u32)))) : Int) == 2753) (K true) (K (((Int.fdiv host (2 ^ (min (Int.toNat 16) (IntKind.bits .u32)))) : Int) == 49320)))
theorem advert_Inside_ok {host : Int} {FL : List HP} {w : World} {K : Bool → Prop} {R : Value → World → Prop}
  (h : Mem (FL) w) (hp : advert_Inside_wp host K)
  (hR : ∀ (r : Bool) (w : World), Mem (FL) w → K r → R (Value.bool r) w) :
  CallV Try.prog 28 #[(Value.int .u32 host)] w R := by
  refine advert_Inside_call ?_
  unfold advert_Inside
  unfold advert_Inside_wp at hp
  refine ⟨by decide, ?_⟩
  refine cond_both hp (fun hp => ?_) (fun hp => ?_)
  · exact hR true _ h hp
  refine ⟨by decide, ?_⟩
  refine cond_both hp (fun hp => ?_) (fun hp => ?_)
  · exact hR true _ h hp
  refine ⟨by decide, ?_⟩
  exact hR (((Int.fdiv host (2 ^ (min (Int.toNat 16) (IntKind.bits .u32)))) : Int) == 49320) _ h hp

/-! embrasure/path.Ways$1 (27) -/
def path_Ways_c1_wp (p_Addr : Int) (p_Addr_1 : Int) (p_ID : Int) (p_Via : Bool) (K : Bool → Prop) : Prop :=
  cond (!p_Via) (advert_Inside_wp p_Addr (fun (r : Bool) => K (!r))) (K false)
theorem path_Ways_c1_ok {p_Addr : Int} {p_Addr_1 : Int} {p_ID : Int} {p_Via : Bool} {FL : List HP} {w : World} {K : Bool → Prop} {R : Value → World → Prop}
  (h : Mem (FL) w) (hp : path_Ways_c1_wp p_Addr p_Addr_1 p_ID p_Via K)
  (hR : ∀ (r : Bool) (w : World), Mem (FL) w → K r → R (Value.bool r) w) :
  CallV Try.prog 27 #[(Value.agg #[(Value.int .u32 p_Addr), (Value.int .i64 p_Addr_1), (Value.int .i64 p_ID), (Value.bool p_Via)])] w R := by
  refine path_Ways_c1_call ?_
  unfold path_Ways_c1
  unfold path_Ways_c1_wp at hp
  refine newL (o := [(Value.int .u32 p_Addr), (Value.int .i64 p_Addr_1), (Value.int .i64 p_ID), (Value.bool p_Via)]) h ?_
  intro b_1 w h
  refine ⟨_, cellL h 0 3 rfl rfl rfl, ?_⟩
  refine cond_both' hp (fun hp => ?_) (fun hp => ?_)
  · replace h := h.sel [] 1
    dsimp only [pickL, pickR, nthH, delH, dropH, List.cons_append, List.nil_append] at h
    exact hR false _ h hp
  refine ⟨_, cellL h 0 0 rfl rfl rfl, ?_⟩
  refine advert_Inside_ok h hp ?_
  intro r w h hp
  refine ⟨_, rfl, ?_⟩
  replace h := h.sel [] 1
  dsimp only [pickL, pickR, nthH, delH, dropH, List.cons_append, List.nil_append] at h
  exact hR (!r) _ h hp

/-! embrasure/path.Ways$2 (29) -/
def path_Ways_c2_wp (p_Addr : Int) (p_Addr_1 : Int) (p_ID : Int) (p_Via : Bool) (t : Int) (K : Bool → Prop) : Prop :=
  cond (!p_Via) (advert_Inside_wp p_Addr (fun (r : Bool) => cond r (K (((Int.fdiv p_Addr (2 ^ (min (Int.toNat 8) (IntKind.bits .u32)))) : Int) == (Int.fdiv t (2 ^ (min (Int.toNat 8) (IntKind.bits .u32)))))) (K false))) (K false)
theorem path_Ways_c2_ok {b_1 : Nat} {p_Addr : Int} {p_Addr_1 : Int} {p_ID : Int} {p_Via : Bool} {t : Int} {FL : List HP} {w : World} {K : Bool → Prop} {R : Value → World → Prop}
  (h : Mem (cel b_1 22 [(Value.int .u32 t)] :: FL) w) (hp : path_Ways_c2_wp p_Addr p_Addr_1 p_ID p_Via t K)
  (hR : ∀ (r : Bool) (w : World), Mem (cel b_1 22 [(Value.int .u32 t)] :: FL) w → K r → R (Value.bool r) w) :
  CallV Try.prog 29 #[(Value.agg #[(Value.int .u32 p_Addr), (Value.int .i64 p_Addr_1), (Value.int .i64 p_ID), (Value.bool p_Via)]), (Value.pointer (some (Addr.mk b_1 0 none)))] w R := by
  refine path_Ways_c2_call ?_
  unfold path_Ways_c2
  unfold path_Ways_c2_wp at hp
  refine newL (o := [(Value.int .u32 p_Addr), (Value.int .i64 p_Addr_1), (Value.int .i64 p_ID), (Value.bool p_Via)]) h ?_
  intro b_2 w h
  refine ⟨_, cellL h 0 3 rfl rfl rfl, ?_⟩
  refine cond_both' hp (fun hp => ?_) (fun hp => ?_)
  · replace h := h.sel [1] 1
    dsimp only [pickL, pickR, nthH, delH, dropH, List.cons_append, List.nil_append] at h
    exact hR false _ h hp
  refine ⟨_, cellL h 0 0 rfl rfl rfl, ?_⟩
  refine advert_Inside_ok h hp ?_
  intro r w h hp
  refine ⟨_, rfl, ?_⟩
  refine cond_both' hp (fun hp => ?_) (fun hp => ?_)
  · replace h := h.sel [1] 1
    dsimp only [pickL, pickR, nthH, delH, dropH, List.cons_append, List.nil_append] at h
    exact hR false _ h hp
  refine ⟨_, cellL h 0 0 rfl rfl rfl, ?_⟩
  refine ⟨by decide, ?_⟩
  refine ⟨_, cellL h 1 0 rfl rfl rfl, ?_⟩
  refine ⟨by decide, ?_⟩
  replace h := h.sel [1] 1
  dsimp only [pickL, pickR, nthH, delH, dropH, List.cons_append, List.nil_append] at h
  exact hR (((Int.fdiv p_Addr (2 ^ (min (Int.toNat 8) (IntKind.bits .u32)))) : Int) == (Int.fdiv t (2 ^ (min (Int.toNat 8) (IntKind.bits .u32))))) _ h hp

/-! embrasure/path.Ways$3 (30) -/
def path_Ways_c3_wp (p_Addr : Int) (p_Addr_1 : Int) (p_ID : Int) (p_Via : Bool) (K : Bool → Prop) : Prop :=
  K p_Via
theorem path_Ways_c3_ok {p_Addr : Int} {p_Addr_1 : Int} {p_ID : Int} {p_Via : Bool} {FL : List HP} {w : World} {K : Bool → Prop} {R : Value → World → Prop}
  (h : Mem (FL) w) (hp : path_Ways_c3_wp p_Addr p_Addr_1 p_ID p_Via K)
  (hR : ∀ (r : Bool) (w : World), Mem (FL) w → K r → R (Value.bool r) w) :
  CallV Try.prog 30 #[(Value.agg #[(Value.int .u32 p_Addr), (Value.int .i64 p_Addr_1), (Value.int .i64 p_ID), (Value.bool p_Via)])] w R := by
  refine path_Ways_c3_call ?_
  unfold path_Ways_c3
  unfold path_Ways_c3_wp at hp
  refine newL (o := [(Value.int .u32 p_Addr), (Value.int .i64 p_Addr_1), (Value.int .i64 p_ID), (Value.bool p_Via)]) h ?_
  intro b_1 w h
  refine ⟨_, cellL h 0 3 rfl rfl rfl, ?_⟩
  replace h := h.sel [] 1
  dsimp only [pickL, pickR, nthH, delH, dropH, List.cons_append, List.nil_append] at h
  exact hR p_Via _ h hp

/-! embrasure/addr.May (35) -/
def addr_May_wp (a_Host : Int) (a_Port : Int) (K : Bool → Prop) : Prop :=
  cond ((a_Host : Int) != 0) (cond (decide ((a_Port : Int) ≥ 1)) (K (decide ((a_Port : Int) ≤ 65535))) (K false)) (K false)
theorem addr_May_ok {a_Host : Int} {a_Port : Int} {FL : List HP} {w : World} {K : Bool → Prop} {R : Value → World → Prop}
  (h : Mem (FL) w) (hp : addr_May_wp a_Host a_Port K)
  (hR : ∀ (r : Bool) (w : World), Mem (FL) w → K r → R (Value.bool r) w) :
  CallV Try.prog 35 #[(Value.agg #[(Value.int .u32 a_Host), (Value.int .i64 a_Port)])] w R := by
  refine addr_May_call ?_
  unfold addr_May
  unfold addr_May_wp at hp
  refine newL (o := [(Value.int .u32 a_Host), (Value.int .i64 a_Port)]) h ?_
  intro b_1 w h
  refine ⟨_, cellL h 0 0 rfl rfl rfl, ?_⟩
  refine cond_both' hp (fun hp => ?_) (fun hp => ?_)
  · replace h := h.sel [] 1
    dsimp only [pickL, pickR, nthH, delH, dropH, List.cons_append, List.nil_append] at h
    exact hR false _ h hp
  refine ⟨_, cellL h 0 1 rfl rfl rfl, ?_⟩
  refine cond_both' hp (fun hp => ?_) (fun hp => ?_)
  · replace h := h.sel [] 1
    dsimp only [pickL, pickR, nthH, delH, dropH, List.cons_append, List.nil_append] at h
    exact hR false _ h hp
  refine ⟨_, cellL h 0 1 rfl rfl rfl, ?_⟩
  replace h := h.sel [] 1
  dsimp only [pickL, pickR, nthH, delH, dropH, List.cons_append, List.nil_append] at h
  exact hR (decide ((a_Port : Int) ≤ 65535)) _ h hp

/-! embrasure/addr.MayPlace (40) -/
def addr_MayPlace_wp (p_Addr : Int) (p_Addr_1 : Int) (p_ID : Int) (p_Via : Bool) (K : Bool → Prop) : Prop :=
  addr_May_wp p_Addr p_Addr_1 (fun (r : Bool) => cond r (cond (decide ((p_ID : Int) ≥ 0)) (cond (decide ((p_ID : Int) ≤ 2147483647)) (cond (decide ((p_ID : Int) > 0)) (K true) (K (!p_Via))) (K false)) (K false)) (K false))
theorem addr_MayPlace_ok {p_Addr : Int} {p_Addr_1 : Int} {p_ID : Int} {p_Via : Bool} {FL : List HP} {w : World} {K : Bool → Prop} {R : Value → World → Prop}
  (h : Mem (FL) w) (hp : addr_MayPlace_wp p_Addr p_Addr_1 p_ID p_Via K)
  (hR : ∀ (r : Bool) (w : World), Mem (FL) w → K r → R (Value.bool r) w) :
  CallV Try.prog 40 #[(Value.agg #[(Value.int .u32 p_Addr), (Value.int .i64 p_Addr_1), (Value.int .i64 p_ID), (Value.bool p_Via)])] w R := by
  refine addr_MayPlace_call ?_
  unfold addr_MayPlace
  unfold addr_MayPlace_wp at hp
  refine newL (o := [(Value.int .u32 p_Addr), (Value.int .i64 p_Addr_1), (Value.int .i64 p_ID), (Value.bool p_Via)]) h ?_
  intro b_1 w h
  refine ⟨_, cellL h 0 0 rfl rfl rfl, _, cellL h 0 1 rfl rfl rfl, ?_⟩
  refine addr_May_ok h hp ?_
  intro r w h hp
  refine ⟨_, rfl, ?_⟩
  refine cond_both' hp (fun hp => ?_) (fun hp => ?_)
  · replace h := h.sel [] 1
    dsimp only [pickL, pickR, nthH, delH, dropH, List.cons_append, List.nil_append] at h
    exact hR false _ h hp
  refine ⟨_, cellL h 0 2 rfl rfl rfl, ?_⟩
  refine cond_both' hp (fun hp => ?_) (fun hp => ?_)
  · replace h := h.sel [] 1
    dsimp only [pickL, pickR, nthH, delH, dropH, List.cons_append, List.nil_append] at h
    exact hR false _ h hp
  refine ⟨_, cellL h 0 2 rfl rfl rfl, ?_⟩
  refine cond_both' hp (fun hp => ?_) (fun hp => ?_)
  · replace h := h.sel [] 1
    dsimp only [pickL, pickR, nthH, delH, dropH, List.cons_append, List.nil_append] at h
    exact hR false _ h hp
  refine ⟨_, cellL h 0 2 rfl rfl rfl, ?_⟩
  refine cond_both hp (fun hp => ?_) (fun hp => ?_)
  · replace h := h.sel [] 1
    dsimp only [pickL, pickR, nthH, delH, dropH, List.cons_append, List.nil_append] at h
    exact hR true _ h hp
  refine ⟨_, cellL h 0 3 rfl rfl rfl, ?_⟩
  replace h := h.sel [] 1
  dsimp only [pickL, pickR, nthH, delH, dropH, List.cons_append, List.nil_append] at h
  exact hR (!p_Via) _ h hp

/-! embrasure/path.some$1 (39) -/
def path_some_c1_wp {σ0 : Type} {σ101 : Type} (s : σ0) (Y0 : (Int × Int × Int × Bool) → σ0 → (Bool → σ0 → Prop) → Prop) (t : List (Int × Int × Int × Bool)) (s_1 : σ101) (Y101 : (Int × Int × Int × Bool) → σ101 → (Bool → σ101 → Prop) → Prop) (K : σ0 → σ101 → Prop) : Prop :=
  ∃ (I : Nat → Int → σ0 → σ101 → Prop), (∃ (n_4 : Nat), I n_4 0 s s_1) ∧ ∀ (n_2 : Nat) (t8 : Int) (s_4 : σ0) (s_5 : σ101), I n_2 t8 s_4 s_5 → (cond (decide ((t8 : Int) < ((t.length : Nat) : Int))) (0 ≤ (t8 : Int) ∧ (t8 : Int) < ((t.length : Nat) : Int) ∧ (∀ (x_1 : Int × Int × Int × Bool), t[Int.toNat t8]? = some x_1 → (joinP3 (fun (t24 : Bool) (s_6 : σ0) (s_7 : σ101) => cond t24 (K s_6 s_7) (∃ (n_3 : Nat), n_3 < n_2 ∧ I n_3 (IntKind.wrap .i64 (t8 + 1)) s_6 s_7)) (fun (Q : Bool → σ0 → σ101 → Prop) => addr_MayPlace_wp x_1.1 x_1.2.1 x_1.2.2.1 x_1.2.2.2 (fun (r : Bool) => cond r (Y101 x_1 s_5 (fun (t17 : Bool) (s_8 : σ101) => cond t17 (Y0 x_1 s_4 (fun (t22 : Bool) (s_9 : σ0) => Q (!t22) s_9 s_8)) (Q false s_4 s_8))) (Q false s_4 s_5)))))) (K s_4 s_5))
theorem path_some_c1_ok {σ0 : Type} {A0 : σ0 → HP} {σ101 : Type} {A101 : σ101 → HP} {ff0 : Fn} {fa0 : Array Value} {fc0 : Array Value} {b_1 : Nat} {p_1 : Option Addr} {n_1 : Nat} {c_1 : Nat} {b_2 : Nat} {ff101 : Fn} {fa101 : Array Value} {fc101 : Array Value} {s : σ0} {Y0 : (Int × Int × Int × Bool) → σ0 → (Bool → σ0 → Prop) → Prop} {t : List (Int × Int × Int × Bool)} {s_1 : σ101} {Y101 : (Int × Int × Int × Bool) → σ101 → (Bool → σ101 → Prop) → Prop} {FL : List HP} {w : World} {K : σ0 → σ101 → Prop} {R : Value → World → Prop}
  (hY0 : ∀ (x0 : Int × Int × Int × Bool) (s : σ0) (K : Bool → σ0 → Prop) (FL2 : List HP) (w : World) (R : Value → World → Prop), (∀ w, Mem FL2 w → Mem FL w) → Mem (A0 s :: FL2) w → Y0 x0 s K → (∀ (r : Bool) (s : σ0) (w : World), Mem (A0 s :: FL2) w → K r s → R (Value.bool r) w) → CalleeV Try.prog (Value.func ff0 fa0 fc0) #[(Value.agg #[(Value.int .u32 x0.1), (Value.int .i64 x0.2.1), (Value.int .i64 x0.2.2.1), (Value.bool x0.2.2.2)])] w R)
  (hY101 : ∀ (x0 : Int × Int × Int × Bool) (s : σ101) (K : Bool → σ101 → Prop) (FL2 : List HP) (w : World) (R : Value → World → Prop), (∀ w, Mem FL2 w → Mem FL w) → Mem (A101 s :: FL2) w → Y101 x0 s K → (∀ (r : Bool) (s : σ101) (w : World), Mem (A101 s :: FL2) w → K r s → R (Value.bool r) w) → CalleeV Try.prog (Value.func ff101 fa101 fc101) #[(Value.agg #[(Value.int .u32 x0.1), (Value.int .i64 x0.2.1), (Value.int .i64 x0.2.2.1), (Value.bool x0.2.2.2)])] w R)
  (hF_t : ∀ w, Mem FL w → Rd w 4 p_1 enc31 t) (hl_t : n_1 = t.length) (hc_t : n_1 ≤ c_1)
  (h : Mem (cel b_1 23 [(Value.slice p_1 n_1 c_1)] :: cel b_2 55 [(Value.func ff101 fa101 fc101)] :: A0 s :: A101 s_1 :: FL) w) (hp : path_some_c1_wp s Y0 t s_1 Y101 K)
  (hR : ∀ (s_2 : σ0) (s_3 : σ101) (w : World), Mem (cel b_1 23 [(Value.slice p_1 t.length c_1)] :: cel b_2 55 [(Value.func ff101 fa101 fc101)] :: A0 s_2 :: A101 s_3 :: FL) w → K s_2 s_3 → R undef w) :
  CallV Try.prog 39 #[(Value.func ff0 fa0 fc0), (Value.pointer (some (Addr.mk b_1 0 none))), (Value.pointer (some (Addr.mk b_2 0 none)))] w R := by
  refine path_some_c1_call ?_
  unfold path_some_c1
  unfold path_some_c1_wp at hp
  subst hl_t
  refine ⟨_, _, _, cellL h 0 0 rfl rfl rfl, ?_⟩
  obtain ⟨I, ⟨n_4, h0⟩, hq⟩ := hp
  refine ⟨fun n_2 yield0 t2 t6p t6l t6c t7 t8 w => ∃ (s_4 : σ0), ∃ (s_5 : σ101), (Value.func ff0 fa0 fc0) = yield0 ∧ (Addr.mk b_2 0 none) = t2 ∧ p_1 = t6p ∧ t.length = t6l ∧ c_1 = t6c ∧ ((t.length : Nat) : Int) = t7 ∧ I n_2 t8 s_4 s_5 ∧ Mem (cel b_1 23 [(Value.slice p_1 t.length c_1)] :: cel b_2 55 [(Value.func ff101 fa101 fc101)] :: A0 s_4 :: A101 s_5 :: FL) w, ⟨n_4, s, s_1, rfl, rfl, rfl, rfl, rfl, rfl, h0, h⟩, ?_⟩
  clear h0 h
  rintro n_2 yield0 t2 t6p t6l t6c t7 t8 w ⟨s_4, s_5, rfl, rfl, rfl, rfl, rfl, rfl, hp, h⟩
  replace hp := hq n_2 t8 s_4 s_5 hp
  clear hq
  unfold path_some_c1_l1
  refine cond_both' hp (fun hp => ?_) (fun hp => ?_)
  · exact hR s_4 s_5 _ h hp
  obtain ⟨ia_1, ja_1, hp⟩ := hp
  obtain ⟨a_1, ha_1⟩ := rdAddr (hF_t _ (h.drop 4)) rfl ia_1 ja_1
  refine ⟨a_1, ha_1, ia_1, ja_1, ?_⟩
  obtain ⟨x_1, hx_1, hc⟩ := rdCell (hF_t _ (h.drop 4)) ha_1 rfl ia_1 ja_1
  replace hp := hp x_1 hx_1
  refine ⟨_, hc 0 _ rfl, _, hc 1 _ rfl, _, hc 2 _ rfl, _, hc 3 _ rfl, ?_⟩
  refine newL (o := [(Value.int .u32 0), (Value.int .i64 0), (Value.int .i64 0), (Value.bool false)]) h ?_
  intro b_3 w h
  refine storeL (ys := [(Value.int .u32 x_1.1), (Value.int .i64 x_1.2.1), (Value.int .i64 x_1.2.2.1), (Value.bool x_1.2.2.2)]) h 0 0 rfl rfl rfl sz31 rfl rfl ?_
  intro w h
  dsimp only [setH, setVs, setV] at h
  obtain ⟨Q, hq, hp⟩ := hp
  refine ⟨fun yield0_1 t2_1 t6_1p t6_1l t6_1c t7_1 t8_1 t24 w => ∃ (s_6 : σ0), ∃ (s_7 : σ101), (Value.func ff0 fa0 fc0) = yield0_1 ∧ (Addr.mk b_2 0 none) = t2_1 ∧ p_1 = t6_1p ∧ t.length = t6_1l ∧ c_1 = t6_1c ∧ ((t.length : Nat) : Int) = t7_1 ∧ t8 = t8_1 ∧ Q t24 s_6 s_7 ∧ Mem (cel b_3 31 [(Value.int .u32 x_1.1), (Value.int .i64 x_1.2.1), (Value.int .i64 x_1.2.2.1), (Value.bool x_1.2.2.2)] :: cel b_1 23 [(Value.slice p_1 t.length c_1)] :: cel b_2 55 [(Value.func ff101 fa101 fc101)] :: A0 s_6 :: A101 s_7 :: FL) w, ?_, ?_⟩
  · rintro yield0_1 t2_1 t6_1p t6_1l t6_1c t7_1 t8_1 t24 w ⟨s_6, s_7, rfl, rfl, rfl, rfl, rfl, rfl, rfl, hp, h⟩
    replace hp := hq t24 s_6 s_7 hp
    unfold path_some_c1_j2
    refine cond_both hp (fun hp => ?_) (fun hp => ?_)
    · replace h := h.sel [1, 1, 1, 1] 1
      dsimp only [pickL, pickR, nthH, delH, dropH, List.cons_append, List.nil_append] at h
      exact hR s_6 s_7 _ h hp
    replace h := h.sel [1, 1, 1, 1] 1
    dsimp only [pickL, pickR, nthH, delH, dropH, List.cons_append, List.nil_append] at h
    obtain ⟨n_3, hn, hp⟩ := hp
    exact ⟨n_3, hn, s_6, s_7, rfl, rfl, rfl, rfl, rfl, rfl, hp, h⟩
  clear hq
  refine ⟨_, cellL h 0 0 rfl rfl rfl, _, cellL h 0 1 rfl rfl rfl, _, cellL h 0 2 rfl rfl rfl, _, cellL h 0 3 rfl rfl rfl, ?_⟩
  refine addr_MayPlace_ok h hp ?_
  intro r w h hp
  refine ⟨_, rfl, ?_⟩
  refine cond_both' hp (fun hp => ?_) (fun hp => ?_)
  · exact ⟨s_4, s_5, rfl, rfl, rfl, rfl, rfl, rfl, rfl, hp, h⟩
  refine ⟨_, cellL h 2 0 rfl rfl rfl, ?_⟩
  refine ⟨_, cellL h 0 0 rfl rfl rfl, _, cellL h 0 1 rfl rfl rfl, _, cellL h 0 2 rfl rfl rfl, _, cellL h 0 3 rfl rfl rfl, ?_⟩
  replace h := h.pick [4]
  dsimp only [pickL, pickR, nthH, delH, dropH, List.cons_append, List.nil_append] at h
  refine hY101 x_1 _ _ (cel b_3 31 [(Value.int .u32 x_1.1), (Value.int .i64 x_1.2.1), (Value.int .i64 x_1.2.2.1), (Value.bool x_1.2.2.2)] :: cel b_1 23 [(Value.slice p_1 t.length c_1)] :: cel b_2 55 [(Value.func ff101 fa101 fc101)] :: A0 s_4 :: FL) _ _ (fun _ h => Mem.drop 4 h) h hp ?_
  intro t17 s_8 w h hp
  refine ⟨_, rfl, ?_⟩
  refine cond_both' hp (fun hp => ?_) (fun hp => ?_)
  · replace h := h.sel [1, 1, 1, 1, 0] 0
    dsimp only [pickL, pickR, nthH, delH, dropH, List.cons_append, List.nil_append] at h
    exact ⟨s_4, s_8, rfl, rfl, rfl, rfl, rfl, rfl, rfl, hp, h⟩
  refine ⟨_, cellL h 1 0 rfl rfl rfl, _, cellL h 1 1 rfl rfl rfl, _, cellL h 1 2 rfl rfl rfl, _, cellL h 1 3 rfl rfl rfl, ?_⟩
  replace h := h.pick [4]
  dsimp only [pickL, pickR, nthH, delH, dropH, List.cons_append, List.nil_append] at h
  refine hY0 x_1 _ _ (A101 s_8 :: cel b_3 31 [(Value.int .u32 x_1.1), (Value.int .i64 x_1.2.1), (Value.int .i64 x_1.2.2.1), (Value.bool x_1.2.2.2)] :: cel b_1 23 [(Value.slice p_1 t.length c_1)] :: cel b_2 55 [(Value.func ff101 fa101 fc101)] :: FL) _ _ (fun _ h => Mem.drop 4 h) h hp ?_
  intro t22 s_9 w h hp
  refine ⟨_, rfl, ?_⟩
  replace h := h.sel [2, 2, 2, 0, 0] 0
  dsimp only [pickL, pickR, nthH, delH, dropH, List.cons_append, List.nil_append] at h
  exact ⟨s_9, s_8, rfl, rfl, rfl, rfl, rfl, rfl, rfl, hp, h⟩

/-! embrasure/path.some (31) -/
def path_some_wp {σ1 : Type} (places : List (Int × Int × Int × Bool)) (s : σ1) (Y1 : (Int × Int × Int × Bool) → σ1 → (Bool → σ1 → Prop) → Prop) (K : Prop) : Prop :=
  K 
theorem path_some_ok {σ1 : Type} {A1 : σ1 → HP} {p_1 : Option Addr} {n_1 : Nat} {c_1 : Nat} {ff1 : Fn} {fa1 : Array Value} {fc1 : Array Value} {places : List (Int × Int × Int × Bool)} {s : σ1} {Y1 : (Int × Int × Int × Bool) → σ1 → (Bool → σ1 → Prop) → Prop} {FL : List HP} {w : World} {K : Prop} {R : Value → World → Prop}
  (hY1 : ∀ (x0 : Int × Int × Int × Bool) (s : σ1) (K : Bool → σ1 → Prop) (FL2 : List HP) (w : World) (R : Value → World → Prop), (∀ w, Mem FL2 w → Mem FL w) → Mem (A1 s :: FL2) w → Y1 x0 s K → (∀ (r : Bool) (s : σ1) (w : World), Mem (A1 s :: FL2) w → K r s → R (Value.bool r) w) → CalleeV Try.prog (Value.func ff1 fa1 fc1) #[(Value.agg #[(Value.int .u32 x0.1), (Value.int .i64 x0.2.1), (Value.int .i64 x0.2.2.1), (Value.bool x0.2.2.2)])] w R)
  (hF_places : ∀ w, Mem FL w → Rd w 4 p_1 enc31 places) (hl_places : n_1 = places.length) (hc_places : n_1 ≤ c_1)
  (h : Mem (A1 s :: FL) w) (hp : path_some_wp places s Y1 K)
  (hR : ∀ (b_1 : Nat) (b_2 : Nat) (w : World), Mem (cel b_1 23 [(Value.slice p_1 n_1 c_1)] :: cel b_2 55 [(Value.func ff1 fa1 fc1)] :: A1 s :: FL) w → K  → R (Value.func (Fn.func 39) #[] #[(Value.pointer (some (Addr.mk b_1 0 none))), (Value.pointer (some (Addr.mk b_2 0 none)))]) w) :
  CallV Try.prog 31 #[(Value.slice p_1 n_1 c_1), (Value.func ff1 fa1 fc1)] w R := by
  refine path_some_call ?_
  unfold path_some
  unfold path_some_wp at hp
  subst hl_places
  refine newL (o := [(Value.slice p_1 places.length c_1)]) h ?_
  intro b_1 w h
  refine newL (o := [(Value.func ff1 fa1 fc1)]) h ?_
  intro b_2 w h
  replace h := h.sel [1, 0, 0] 0
  dsimp only [pickL, pickR, nthH, delH, dropH, List.cons_append, List.nil_append] at h
  exact hR b_1 b_2 _ h hp

/-! slices.Index[[]embrasure/api.Place,embrasure/api.Place] (41) -/
def slices_Index_sl_api_Place_api_Place_wp (s : List (Int × Int × Int × Bool)) (v_Addr : Int) (v_Addr_1 : Int) (v_ID : Int) (v_Via : Bool) (K : Int → Prop) : Prop :=
  ∃ (I : Nat → Int → Prop), (∃ (n_4 : Nat), I n_4 0) ∧ ∀ (n_2 : Nat) (t8 : Int), I n_2 t8 → (cond (decide ((t8 : Int) < ((s.length : Nat) : Int))) (0 ≤ (t8 : Int) ∧ (t8 : Int) < ((s.length : Nat) : Int) ∧ (∀ (x_1 : Int × Int × Int × Bool), s[Int.toNat t8]? = some x_1 → (cond ((((v_Addr : Int) == x_1.1) && (((v_Addr_1 : Int) == x_1.2.1) && true)) && (((v_ID : Int) == x_1.2.2.1) && ((v_Via == x_1.2.2.2) && true))) (K t8) (∃ (n_3 : Nat), n_3 < n_2 ∧ I n_3 (IntKind.wrap .i64 (t8 + 1)))))) (K (-1)))
theorem slices_Index_sl_api_Place_api_Place_ok {p_1 : Option Addr} {n_1 : Nat} {c_1 : Nat} {s : List (Int × Int × Int × Bool)} {v_Addr : Int} {v_Addr_1 : Int} {v_ID : Int} {v_Via : Bool} {FL : List HP} {w : World} {K : Int → Prop} {R : Value → World → Prop}
  (hF_s : ∀ w, Mem FL w → Rd w 4 p_1 enc31 s) (hl_s : n_1 = s.length) (hc_s : n_1 ≤ c_1)
  (h : Mem (FL) w) (hp : slices_Index_sl_api_Place_api_Place_wp s v_Addr v_Addr_1 v_ID v_Via K)
  (hR : ∀ (r : Int) (w : World), Mem (FL) w → K r → R (Value.int .i64 r) w) :
  CallV Try.prog 41 #[(Value.slice p_1 n_1 c_1), (Value.agg #[(Value.int .u32 v_Addr), (Value.int .i64 v_Addr_1), (Value.int .i64 v_ID), (Value.bool v_Via)])] w R := by
  refine slices_Index_sl_api_Place_api_Place_call ?_
  unfold slices_Index_sl_api_Place_api_Place
  unfold slices_Index_sl_api_Place_api_Place_wp at hp
  subst hl_s
  refine newL (o := [(Value.int .u32 v_Addr), (Value.int .i64 v_Addr_1), (Value.int .i64 v_ID), (Value.bool v_Via)]) h ?_
  intro b_1 w h
  obtain ⟨I, ⟨n_4, h0⟩, hq⟩ := hp
  refine ⟨fun n_2 s0p s0l s0c v3 t7 t8 w => p_1 = s0p ∧ s.length = s0l ∧ c_1 = s0c ∧ (Addr.mk b_1 0 none) = v3 ∧ ((s.length : Nat) : Int) = t7 ∧ I n_2 t8 ∧ Mem (cel b_1 31 [(Value.int .u32 v_Addr), (Value.int .i64 v_Addr_1), (Value.int .i64 v_ID), (Value.bool v_Via)] :: FL) w, ⟨n_4, rfl, rfl, rfl, rfl, rfl, h0, h⟩, ?_⟩
  clear h0 h
  rintro n_2 s0p s0l s0c v3 t7 t8 w ⟨rfl, rfl, rfl, rfl, rfl, hp, h⟩
  replace hp := hq n_2 t8 hp
  clear hq
  unfold slices_Index_sl_api_Place_api_Place_l1
  refine cond_both' hp (fun hp => ?_) (fun hp => ?_)
  · replace h := h.sel [] 1
    dsimp only [pickL, pickR, nthH, delH, dropH, List.cons_append, List.nil_append] at h
    exact hR (-1) _ h hp
  replace h := h.drew
  refine ⟨_, cellL h 0 0 rfl rfl rfl, _, cellL h 0 1 rfl rfl rfl, _, cellL h 0 2 rfl rfl rfl, _, cellL h 0 3 rfl rfl rfl, ?_⟩
  obtain ⟨ia_1, ja_1, hp⟩ := hp
  obtain ⟨a_1, ha_1⟩ := rdAddr (hF_s _ (h.drop 1)) rfl ia_1 ja_1
  refine ⟨a_1, ha_1, ia_1, ja_1, ?_⟩
  obtain ⟨x_1, hx_1, hc⟩ := rdCell (hF_s _ (h.drop 1)) ha_1 rfl ia_1 ja_1
  replace hp := hp x_1 hx_1
  refine ⟨_, hc 0 _ rfl, _, hc 1 _ rfl, _, hc 2 _ rfl, _, hc 3 _ rfl, ?_⟩
  refine eqlAgg (xs := [(Value.int .u32 v_Addr), (Value.int .i64 v_Addr_1), (Value.int .i64 v_ID), (Value.bool v_Via)]) (ys := [(Value.int .u32 x_1.1), (Value.int .i64 x_1.2.1), (Value.int .i64 x_1.2.2.1), (Value.bool x_1.2.2.2)]) eqG31 eqA31 (eqT31 v_Addr v_Addr_1 v_ID v_Via x_1.1 x_1.2.1 x_1.2.2.1 x_1.2.2.2) ?_
  refine ⟨_, rfl, ?_⟩
  refine ⟨rfl, ?_⟩
  refine cond_both' hp (fun hp => ?_) (fun hp => ?_)
  · obtain ⟨n_3, hn, hp⟩ := hp
    exact ⟨n_3, hn, rfl, rfl, rfl, rfl, rfl, hp, h⟩
  replace h := h.sel [] 1
  dsimp only [pickL, pickR, nthH, delH, dropH, List.cons_append, List.nil_append] at h
  exact hR t8 _ h hp

/-! slices.Contains[[]embrasure/api.Place,embrasure/api.Place] (32) -/
def slices_Contains_sl_api_Place_api_Place_wp (s : List (Int × Int × Int × Bool)) (v_Addr : Int) (v_Addr_1 : Int) (v_ID : Int) (v_Via : Bool) (K : Bool → Prop) : Prop :=
  slices_Index_sl_api_Place_api_Place_wp s v_Addr v_Addr_1 v_ID v_Via (fun (r : Int) => K (decide ((r : Int) ≥ 0)))
theorem slices_Contains_sl_api_Place_api_Place_ok {p_1 : Option Addr} {n_1 : Nat} {c_1 : Nat} {s : List (Int × Int × Int × Bool)} {v_Addr : Int} {v_Addr_1 : Int} {v_ID : Int} {v_Via : Bool} {FL : List HP} {w : World} {K : Bool → Prop} {R : Value → World → Prop}
  (hF_s : ∀ w, Mem FL w → Rd w 4 p_1 enc31 s) (hl_s : n_1 = s.length) (hc_s : n_1 ≤ c_1)
  (h : Mem (FL) w) (hp : slices_Contains_sl_api_Place_api_Place_wp s v_Addr v_Addr_1 v_ID v_Via K)
  (hR : ∀ (r : Bool) (w : World), Mem (FL) w → K r → R (Value.bool r) w) :
  CallV Try.prog 32 #[(Value.slice p_1 n_1 c_1), (Value.agg #[(Value.int .u32 v_Addr), (Value.int .i64 v_Addr_1), (Value.int .i64 v_ID), (Value.bool v_Via)])] w R := by
  refine slices_Contains_sl_api_Place_api_Place_call ?_
  unfold slices_Contains_sl_api_Place_api_Place
  unfold slices_Contains_sl_api_Place_api_Place_wp at hp
  subst hl_s
  refine newL (o := [(Value.int .u32 v_Addr), (Value.int .i64 v_Addr_1), (Value.int .i64 v_ID), (Value.bool v_Via)]) h ?_
  intro b_1 w h
  refine ⟨_, cellL h 0 0 rfl rfl rfl, _, cellL h 0 1 rfl rfl rfl, _, cellL h 0 2 rfl rfl rfl, _, cellL h 0 3 rfl rfl rfl, ?_⟩
  refine slices_Index_sl_api_Place_api_Place_ok (FL := cel b_1 31 [(Value.int .u32 v_Addr), (Value.int .i64 v_Addr_1), (Value.int .i64 v_ID), (Value.bool v_Via)] :: FL) (fun w h => (hF_s _ (h.drop 1))) rfl hc_s h hp ?_
  intro r w h hp
  refine ⟨_, rfl, ?_⟩
  replace h := h.sel [] 1
  dsimp only [pickL, pickR, nthH, delH, dropH, List.cons_append, List.nil_append] at h
  exact hR (decide ((r : Int) ≥ 0)) _ h hp

/-! embrasure/path.Ways (14) -/
def path_Ways_wp (own : Int) (places : List (Int × Int × Int × Bool)) (K : List (Int × Int × Int × Bool) → Prop) : Prop :=
  joinP1 (fun (x_1 : List (Int × Int × Int × Bool)) => K x_1) (fun (Q : List (Int × Int × Int × Bool) → Prop) => ∃ (I : Nat → List (Int × Int × Int × Bool) → Int → Prop), (∃ (n_11 : Nat), I n_11 ([] : List (Int × Int × Int × Bool)) 0) ∧ ∀ (n_4 : Nat) (x_2 : List (Int × Int × Int × Bool)) (t17 : Int), I n_4 x_2 t17 → (cond (decide ((t17 : Int) < ((3 : Nat) : Int))) (0 ≤ (t17 : Int) ∧ (t17 : Int) < ((3 : Nat) : Int) ∧ (((t17 : Int) = 0 → (path_some_wp places () (fun x_3 s K_1 => path_Ways_c1_wp x_3.1 x_3.2.1 x_3.2.2.1 x_3.2.2.2 (fun (r : Bool) => K_1 r s)) (path_some_c1_wp (0, x_2) (fun x_6 (s_2 : Nat × (List (Int × Int × Int × Bool))) K_3 => s_2.1 = 0 ∧ (cond ((((s_2.2.length : Nat) : Int) : Int) == 8) (K_3 false (1, s_2.2)) (slices_Contains_sl_api_Place_api_Place_wp s_2.2 x_6.1 x_6.2.1 x_6.2.2.1 x_6.2.2.2 (fun (r : Bool) => cond (!r) ((s_2.2.length + [x_6].length) * 32 ≤ 140737488355328 ∧ (K_3 true (0, (s_2.2 ++ [x_6])))) (K_3 true (0, s_2.2)))))) places () (fun x_4 s_1 K_2 => path_Ways_c1_wp x_4.1 x_4.2.1 x_4.2.2.1 x_4.2.2.2 (fun (r : Bool) => K_2 r s_1)) (fun (s_3 : (Nat × (List (Int × Int × Int × Bool)))) (s_4 : (Unit)) => (s_3.1 = 0 ∧ (∃ (n_6 : Nat), n_6 < n_4 ∧ I n_6 s_3.2 (IntKind.wrap .i64 (t17 + 1)))) ∨ (s_3.1 ≠ 0 ∧ (Q s_3.2)))))) ∧ ((t17 : Int) = 1 → (path_some_wp places () (fun x_7 s_5 K_4 => path_Ways_c2_wp x_7.1 x_7.2.1 x_7.2.2.1 x_7.2.2.2 own (fun (r : Bool) => K_4 r s_5)) (path_some_c1_wp (0, x_2) (fun x_10 (s_7 : Nat × (List (Int × Int × Int × Bool))) K_6 => s_7.1 = 0 ∧ (cond ((((s_7.2.length : Nat) : Int) : Int) == 8) (K_6 false (1, s_7.2)) (slices_Contains_sl_api_Place_api_Place_wp s_7.2 x_10.1 x_10.2.1 x_10.2.2.1 x_10.2.2.2 (fun (r_1 : Bool) => cond (!r_1) ((s_7.2.length + [x_10].length) * 32 ≤ 140737488355328 ∧ (K_6 true (0, (s_7.2 ++ [x_10])))) (K_6 true (0, s_7.2)))))) places () (fun x_8 s_6 K_5 => path_Ways_c2_wp x_8.1 x_8.2.1 x_8.2.2.1 x_8.2.2.2 own (fun (r : Bool) => K_5 r s_6)) (fun (s_8 : (Nat × (List (Int × Int × Int × Bool)))) (s_9 : (Unit)) => (s_8.1 = 0 ∧ (∃ (n_8 : Nat), n_8 < n_4 ∧ I n_8 s_8.2 (IntKind.wrap .i64 (t17 + 1)))) ∨ (s_8.1 ≠ 0 ∧ (Q s_8.2)))))) ∧ ((t17 : Int) = 2 → (path_some_wp places () (fun x_11 s_10 K_7 => path_Ways_c3_wp x_11.1 x_11.2.1 x_11.2.2.1 x_11.2.2.2 (fun (r : Bool) => K_7 r s_10)) (path_some_c1_wp (0, x_2) (fun x_14 (s_12 : Nat × (List (Int × Int × Int × Bool))) K_9 => s_12.1 = 0 ∧ (cond ((((s_12.2.length : Nat) : Int) : Int) == 8) (K_9 false (1, s_12.2)) (slices_Contains_sl_api_Place_api_Place_wp s_12.2 x_14.1 x_14.2.1 x_14.2.2.1 x_14.2.2.2 (fun (r_2 : Bool) => cond (!r_2) ((s_12.2.length + [x_14].length) * 32 ≤ 140737488355328 ∧ (K_9 true (0, (s_12.2 ++ [x_14])))) (K_9 true (0, s_12.2)))))) places () (fun x_12 s_11 K_8 => path_Ways_c3_wp x_12.1 x_12.2.1 x_12.2.2.1 x_12.2.2.2 (fun (r : Bool) => K_8 r s_11)) (fun (s_13 : (Nat × (List (Int × Int × Int × Bool)))) (s_14 : (Unit)) => (s_13.1 = 0 ∧ (∃ (n_10 : Nat), n_10 < n_4 ∧ I n_10 s_13.2 (IntKind.wrap .i64 (t17 + 1)))) ∨ (s_13.1 ≠ 0 ∧ (Q s_13.2)))))))) (Q x_2)))
theorem path_Ways_ok {p_1 : Option Addr} {n_1 : Nat} {c_1 : Nat} {own : Int} {places : List (Int × Int × Int × Bool)} {FL : List HP} {w : World} {K : List (Int × Int × Int × Bool) → Prop} {R : Value → World → Prop}
  (hF_places : ∀ w, Mem FL w → Rd w 4 p_1 enc31 places) (hl_places : n_1 = places.length) (hc_places : n_1 ≤ c_1)
  (h : Mem (FL) w) (hp : path_Ways_wp own places K)
  (hR : ∀ (rs : List (Int × Int × Int × Bool)) (p_2 : Option Addr) (n_2 : Nat) (c_2 : Nat) (w : World), n_2 = rs.length → Mem (row enc31 31 4 p_2 c_2 rs :: FL) w → K rs → R (Value.slice p_2 n_2 c_2) w) :
  CallV Try.prog 14 #[(Value.int .u32 own), (Value.slice p_1 n_1 c_1)] w R := by
  refine path_Ways_call ?_
  unfold path_Ways
  unfold path_Ways_wp at hp
  subst hl_places
  replace h := marksNil h
  refine newL (o := [(Value.int .u32 own)]) h ?_
  intro b_1 w h
  refine newL (o := [(Value.func (Fn.func 27) #[] #[]), (Value.func (Fn.func 29) #[] #[(Value.pointer (some (Addr.mk b_1 0 none)))]), (Value.func (Fn.func 30) #[] #[])]) h ?_
  intro b_2 w h
  refine newL (o := [(Value.slice none 0 0)]) h ?_
  intro b_3 w h
  obtain ⟨Q, hq, hp⟩ := hp
  refine ⟨fun out6 m_1 w => ∃ (x_1 : List (Int × Int × Int × Bool)), ∃ (p_2 : Option Addr), ∃ (n_2 : Nat), ∃ (c_2 : Nat), (Addr.mk b_3 0 none) = out6 ∧ n_2 = x_1.length ∧ Q x_1 ∧ Mem (cel b_3 23 [(Value.slice p_2 n_2 c_2)] :: row enc31 31 4 p_2 c_2 x_1 :: cel b_2 57 [(Value.func (Fn.func 27) #[] #[]), (Value.func (Fn.func 29) #[] #[(Value.pointer (some (Addr.mk b_1 0 none)))]), (Value.func (Fn.func 30) #[] #[])] :: cel b_1 22 [(Value.int .u32 own)] :: marksP m_1 :: FL) w, ?_, ?_⟩
  · rintro out6 m_1 w ⟨x_1, p_2, n_2, c_2, rfl, rfl, hp, h⟩
    replace hp := hq x_1 hp
    unfold path_Ways_j1
    have cpp_2 := rowCap h 1 rfl
    refine ⟨_, _, _, cellL h 0 0 rfl rfl rfl, ?_⟩
    replace h := h.pick [4]
    dsimp only [pickL, pickR, nthH, delH, dropH, List.cons_append, List.nil_append] at h
    refine finishMarks _ h ?_
    intro w h
    replace h := h.sel [1] 3
    dsimp only [pickL, pickR, nthH, delH, dropH, List.cons_append, List.nil_append] at h
    exact hR x_1 p_2 x_1.length c_2 _ rfl h hp
  clear hq
  obtain ⟨I, ⟨n_11, h0⟩, hq⟩ := hp
  replace h := rowNil enc31 31 4 h
  replace h := h.sel [1, 0, 0, 0, 0] 0
  dsimp only [pickL, pickR, nthH, delH, dropH, List.cons_append, List.nil_append] at h
  refine ⟨fun n_4 places1p places1l places1c t4p t4l t4c out6_1 t15p t15l t15c t16 t17 m_2 w => ∃ (x_2 : List (Int × Int × Int × Bool)), ∃ (p_3 : Option Addr), ∃ (n_3 : Nat), ∃ (c_3 : Nat), p_1 = places1p ∧ places.length = places1l ∧ c_1 = places1c ∧ none = t4p ∧ 0 = t4l ∧ 0 = t4c ∧ (Addr.mk b_3 0 none) = out6_1 ∧ (some ⟨b_2, 0, none⟩) = t15p ∧ 3 = t15l ∧ 3 = t15c ∧ ((3 : Nat) : Int) = t16 ∧ n_3 = x_2.length ∧ I n_4 x_2 t17 ∧ Mem (cel b_3 23 [(Value.slice p_3 n_3 c_3)] :: row enc31 31 4 p_3 c_3 x_2 :: cel b_2 57 [(Value.func (Fn.func 27) #[] #[]), (Value.func (Fn.func 29) #[] #[(Value.pointer (some (Addr.mk b_1 0 none)))]), (Value.func (Fn.func 30) #[] #[])] :: cel b_1 22 [(Value.int .u32 own)] :: marksP m_2 :: FL) w, ⟨n_11, ([] : List (Int × Int × Int × Bool)), none , 0, 0, rfl, rfl, rfl, rfl, rfl, rfl, rfl, rfl, rfl, rfl, rfl, rfl, h0, h⟩, ?_⟩
  clear h0 h
  rintro n_4 places1p places1l places1c t4p t4l t4c out6_1 t15p t15l t15c t16 t17 m_2 w ⟨x_2, p_3, n_3, c_3, rfl, rfl, rfl, rfl, rfl, rfl, rfl, rfl, rfl, rfl, rfl, rfl, hp, h⟩
  replace hp := hq n_4 x_2 t17 hp
  clear hq
  unfold path_Ways_l2
  have cpp_3 := rowCap h 1 rfl
  refine cond_both' hp (fun hp => ?_) (fun hp => ?_)
  · exact ⟨x_2, p_3, x_2.length, c_3, rfl, rfl, hp, h⟩
  obtain ⟨ia_1, ja_1, hp⟩ := hp
  refine ⟨_, rfl, ia_1, ja_1, ?_⟩
  rcases (by have := ia_1; have := ja_1; omega : (t17 : Int) = 0 ∨ (t17 : Int) = 1 ∨ (t17 : Int) = 2) with e_1 | e_1 | e_1
  · replace hp := hp.1 e_1
    refine ⟨_, litCell1 h 2 rfl (m := 0) (j := 0) (congrArg Int.toNat e_1) rfl, ?_⟩
    refine newL (o := [Value.nilFunc]) h ?_
    intro b_4 w h
    refine storeL (ys := [(Value.func (Fn.func 27) #[] #[])]) h 0 0 rfl rfl rfl sz57 rfl rfl ?_
    intro w h
    dsimp only [setH, setVs, setV] at h
    refine ⟨_, cellL h 0 0 rfl rfl rfl, ?_⟩
    replace h : Mem ((fun (_ : Unit) => HL []) () :: cel b_4 57 [(Value.func (Fn.func 27) #[] #[])] :: cel b_3 23 [(Value.slice p_3 x_2.length c_3)] :: row enc31 31 4 p_3 c_3 x_2 :: cel b_2 57 [(Value.func (Fn.func 27) #[] #[]), (Value.func (Fn.func 29) #[] #[(Value.pointer (some (Addr.mk b_1 0 none)))]), (Value.func (Fn.func 30) #[] #[])] :: cel b_1 22 [(Value.int .u32 own)] :: marksP m_2 :: FL) _ := h.pack 0 [] rfl
    refine path_some_ok (FL := cel b_4 57 [(Value.func (Fn.func 27) #[] #[])] :: cel b_3 23 [(Value.slice p_3 x_2.length c_3)] :: row enc31 31 4 p_3 c_3 x_2 :: cel b_2 57 [(Value.func (Fn.func 27) #[] #[]), (Value.func (Fn.func 29) #[] #[(Value.pointer (some (Addr.mk b_1 0 none)))]), (Value.func (Fn.func 30) #[] #[])] :: cel b_1 22 [(Value.int .u32 own)] :: marksP m_2 :: FL) (A1 := (fun (_ : Unit) => HL [])) (Y1 := (fun x_3 s K_1 => path_Ways_c1_wp x_3.1 x_3.2.1 x_3.2.2.1 x_3.2.2.2 (fun (r : Bool) => K_1 r s))) (σ1 := Unit) (s := ()) ?_ (fun w h => (hF_places _ (h.drop 6))) rfl hc_places h hp ?_
    · intro x_3 s K FL2 w R hx h hp hR
      replace h := h.unpack
      dsimp only [pickL, pickR, nthH, delH, dropH, List.cons_append, List.nil_append] at h
      refine calleeFn (by kernel_rfl) ?_
      refine path_Ways_c1_ok h hp ?_
      intro r w h hp
      exact hR r s _ (h.pack 0 [] rfl) hp
    intro b_5 b_6 w h hp
    replace h := h.pick [2]
    dsimp only [pickL, pickR, nthH, delH, dropH, List.cons_append, List.nil_append] at h
    replace h := h.unpack
    dsimp only [pickL, pickR, nthH, delH, dropH, List.cons_append, List.nil_append] at h
    refine ⟨_, _, _, rfl, ?_⟩
    intro e_2 fn_e_2 he_e_2 hr_e_2
    refine newO h ?_
    intro d w h
    refine newO h ?_
    intro l_1 w h
    replace h := h.pick [1, 8]
    dsimp only [pickL, pickR, nthH, delH, dropH, List.cons_append, List.nil_append] at h
    replace h := marksPush h
    show rangeCallW _ (Value.func (Fn.func 39) _ _) _ _ _
    refine rangeCallFn (by kernel_rfl) ?_
    replace h : Mem ((fun (_ : Unit) => HL []) () :: marksP (d :: m_2) :: pt l_1 (.loop (path_Ways_lo1 fn_e_2 e_2 d)) :: cel b_5 23 [(Value.slice p_1 places.length c_1)] :: cel b_6 55 [(Value.func (Fn.func 27) #[] #[])] :: cel b_4 57 [(Value.func (Fn.func 27) #[] #[])] :: cel b_3 23 [(Value.slice p_3 x_2.length c_3)] :: row enc31 31 4 p_3 c_3 x_2 :: cel b_2 57 [(Value.func (Fn.func 27) #[] #[]), (Value.func (Fn.func 29) #[] #[(Value.pointer (some (Addr.mk b_1 0 none)))]), (Value.func (Fn.func 30) #[] #[])] :: cel b_1 22 [(Value.int .u32 own)] :: FL) _ := h.pack 0 [] rfl
    replace h := h.pick [2, 4, 4, 4, 4, 4]
    dsimp only [pickL, pickR, nthH, delH, dropH, List.cons_append, List.nil_append] at h
    replace h : Mem ((fun (s_2 : Nat × (List (Int × Int × Int × Bool))) => exH fun (p_4 : Option Addr) => exH fun (c_4 : Nat) => HL [pt l_1 (loopS (path_Ways_lo1 fn_e_2 e_2 d) s_2.1 (fun (n : Nat) => ((if n = 0 then none else (some (.exit 0))) : Option Code))), cel b_4 57 [(Value.func (Fn.func 27) #[] #[])], cel b_3 23 [(Value.slice p_4 s_2.2.length c_4)], row enc31 31 4 p_4 c_4 s_2.2, cel b_2 57 [(Value.func (Fn.func 27) #[] #[]), (Value.func (Fn.func 29) #[] #[(Value.pointer (some (Addr.mk b_1 0 none)))]), (Value.func (Fn.func 30) #[] #[])], cel b_1 22 [(Value.int .u32 own)]]) (0, x_2) :: (fun (_ : Unit) => HL []) () :: marksP (d :: m_2) :: cel b_5 23 [(Value.slice p_1 places.length c_1)] :: cel b_6 55 [(Value.func (Fn.func 27) #[] #[])] :: FL) _ := Mem.exsI p_3 (Mem.exsI c_3 (h.pack 6 [pt l_1 (loopS (path_Ways_lo1 fn_e_2 e_2 d) 0 (fun (n : Nat) => ((if n = 0 then none else (some (.exit 0))) : Option Code))), cel b_4 57 [(Value.func (Fn.func 27) #[] #[])], cel b_3 23 [(Value.slice p_3 x_2.length c_3)], row enc31 31 4 p_3 c_3 x_2, cel b_2 57 [(Value.func (Fn.func 27) #[] #[]), (Value.func (Fn.func 29) #[] #[(Value.pointer (some (Addr.mk b_1 0 none)))]), (Value.func (Fn.func 30) #[] #[])], cel b_1 22 [(Value.int .u32 own)]] rfl))
    replace h := h.pick [3, 3, 0, 0]
    dsimp only [pickL, pickR, nthH, delH, dropH, List.cons_append, List.nil_append] at h
    refine path_some_c1_ok (FL := marksP (d :: m_2) :: FL) (A0 := (fun (s_2 : Nat × (List (Int × Int × Int × Bool))) => exH fun (p_4 : Option Addr) => exH fun (c_4 : Nat) => HL [pt l_1 (loopS (path_Ways_lo1 fn_e_2 e_2 d) s_2.1 (fun (n : Nat) => ((if n = 0 then none else (some (.exit 0))) : Option Code))), cel b_4 57 [(Value.func (Fn.func 27) #[] #[])], cel b_3 23 [(Value.slice p_4 s_2.2.length c_4)], row enc31 31 4 p_4 c_4 s_2.2, cel b_2 57 [(Value.func (Fn.func 27) #[] #[]), (Value.func (Fn.func 29) #[] #[(Value.pointer (some (Addr.mk b_1 0 none)))]), (Value.func (Fn.func 30) #[] #[])], cel b_1 22 [(Value.int .u32 own)]])) (Y0 := (fun x_6 (s_2 : Nat × (List (Int × Int × Int × Bool))) K_3 => s_2.1 = 0 ∧ (cond ((((s_2.2.length : Nat) : Int) : Int) == 8) (K_3 false (1, s_2.2)) (slices_Contains_sl_api_Place_api_Place_wp s_2.2 x_6.1 x_6.2.1 x_6.2.2.1 x_6.2.2.2 (fun (r : Bool) => cond (!r) ((s_2.2.length + [x_6].length) * 32 ≤ 140737488355328 ∧ (K_3 true (0, (s_2.2 ++ [x_6])))) (K_3 true (0, s_2.2))))))) (σ0 := Nat × (List (Int × Int × Int × Bool))) (s := (0, x_2)) ?_ (A101 := (fun (_ : Unit) => HL [])) (Y101 := (fun x_4 s_1 K_2 => path_Ways_c1_wp x_4.1 x_4.2.1 x_4.2.2.1 x_4.2.2.2 (fun (r : Bool) => K_2 r s_1))) (σ101 := Unit) (s_1 := ()) ?_ (fun w h => (hF_places _ (h.drop 1))) rfl hc_places h hp ?_
    · intro x_6 s_2 K_3 FL2 w R hx h hp hR
      obtain ⟨p_4, h⟩ := Mem.exs h
      obtain ⟨c_4, h⟩ := Mem.exs h
      replace h := h.unpack
      dsimp only [pickL, pickR, nthH, delH, dropH, List.cons_append, List.nil_append] at h
      obtain ⟨hst, hp⟩ := hp
      refine path_Ways_r1_yield (by have := objAt h 0 rfl; rw [hst] at this; exact this) he_e_2 hr_e_2 ?_
      unfold path_Ways_r1
      have cpp_4 := rowCap h 3 rfl
      refine newL (o := [(Value.int .u32 0), (Value.int .i64 0), (Value.int .i64 0), (Value.bool false)]) h ?_
      intro b_7 w h
      refine storeL (ys := [(Value.int .u32 x_6.1), (Value.int .i64 x_6.2.1), (Value.int .i64 x_6.2.2.1), (Value.bool x_6.2.2.2)]) h 0 0 rfl rfl rfl sz31 rfl rfl ?_
      intro w h
      dsimp only [setH, setVs, setV] at h
      refine ⟨_, (by have := objAt h 1 rfl; rw [hst] at this; exact this : _ = some (Obj.loop (path_Ways_lo1 fn_e_2 e_2 d))), rfl, ?_⟩
      replace h := h.putK 1 rfl (.loop { path_Ways_lo1 fn_e_2 e_2 d with state := .busy })
      dsimp only [setH] at h
      refine ⟨_, _, _, cellL h 3 0 rfl rfl rfl, ?_⟩
      refine cond_both hp (fun hp => ?_) (fun hp => ?_)
      · refine ⟨_, objAt h 1 rfl, ?_⟩
        replace h := h.putK 1 rfl (loopS (path_Ways_lo1 fn_e_2 e_2 d) 1 (fun (n : Nat) => ((if n = 0 then none else (some (.exit 0))) : Option Code)))
        dsimp only [setH] at h
        replace h := h.pick [1]
        dsimp only [pickL, pickR, nthH, delH, dropH, List.cons_append, List.nil_append] at h
        replace h := h.sel [0, 1, 1, 1, 1, 1] 1
        dsimp only [pickL, pickR, nthH, delH, dropH, List.cons_append, List.nil_append] at h
        exact hR false (1, s_2.2) _ (Mem.exsI p_4 (Mem.exsI c_4 (h.pack 6 [pt l_1 (loopS (path_Ways_lo1 fn_e_2 e_2 d) 1 (fun (n : Nat) => ((if n = 0 then none else (some (.exit 0))) : Option Code))), cel b_4 57 [(Value.func (Fn.func 27) #[] #[])], cel b_3 23 [(Value.slice p_4 s_2.2.length c_4)], row enc31 31 4 p_4 c_4 s_2.2, cel b_2 57 [(Value.func (Fn.func 27) #[] #[]), (Value.func (Fn.func 29) #[] #[(Value.pointer (some (Addr.mk b_1 0 none)))]), (Value.func (Fn.func 30) #[] #[])], cel b_1 22 [(Value.int .u32 own)]] rfl))) hp
      refine ⟨_, _, _, cellL h 3 0 rfl rfl rfl, ?_⟩
      refine ⟨_, cellL h 0 0 rfl rfl rfl, _, cellL h 0 1 rfl rfl rfl, _, cellL h 0 2 rfl rfl rfl, _, cellL h 0 3 rfl rfl rfl, ?_⟩
      refine slices_Contains_sl_api_Place_api_Place_ok (FL := cel b_7 31 [(Value.int .u32 x_6.1), (Value.int .i64 x_6.2.1), (Value.int .i64 x_6.2.2.1), (Value.bool x_6.2.2.2)] :: pt l_1 (.loop { path_Ways_lo1 fn_e_2 e_2 d with state := .busy }) :: cel b_4 57 [(Value.func (Fn.func 27) #[] #[])] :: cel b_3 23 [(Value.slice p_4 s_2.2.length c_4)] :: row enc31 31 4 p_4 c_4 s_2.2 :: cel b_2 57 [(Value.func (Fn.func 27) #[] #[]), (Value.func (Fn.func 29) #[] #[(Value.pointer (some (Addr.mk b_1 0 none)))]), (Value.func (Fn.func 30) #[] #[])] :: cel b_1 22 [(Value.int .u32 own)] :: FL2) (fun w h => (rowRd h 4 encL31 rfl)) rfl cpp_4 h hp ?_
      intro r w h hp
      refine ⟨_, rfl, ?_⟩
      refine cond_both' hp (fun hp => ?_) (fun hp => ?_)
      · refine ⟨_, objAt h 1 rfl, ?_⟩
        replace h := h.putK 1 rfl (loopS (path_Ways_lo1 fn_e_2 e_2 d) 0 (fun (n : Nat) => ((if n = 0 then none else (some (.exit 0))) : Option Code)))
        dsimp only [setH] at h
        replace h := h.pick [1]
        dsimp only [pickL, pickR, nthH, delH, dropH, List.cons_append, List.nil_append] at h
        replace h := h.sel [0, 1, 1, 1, 1, 1] 1
        dsimp only [pickL, pickR, nthH, delH, dropH, List.cons_append, List.nil_append] at h
        exact hR true (0, s_2.2) _ (Mem.exsI p_4 (Mem.exsI c_4 (h.pack 6 [pt l_1 (loopS (path_Ways_lo1 fn_e_2 e_2 d) 0 (fun (n : Nat) => ((if n = 0 then none else (some (.exit 0))) : Option Code))), cel b_4 57 [(Value.func (Fn.func 27) #[] #[])], cel b_3 23 [(Value.slice p_4 s_2.2.length c_4)], row enc31 31 4 p_4 c_4 s_2.2, cel b_2 57 [(Value.func (Fn.func 27) #[] #[]), (Value.func (Fn.func 29) #[] #[(Value.pointer (some (Addr.mk b_1 0 none)))]), (Value.func (Fn.func 30) #[] #[])], cel b_1 22 [(Value.int .u32 own)]] rfl))) hp
      refine ⟨_, _, _, cellL h 3 0 rfl rfl rfl, ?_⟩
      refine ⟨_, cellL h 0 0 rfl rfl rfl, _, cellL h 0 1 rfl rfl rfl, _, cellL h 0 2 rfl rfl rfl, _, cellL h 0 3 rfl rfl rfl, ?_⟩
      refine newL (o := [(Value.int .u32 x_6.1), (Value.int .i64 x_6.2.1), (Value.int .i64 x_6.2.2.1), (Value.bool x_6.2.2.2)]) h ?_
      intro b_8 w h
      have sr := (celRd h 0 encL31 rfl [x_6] rfl)
      obtain ⟨hb, hp⟩ := hp
      refine appendL slt23 und23 encL31 encO31 h 5 rfl rfl sr rfl hb ?_
      intro p_5 c_5 w h
      dsimp only [setH, setVs, setV] at h
      have cpp_5 := rowCap h 5 rfl
      refine ⟨_, _, _, rfl, ?_⟩
      refine storeL (ys := [(Value.slice p_5 (s_2.2 ++ [x_6]).length c_5)]) h 4 0 rfl rfl rfl sz23 rfl rfl ?_
      intro w h
      dsimp only [setH, setVs, setV] at h
      refine ⟨_, objAt h 2 rfl, ?_⟩
      replace h := h.putK 2 rfl (loopS (path_Ways_lo1 fn_e_2 e_2 d) 0 (fun (n : Nat) => ((if n = 0 then none else (some (.exit 0))) : Option Code)))
      dsimp only [setH] at h
      replace h := h.pick [2]
      dsimp only [pickL, pickR, nthH, delH, dropH, List.cons_append, List.nil_append] at h
      replace h := h.sel [0, 2, 2, 2, 2, 2] 2
      dsimp only [pickL, pickR, nthH, delH, dropH, List.cons_append, List.nil_append] at h
      exact hR true (0, (s_2.2 ++ [x_6])) _ (Mem.exsI p_5 (Mem.exsI c_5 (h.pack 6 [pt l_1 (loopS (path_Ways_lo1 fn_e_2 e_2 d) 0 (fun (n : Nat) => ((if n = 0 then none else (some (.exit 0))) : Option Code))), cel b_4 57 [(Value.func (Fn.func 27) #[] #[])], cel b_3 23 [(Value.slice p_5 (s_2.2 ++ [x_6]).length c_5)], row enc31 31 4 p_5 c_5 (s_2.2 ++ [x_6]), cel b_2 57 [(Value.func (Fn.func 27) #[] #[]), (Value.func (Fn.func 29) #[] #[(Value.pointer (some (Addr.mk b_1 0 none)))]), (Value.func (Fn.func 30) #[] #[])], cel b_1 22 [(Value.int .u32 own)]] rfl))) hp
    · intro x_4 s_1 K FL2 w R hx h hp hR
      replace h := h.unpack
      dsimp only [pickL, pickR, nthH, delH, dropH, List.cons_append, List.nil_append] at h
      refine calleeFn (by kernel_rfl) ?_
      refine path_Ways_c1_ok h hp ?_
      intro r w h hp
      exact hR r s_1 _ (h.pack 0 [] rfl) hp
    intro s_3 s_4 w h hp
    replace h := h.pick [3]
    dsimp only [pickL, pickR, nthH, delH, dropH, List.cons_append, List.nil_append] at h
    replace h := h.unpack
    dsimp only [pickL, pickR, nthH, delH, dropH, List.cons_append, List.nil_append] at h
    replace h := h.pick [2]
    dsimp only [pickL, pickR, nthH, delH, dropH, List.cons_append, List.nil_append] at h
    obtain ⟨p_6, h⟩ := Mem.exs h
    obtain ⟨c_6, h⟩ := Mem.exs h
    replace h := h.unpack
    dsimp only [pickL, pickR, nthH, delH, dropH, List.cons_append, List.nil_append] at h
    have cpp_6 := rowCap h 3 rfl
    refine ⟨_, objAt h 0 rfl, loopS_ns _, ?_⟩
    replace h := h.putK 0 rfl (.loop { path_Ways_lo1 fn_e_2 e_2 d with state := .exhausted, pending := (fun (n : Nat) => ((if n = 0 then none else (some (.exit 0))) : Option Code)) s_3.1 })
    dsimp only [setH] at h
    rcases hp with ⟨hst, hp⟩ | ⟨hst, hp⟩
    · refine Or.inl ?_
      refine ⟨congrArg (fun (n : Nat) => ((if n = 0 then none else (some (.exit 0))) : Option Code)) hst, ?_⟩
      replace h := h.sel [2, 2, 2, 2, 4] 4
      dsimp only [pickL, pickR, nthH, delH, dropH, List.cons_append, List.nil_append] at h
      obtain ⟨n_6, hn, hp⟩ := hp
      exact ⟨n_6, hn, s_3.2, p_6, s_3.2.length, c_6, rfl, rfl, rfl, rfl, rfl, rfl, rfl, rfl, rfl, rfl, rfl, rfl, hp, h⟩
    · refine Or.inr (?_)
      refine ⟨show (fun (n : Nat) => ((if n = 0 then none else (some (.exit 0))) : Option Code)) s_3.1 = _ from if_neg hst, ?_⟩
      replace h := h.sel [2, 2, 2, 2, 4] 4
      dsimp only [pickL, pickR, nthH, delH, dropH, List.cons_append, List.nil_append] at h
      exact ⟨s_3.2, p_6, s_3.2.length, c_6, rfl, rfl, hp, h⟩
  · replace hp := hp.2.1 e_1
    refine ⟨_, litCell1 h 2 rfl (m := 1) (j := 0) (congrArg Int.toNat e_1) rfl, ?_⟩
    refine newL (o := [Value.nilFunc]) h ?_
    intro b_9 w h
    refine storeL (ys := [(Value.func (Fn.func 29) #[] #[(Value.pointer (some (Addr.mk b_1 0 none)))])]) h 0 0 rfl rfl rfl sz57 rfl rfl ?_
    intro w h
    dsimp only [setH, setVs, setV] at h
    refine ⟨_, cellL h 0 0 rfl rfl rfl, ?_⟩
    replace h := h.pick [4]
    dsimp only [pickL, pickR, nthH, delH, dropH, List.cons_append, List.nil_append] at h
    replace h : Mem ((fun (_ : Unit) => HL [cel b_1 22 [(Value.int .u32 own)]]) () :: cel b_9 57 [(Value.func (Fn.func 29) #[] #[(Value.pointer (some (Addr.mk b_1 0 none)))])] :: cel b_3 23 [(Value.slice p_3 x_2.length c_3)] :: row enc31 31 4 p_3 c_3 x_2 :: cel b_2 57 [(Value.func (Fn.func 27) #[] #[]), (Value.func (Fn.func 29) #[] #[(Value.pointer (some (Addr.mk b_1 0 none)))]), (Value.func (Fn.func 30) #[] #[])] :: marksP m_2 :: FL) _ := h.pack 1 [cel b_1 22 [(Value.int .u32 own)]] rfl
    refine path_some_ok (FL := cel b_9 57 [(Value.func (Fn.func 29) #[] #[(Value.pointer (some (Addr.mk b_1 0 none)))])] :: cel b_3 23 [(Value.slice p_3 x_2.length c_3)] :: row enc31 31 4 p_3 c_3 x_2 :: cel b_2 57 [(Value.func (Fn.func 27) #[] #[]), (Value.func (Fn.func 29) #[] #[(Value.pointer (some (Addr.mk b_1 0 none)))]), (Value.func (Fn.func 30) #[] #[])] :: marksP m_2 :: FL) (A1 := (fun (_ : Unit) => HL [cel b_1 22 [(Value.int .u32 own)]])) (Y1 := (fun x_7 s_5 K_4 => path_Ways_c2_wp x_7.1 x_7.2.1 x_7.2.2.1 x_7.2.2.2 own (fun (r : Bool) => K_4 r s_5))) (σ1 := Unit) (s := ()) ?_ (fun w h => (hF_places _ (h.drop 5))) rfl hc_places h hp ?_
    · intro x_7 s_5 K FL2 w R hx h hp hR
      replace h := h.unpack
      dsimp only [pickL, pickR, nthH, delH, dropH, List.cons_append, List.nil_append] at h
      refine calleeFn (by kernel_rfl) ?_
      refine path_Ways_c2_ok h hp ?_
      intro r w h hp
      exact hR r s_5 _ (h.pack 1 [cel b_1 22 [(Value.int .u32 own)]] rfl) hp
    intro b_10 b_11 w h hp
    replace h := h.pick [2]
    dsimp only [pickL, pickR, nthH, delH, dropH, List.cons_append, List.nil_append] at h
    replace h := h.unpack
    dsimp only [pickL, pickR, nthH, delH, dropH, List.cons_append, List.nil_append] at h
    refine ⟨_, _, _, rfl, ?_⟩
    intro e_3 fn_e_3 he_e_3 hr_e_3
    refine newO h ?_
    intro d_1 w h
    refine newO h ?_
    intro l_2 w h
    replace h := h.pick [1, 8]
    dsimp only [pickL, pickR, nthH, delH, dropH, List.cons_append, List.nil_append] at h
    replace h := marksPush h
    show rangeCallW _ (Value.func (Fn.func 39) _ _) _ _ _
    refine rangeCallFn (by kernel_rfl) ?_
    replace h := h.pick [2]
    dsimp only [pickL, pickR, nthH, delH, dropH, List.cons_append, List.nil_append] at h
    replace h : Mem ((fun (_ : Unit) => HL [cel b_1 22 [(Value.int .u32 own)]]) () :: marksP (d_1 :: m_2) :: pt l_2 (.loop (path_Ways_lo1 fn_e_3 e_3 d_1)) :: cel b_10 23 [(Value.slice p_1 places.length c_1)] :: cel b_11 55 [(Value.func (Fn.func 29) #[] #[(Value.pointer (some (Addr.mk b_1 0 none)))])] :: cel b_9 57 [(Value.func (Fn.func 29) #[] #[(Value.pointer (some (Addr.mk b_1 0 none)))])] :: cel b_3 23 [(Value.slice p_3 x_2.length c_3)] :: row enc31 31 4 p_3 c_3 x_2 :: cel b_2 57 [(Value.func (Fn.func 27) #[] #[]), (Value.func (Fn.func 29) #[] #[(Value.pointer (some (Addr.mk b_1 0 none)))]), (Value.func (Fn.func 30) #[] #[])] :: FL) _ := h.pack 1 [cel b_1 22 [(Value.int .u32 own)]] rfl
    replace h := h.pick [2, 4, 4, 4, 4]
    dsimp only [pickL, pickR, nthH, delH, dropH, List.cons_append, List.nil_append] at h
    replace h : Mem ((fun (s_7 : Nat × (List (Int × Int × Int × Bool))) => exH fun (p_7 : Option Addr) => exH fun (c_7 : Nat) => HL [pt l_2 (loopS (path_Ways_lo1 fn_e_3 e_3 d_1) s_7.1 (fun (n : Nat) => ((if n = 0 then none else (some (.exit 0))) : Option Code))), cel b_9 57 [(Value.func (Fn.func 29) #[] #[(Value.pointer (some (Addr.mk b_1 0 none)))])], cel b_3 23 [(Value.slice p_7 s_7.2.length c_7)], row enc31 31 4 p_7 c_7 s_7.2, cel b_2 57 [(Value.func (Fn.func 27) #[] #[]), (Value.func (Fn.func 29) #[] #[(Value.pointer (some (Addr.mk b_1 0 none)))]), (Value.func (Fn.func 30) #[] #[])]]) (0, x_2) :: (fun (_ : Unit) => HL [cel b_1 22 [(Value.int .u32 own)]]) () :: marksP (d_1 :: m_2) :: cel b_10 23 [(Value.slice p_1 places.length c_1)] :: cel b_11 55 [(Value.func (Fn.func 29) #[] #[(Value.pointer (some (Addr.mk b_1 0 none)))])] :: FL) _ := Mem.exsI p_3 (Mem.exsI c_3 (h.pack 5 [pt l_2 (loopS (path_Ways_lo1 fn_e_3 e_3 d_1) 0 (fun (n : Nat) => ((if n = 0 then none else (some (.exit 0))) : Option Code))), cel b_9 57 [(Value.func (Fn.func 29) #[] #[(Value.pointer (some (Addr.mk b_1 0 none)))])], cel b_3 23 [(Value.slice p_3 x_2.length c_3)], row enc31 31 4 p_3 c_3 x_2, cel b_2 57 [(Value.func (Fn.func 27) #[] #[]), (Value.func (Fn.func 29) #[] #[(Value.pointer (some (Addr.mk b_1 0 none)))]), (Value.func (Fn.func 30) #[] #[])]] rfl))
    replace h := h.pick [3, 3, 0, 0]
    dsimp only [pickL, pickR, nthH, delH, dropH, List.cons_append, List.nil_append] at h
    refine path_some_c1_ok (FL := marksP (d_1 :: m_2) :: FL) (A0 := (fun (s_7 : Nat × (List (Int × Int × Int × Bool))) => exH fun (p_7 : Option Addr) => exH fun (c_7 : Nat) => HL [pt l_2 (loopS (path_Ways_lo1 fn_e_3 e_3 d_1) s_7.1 (fun (n : Nat) => ((if n = 0 then none else (some (.exit 0))) : Option Code))), cel b_9 57 [(Value.func (Fn.func 29) #[] #[(Value.pointer (some (Addr.mk b_1 0 none)))])], cel b_3 23 [(Value.slice p_7 s_7.2.length c_7)], row enc31 31 4 p_7 c_7 s_7.2, cel b_2 57 [(Value.func (Fn.func 27) #[] #[]), (Value.func (Fn.func 29) #[] #[(Value.pointer (some (Addr.mk b_1 0 none)))]), (Value.func (Fn.func 30) #[] #[])]])) (Y0 := (fun x_10 (s_7 : Nat × (List (Int × Int × Int × Bool))) K_6 => s_7.1 = 0 ∧ (cond ((((s_7.2.length : Nat) : Int) : Int) == 8) (K_6 false (1, s_7.2)) (slices_Contains_sl_api_Place_api_Place_wp s_7.2 x_10.1 x_10.2.1 x_10.2.2.1 x_10.2.2.2 (fun (r_1 : Bool) => cond (!r_1) ((s_7.2.length + [x_10].length) * 32 ≤ 140737488355328 ∧ (K_6 true (0, (s_7.2 ++ [x_10])))) (K_6 true (0, s_7.2))))))) (σ0 := Nat × (List (Int × Int × Int × Bool))) (s := (0, x_2)) ?_ (A101 := (fun (_ : Unit) => HL [cel b_1 22 [(Value.int .u32 own)]])) (Y101 := (fun x_8 s_6 K_5 => path_Ways_c2_wp x_8.1 x_8.2.1 x_8.2.2.1 x_8.2.2.2 own (fun (r : Bool) => K_5 r s_6))) (σ101 := Unit) (s_1 := ()) ?_ (fun w h => (hF_places _ (h.drop 1))) rfl hc_places h hp ?_
    · intro x_10 s_7 K_6 FL2 w R hx h hp hR
      obtain ⟨p_7, h⟩ := Mem.exs h
      obtain ⟨c_7, h⟩ := Mem.exs h
      replace h := h.unpack
      dsimp only [pickL, pickR, nthH, delH, dropH, List.cons_append, List.nil_append] at h
      obtain ⟨hst, hp⟩ := hp
      refine path_Ways_r1_yield (by have := objAt h 0 rfl; rw [hst] at this; exact this) he_e_3 hr_e_3 ?_
      unfold path_Ways_r1
      have cpp_7 := rowCap h 3 rfl
      refine newL (o := [(Value.int .u32 0), (Value.int .i64 0), (Value.int .i64 0), (Value.bool false)]) h ?_
      intro b_12 w h
      refine storeL (ys := [(Value.int .u32 x_10.1), (Value.int .i64 x_10.2.1), (Value.int .i64 x_10.2.2.1), (Value.bool x_10.2.2.2)]) h 0 0 rfl rfl rfl sz31 rfl rfl ?_
      intro w h
      dsimp only [setH, setVs, setV] at h
      refine ⟨_, (by have := objAt h 1 rfl; rw [hst] at this; exact this : _ = some (Obj.loop (path_Ways_lo1 fn_e_3 e_3 d_1))), rfl, ?_⟩
      replace h := h.putK 1 rfl (.loop { path_Ways_lo1 fn_e_3 e_3 d_1 with state := .busy })
      dsimp only [setH] at h
      refine ⟨_, _, _, cellL h 3 0 rfl rfl rfl, ?_⟩
      refine cond_both hp (fun hp => ?_) (fun hp => ?_)
      · refine ⟨_, objAt h 1 rfl, ?_⟩
        replace h := h.putK 1 rfl (loopS (path_Ways_lo1 fn_e_3 e_3 d_1) 1 (fun (n : Nat) => ((if n = 0 then none else (some (.exit 0))) : Option Code)))
        dsimp only [setH] at h
        replace h := h.pick [1]
        dsimp only [pickL, pickR, nthH, delH, dropH, List.cons_append, List.nil_append] at h
        replace h := h.sel [0, 1, 1, 1, 1] 1
        dsimp only [pickL, pickR, nthH, delH, dropH, List.cons_append, List.nil_append] at h
        exact hR false (1, s_7.2) _ (Mem.exsI p_7 (Mem.exsI c_7 (h.pack 5 [pt l_2 (loopS (path_Ways_lo1 fn_e_3 e_3 d_1) 1 (fun (n : Nat) => ((if n = 0 then none else (some (.exit 0))) : Option Code))), cel b_9 57 [(Value.func (Fn.func 29) #[] #[(Value.pointer (some (Addr.mk b_1 0 none)))])], cel b_3 23 [(Value.slice p_7 s_7.2.length c_7)], row enc31 31 4 p_7 c_7 s_7.2, cel b_2 57 [(Value.func (Fn.func 27) #[] #[]), (Value.func (Fn.func 29) #[] #[(Value.pointer (some (Addr.mk b_1 0 none)))]), (Value.func (Fn.func 30) #[] #[])]] rfl))) hp
      refine ⟨_, _, _, cellL h 3 0 rfl rfl rfl, ?_⟩
      refine ⟨_, cellL h 0 0 rfl rfl rfl, _, cellL h 0 1 rfl rfl rfl, _, cellL h 0 2 rfl rfl rfl, _, cellL h 0 3 rfl rfl rfl, ?_⟩
      refine slices_Contains_sl_api_Place_api_Place_ok (FL := cel b_12 31 [(Value.int .u32 x_10.1), (Value.int .i64 x_10.2.1), (Value.int .i64 x_10.2.2.1), (Value.bool x_10.2.2.2)] :: pt l_2 (.loop { path_Ways_lo1 fn_e_3 e_3 d_1 with state := .busy }) :: cel b_9 57 [(Value.func (Fn.func 29) #[] #[(Value.pointer (some (Addr.mk b_1 0 none)))])] :: cel b_3 23 [(Value.slice p_7 s_7.2.length c_7)] :: row enc31 31 4 p_7 c_7 s_7.2 :: cel b_2 57 [(Value.func (Fn.func 27) #[] #[]), (Value.func (Fn.func 29) #[] #[(Value.pointer (some (Addr.mk b_1 0 none)))]), (Value.func (Fn.func 30) #[] #[])] :: FL2) (fun w h => (rowRd h 4 encL31 rfl)) rfl cpp_7 h hp ?_
      intro r_1 w h hp
      refine ⟨_, rfl, ?_⟩
      refine cond_both' hp (fun hp => ?_) (fun hp => ?_)
      · refine ⟨_, objAt h 1 rfl, ?_⟩
        replace h := h.putK 1 rfl (loopS (path_Ways_lo1 fn_e_3 e_3 d_1) 0 (fun (n : Nat) => ((if n = 0 then none else (some (.exit 0))) : Option Code)))
        dsimp only [setH] at h
        replace h := h.pick [1]
        dsimp only [pickL, pickR, nthH, delH, dropH, List.cons_append, List.nil_append] at h
        replace h := h.sel [0, 1, 1, 1, 1] 1
        dsimp only [pickL, pickR, nthH, delH, dropH, List.cons_append, List.nil_append] at h
        exact hR true (0, s_7.2) _ (Mem.exsI p_7 (Mem.exsI c_7 (h.pack 5 [pt l_2 (loopS (path_Ways_lo1 fn_e_3 e_3 d_1) 0 (fun (n : Nat) => ((if n = 0 then none else (some (.exit 0))) : Option Code))), cel b_9 57 [(Value.func (Fn.func 29) #[] #[(Value.pointer (some (Addr.mk b_1 0 none)))])], cel b_3 23 [(Value.slice p_7 s_7.2.length c_7)], row enc31 31 4 p_7 c_7 s_7.2, cel b_2 57 [(Value.func (Fn.func 27) #[] #[]), (Value.func (Fn.func 29) #[] #[(Value.pointer (some (Addr.mk b_1 0 none)))]), (Value.func (Fn.func 30) #[] #[])]] rfl))) hp
      refine ⟨_, _, _, cellL h 3 0 rfl rfl rfl, ?_⟩
      refine ⟨_, cellL h 0 0 rfl rfl rfl, _, cellL h 0 1 rfl rfl rfl, _, cellL h 0 2 rfl rfl rfl, _, cellL h 0 3 rfl rfl rfl, ?_⟩
      refine newL (o := [(Value.int .u32 x_10.1), (Value.int .i64 x_10.2.1), (Value.int .i64 x_10.2.2.1), (Value.bool x_10.2.2.2)]) h ?_
      intro b_13 w h
      have sr_1 := (celRd h 0 encL31 rfl [x_10] rfl)
      obtain ⟨hb, hp⟩ := hp
      refine appendL slt23 und23 encL31 encO31 h 5 rfl rfl sr_1 rfl hb ?_
      intro p_8 c_8 w h
      dsimp only [setH, setVs, setV] at h
      have cpp_8 := rowCap h 5 rfl
      refine ⟨_, _, _, rfl, ?_⟩
      refine storeL (ys := [(Value.slice p_8 (s_7.2 ++ [x_10]).length c_8)]) h 4 0 rfl rfl rfl sz23 rfl rfl ?_
      intro w h
      dsimp only [setH, setVs, setV] at h
      refine ⟨_, objAt h 2 rfl, ?_⟩
      replace h := h.putK 2 rfl (loopS (path_Ways_lo1 fn_e_3 e_3 d_1) 0 (fun (n : Nat) => ((if n = 0 then none else (some (.exit 0))) : Option Code)))
      dsimp only [setH] at h
      replace h := h.pick [2]
      dsimp only [pickL, pickR, nthH, delH, dropH, List.cons_append, List.nil_append] at h
      replace h := h.sel [0, 2, 2, 2, 2] 2
      dsimp only [pickL, pickR, nthH, delH, dropH, List.cons_append, List.nil_append] at h
      exact hR true (0, (s_7.2 ++ [x_10])) _ (Mem.exsI p_8 (Mem.exsI c_8 (h.pack 5 [pt l_2 (loopS (path_Ways_lo1 fn_e_3 e_3 d_1) 0 (fun (n : Nat) => ((if n = 0 then none else (some (.exit 0))) : Option Code))), cel b_9 57 [(Value.func (Fn.func 29) #[] #[(Value.pointer (some (Addr.mk b_1 0 none)))])], cel b_3 23 [(Value.slice p_8 (s_7.2 ++ [x_10]).length c_8)], row enc31 31 4 p_8 c_8 (s_7.2 ++ [x_10]), cel b_2 57 [(Value.func (Fn.func 27) #[] #[]), (Value.func (Fn.func 29) #[] #[(Value.pointer (some (Addr.mk b_1 0 none)))]), (Value.func (Fn.func 30) #[] #[])]] rfl))) hp
    · intro x_8 s_6 K FL2 w R hx h hp hR
      replace h := h.unpack
      dsimp only [pickL, pickR, nthH, delH, dropH, List.cons_append, List.nil_append] at h
      refine calleeFn (by kernel_rfl) ?_
      refine path_Ways_c2_ok h hp ?_
      intro r w h hp
      exact hR r s_6 _ (h.pack 1 [cel b_1 22 [(Value.int .u32 own)]] rfl) hp
    intro s_8 s_9 w h hp
    replace h := h.pick [3]
    dsimp only [pickL, pickR, nthH, delH, dropH, List.cons_append, List.nil_append] at h
    replace h := h.unpack
    dsimp only [pickL, pickR, nthH, delH, dropH, List.cons_append, List.nil_append] at h
    replace h := h.pick [3]
    dsimp only [pickL, pickR, nthH, delH, dropH, List.cons_append, List.nil_append] at h
    obtain ⟨p_9, h⟩ := Mem.exs h
    obtain ⟨c_9, h⟩ := Mem.exs h
    replace h := h.unpack
    dsimp only [pickL, pickR, nthH, delH, dropH, List.cons_append, List.nil_append] at h
    have cpp_9 := rowCap h 3 rfl
    refine ⟨_, objAt h 0 rfl, loopS_ns _, ?_⟩
    replace h := h.putK 0 rfl (.loop { path_Ways_lo1 fn_e_3 e_3 d_1 with state := .exhausted, pending := (fun (n : Nat) => ((if n = 0 then none else (some (.exit 0))) : Option Code)) s_8.1 })
    dsimp only [setH] at h
    rcases hp with ⟨hst, hp⟩ | ⟨hst, hp⟩
    · refine Or.inl ?_
      refine ⟨congrArg (fun (n : Nat) => ((if n = 0 then none else (some (.exit 0))) : Option Code)) hst, ?_⟩
      replace h := h.sel [2, 2, 2, 2, 4] 4
      dsimp only [pickL, pickR, nthH, delH, dropH, List.cons_append, List.nil_append] at h
      obtain ⟨n_8, hn, hp⟩ := hp
      exact ⟨n_8, hn, s_8.2, p_9, s_8.2.length, c_9, rfl, rfl, rfl, rfl, rfl, rfl, rfl, rfl, rfl, rfl, rfl, rfl, hp, h⟩
    · refine Or.inr (?_)
      refine ⟨show (fun (n : Nat) => ((if n = 0 then none else (some (.exit 0))) : Option Code)) s_8.1 = _ from if_neg hst, ?_⟩
      replace h := h.sel [2, 2, 2, 2, 4] 4
      dsimp only [pickL, pickR, nthH, delH, dropH, List.cons_append, List.nil_append] at h
      exact ⟨s_8.2, p_9, s_8.2.length, c_9, rfl, rfl, hp, h⟩
  · replace hp := hp.2.2 e_1
    refine ⟨_, litCell1 h 2 rfl (m := 2) (j := 0) (congrArg Int.toNat e_1) rfl, ?_⟩
    refine newL (o := [Value.nilFunc]) h ?_
    intro b_14 w h
    refine storeL (ys := [(Value.func (Fn.func 30) #[] #[])]) h 0 0 rfl rfl rfl sz57 rfl rfl ?_
    intro w h
    dsimp only [setH, setVs, setV] at h
    refine ⟨_, cellL h 0 0 rfl rfl rfl, ?_⟩
    replace h : Mem ((fun (_ : Unit) => HL []) () :: cel b_14 57 [(Value.func (Fn.func 30) #[] #[])] :: cel b_3 23 [(Value.slice p_3 x_2.length c_3)] :: row enc31 31 4 p_3 c_3 x_2 :: cel b_2 57 [(Value.func (Fn.func 27) #[] #[]), (Value.func (Fn.func 29) #[] #[(Value.pointer (some (Addr.mk b_1 0 none)))]), (Value.func (Fn.func 30) #[] #[])] :: cel b_1 22 [(Value.int .u32 own)] :: marksP m_2 :: FL) _ := h.pack 0 [] rfl
    refine path_some_ok (FL := cel b_14 57 [(Value.func (Fn.func 30) #[] #[])] :: cel b_3 23 [(Value.slice p_3 x_2.length c_3)] :: row enc31 31 4 p_3 c_3 x_2 :: cel b_2 57 [(Value.func (Fn.func 27) #[] #[]), (Value.func (Fn.func 29) #[] #[(Value.pointer (some (Addr.mk b_1 0 none)))]), (Value.func (Fn.func 30) #[] #[])] :: cel b_1 22 [(Value.int .u32 own)] :: marksP m_2 :: FL) (A1 := (fun (_ : Unit) => HL [])) (Y1 := (fun x_11 s_10 K_7 => path_Ways_c3_wp x_11.1 x_11.2.1 x_11.2.2.1 x_11.2.2.2 (fun (r : Bool) => K_7 r s_10))) (σ1 := Unit) (s := ()) ?_ (fun w h => (hF_places _ (h.drop 6))) rfl hc_places h hp ?_
    · intro x_11 s_10 K FL2 w R hx h hp hR
      replace h := h.unpack
      dsimp only [pickL, pickR, nthH, delH, dropH, List.cons_append, List.nil_append] at h
      refine calleeFn (by kernel_rfl) ?_
      refine path_Ways_c3_ok h hp ?_
      intro r w h hp
      exact hR r s_10 _ (h.pack 0 [] rfl) hp
    intro b_15 b_16 w h hp
    replace h := h.pick [2]
    dsimp only [pickL, pickR, nthH, delH, dropH, List.cons_append, List.nil_append] at h
    replace h := h.unpack
    dsimp only [pickL, pickR, nthH, delH, dropH, List.cons_append, List.nil_append] at h
    refine ⟨_, _, _, rfl, ?_⟩
    intro e_4 fn_e_4 he_e_4 hr_e_4
    refine newO h ?_
    intro d_2 w h
    refine newO h ?_
    intro l_3 w h
    replace h := h.pick [1, 8]
    dsimp only [pickL, pickR, nthH, delH, dropH, List.cons_append, List.nil_append] at h
    replace h := marksPush h
    show rangeCallW _ (Value.func (Fn.func 39) _ _) _ _ _
    refine rangeCallFn (by kernel_rfl) ?_
    replace h : Mem ((fun (_ : Unit) => HL []) () :: marksP (d_2 :: m_2) :: pt l_3 (.loop (path_Ways_lo1 fn_e_4 e_4 d_2)) :: cel b_15 23 [(Value.slice p_1 places.length c_1)] :: cel b_16 55 [(Value.func (Fn.func 30) #[] #[])] :: cel b_14 57 [(Value.func (Fn.func 30) #[] #[])] :: cel b_3 23 [(Value.slice p_3 x_2.length c_3)] :: row enc31 31 4 p_3 c_3 x_2 :: cel b_2 57 [(Value.func (Fn.func 27) #[] #[]), (Value.func (Fn.func 29) #[] #[(Value.pointer (some (Addr.mk b_1 0 none)))]), (Value.func (Fn.func 30) #[] #[])] :: cel b_1 22 [(Value.int .u32 own)] :: FL) _ := h.pack 0 [] rfl
    replace h := h.pick [2, 4, 4, 4, 4, 4]
    dsimp only [pickL, pickR, nthH, delH, dropH, List.cons_append, List.nil_append] at h
    replace h : Mem ((fun (s_12 : Nat × (List (Int × Int × Int × Bool))) => exH fun (p_10 : Option Addr) => exH fun (c_10 : Nat) => HL [pt l_3 (loopS (path_Ways_lo1 fn_e_4 e_4 d_2) s_12.1 (fun (n : Nat) => ((if n = 0 then none else (some (.exit 0))) : Option Code))), cel b_14 57 [(Value.func (Fn.func 30) #[] #[])], cel b_3 23 [(Value.slice p_10 s_12.2.length c_10)], row enc31 31 4 p_10 c_10 s_12.2, cel b_2 57 [(Value.func (Fn.func 27) #[] #[]), (Value.func (Fn.func 29) #[] #[(Value.pointer (some (Addr.mk b_1 0 none)))]), (Value.func (Fn.func 30) #[] #[])], cel b_1 22 [(Value.int .u32 own)]]) (0, x_2) :: (fun (_ : Unit) => HL []) () :: marksP (d_2 :: m_2) :: cel b_15 23 [(Value.slice p_1 places.length c_1)] :: cel b_16 55 [(Value.func (Fn.func 30) #[] #[])] :: FL) _ := Mem.exsI p_3 (Mem.exsI c_3 (h.pack 6 [pt l_3 (loopS (path_Ways_lo1 fn_e_4 e_4 d_2) 0 (fun (n : Nat) => ((if n = 0 then none else (some (.exit 0))) : Option Code))), cel b_14 57 [(Value.func (Fn.func 30) #[] #[])], cel b_3 23 [(Value.slice p_3 x_2.length c_3)], row enc31 31 4 p_3 c_3 x_2, cel b_2 57 [(Value.func (Fn.func 27) #[] #[]), (Value.func (Fn.func 29) #[] #[(Value.pointer (some (Addr.mk b_1 0 none)))]), (Value.func (Fn.func 30) #[] #[])], cel b_1 22 [(Value.int .u32 own)]] rfl))
    replace h := h.pick [3, 3, 0, 0]
    dsimp only [pickL, pickR, nthH, delH, dropH, List.cons_append, List.nil_append] at h
    refine path_some_c1_ok (FL := marksP (d_2 :: m_2) :: FL) (A0 := (fun (s_12 : Nat × (List (Int × Int × Int × Bool))) => exH fun (p_10 : Option Addr) => exH fun (c_10 : Nat) => HL [pt l_3 (loopS (path_Ways_lo1 fn_e_4 e_4 d_2) s_12.1 (fun (n : Nat) => ((if n = 0 then none else (some (.exit 0))) : Option Code))), cel b_14 57 [(Value.func (Fn.func 30) #[] #[])], cel b_3 23 [(Value.slice p_10 s_12.2.length c_10)], row enc31 31 4 p_10 c_10 s_12.2, cel b_2 57 [(Value.func (Fn.func 27) #[] #[]), (Value.func (Fn.func 29) #[] #[(Value.pointer (some (Addr.mk b_1 0 none)))]), (Value.func (Fn.func 30) #[] #[])], cel b_1 22 [(Value.int .u32 own)]])) (Y0 := (fun x_14 (s_12 : Nat × (List (Int × Int × Int × Bool))) K_9 => s_12.1 = 0 ∧ (cond ((((s_12.2.length : Nat) : Int) : Int) == 8) (K_9 false (1, s_12.2)) (slices_Contains_sl_api_Place_api_Place_wp s_12.2 x_14.1 x_14.2.1 x_14.2.2.1 x_14.2.2.2 (fun (r_2 : Bool) => cond (!r_2) ((s_12.2.length + [x_14].length) * 32 ≤ 140737488355328 ∧ (K_9 true (0, (s_12.2 ++ [x_14])))) (K_9 true (0, s_12.2))))))) (σ0 := Nat × (List (Int × Int × Int × Bool))) (s := (0, x_2)) ?_ (A101 := (fun (_ : Unit) => HL [])) (Y101 := (fun x_12 s_11 K_8 => path_Ways_c3_wp x_12.1 x_12.2.1 x_12.2.2.1 x_12.2.2.2 (fun (r : Bool) => K_8 r s_11))) (σ101 := Unit) (s_1 := ()) ?_ (fun w h => (hF_places _ (h.drop 1))) rfl hc_places h hp ?_
    · intro x_14 s_12 K_9 FL2 w R hx h hp hR
      obtain ⟨p_10, h⟩ := Mem.exs h
      obtain ⟨c_10, h⟩ := Mem.exs h
      replace h := h.unpack
      dsimp only [pickL, pickR, nthH, delH, dropH, List.cons_append, List.nil_append] at h
      obtain ⟨hst, hp⟩ := hp
      refine path_Ways_r1_yield (by have := objAt h 0 rfl; rw [hst] at this; exact this) he_e_4 hr_e_4 ?_
      unfold path_Ways_r1
      have cpp_10 := rowCap h 3 rfl
      refine newL (o := [(Value.int .u32 0), (Value.int .i64 0), (Value.int .i64 0), (Value.bool false)]) h ?_
      intro b_17 w h
      refine storeL (ys := [(Value.int .u32 x_14.1), (Value.int .i64 x_14.2.1), (Value.int .i64 x_14.2.2.1), (Value.bool x_14.2.2.2)]) h 0 0 rfl rfl rfl sz31 rfl rfl ?_
      intro w h
      dsimp only [setH, setVs, setV] at h
      refine ⟨_, (by have := objAt h 1 rfl; rw [hst] at this; exact this : _ = some (Obj.loop (path_Ways_lo1 fn_e_4 e_4 d_2))), rfl, ?_⟩
      replace h := h.putK 1 rfl (.loop { path_Ways_lo1 fn_e_4 e_4 d_2 with state := .busy })
      dsimp only [setH] at h
      refine ⟨_, _, _, cellL h 3 0 rfl rfl rfl, ?_⟩
      refine cond_both hp (fun hp => ?_) (fun hp => ?_)
      · refine ⟨_, objAt h 1 rfl, ?_⟩
        replace h := h.putK 1 rfl (loopS (path_Ways_lo1 fn_e_4 e_4 d_2) 1 (fun (n : Nat) => ((if n = 0 then none else (some (.exit 0))) : Option Code)))
        dsimp only [setH] at h
        replace h := h.pick [1]
        dsimp only [pickL, pickR, nthH, delH, dropH, List.cons_append, List.nil_append] at h
        replace h := h.sel [0, 1, 1, 1, 1, 1] 1
        dsimp only [pickL, pickR, nthH, delH, dropH, List.cons_append, List.nil_append] at h
        exact hR false (1, s_12.2) _ (Mem.exsI p_10 (Mem.exsI c_10 (h.pack 6 [pt l_3 (loopS (path_Ways_lo1 fn_e_4 e_4 d_2) 1 (fun (n : Nat) => ((if n = 0 then none else (some (.exit 0))) : Option Code))), cel b_14 57 [(Value.func (Fn.func 30) #[] #[])], cel b_3 23 [(Value.slice p_10 s_12.2.length c_10)], row enc31 31 4 p_10 c_10 s_12.2, cel b_2 57 [(Value.func (Fn.func 27) #[] #[]), (Value.func (Fn.func 29) #[] #[(Value.pointer (some (Addr.mk b_1 0 none)))]), (Value.func (Fn.func 30) #[] #[])], cel b_1 22 [(Value.int .u32 own)]] rfl))) hp
      refine ⟨_, _, _, cellL h 3 0 rfl rfl rfl, ?_⟩
      refine ⟨_, cellL h 0 0 rfl rfl rfl, _, cellL h 0 1 rfl rfl rfl, _, cellL h 0 2 rfl rfl rfl, _, cellL h 0 3 rfl rfl rfl, ?_⟩
      refine slices_Contains_sl_api_Place_api_Place_ok (FL := cel b_17 31 [(Value.int .u32 x_14.1), (Value.int .i64 x_14.2.1), (Value.int .i64 x_14.2.2.1), (Value.bool x_14.2.2.2)] :: pt l_3 (.loop { path_Ways_lo1 fn_e_4 e_4 d_2 with state := .busy }) :: cel b_14 57 [(Value.func (Fn.func 30) #[] #[])] :: cel b_3 23 [(Value.slice p_10 s_12.2.length c_10)] :: row enc31 31 4 p_10 c_10 s_12.2 :: cel b_2 57 [(Value.func (Fn.func 27) #[] #[]), (Value.func (Fn.func 29) #[] #[(Value.pointer (some (Addr.mk b_1 0 none)))]), (Value.func (Fn.func 30) #[] #[])] :: cel b_1 22 [(Value.int .u32 own)] :: FL2) (fun w h => (rowRd h 4 encL31 rfl)) rfl cpp_10 h hp ?_
      intro r_2 w h hp
      refine ⟨_, rfl, ?_⟩
      refine cond_both' hp (fun hp => ?_) (fun hp => ?_)
      · refine ⟨_, objAt h 1 rfl, ?_⟩
        replace h := h.putK 1 rfl (loopS (path_Ways_lo1 fn_e_4 e_4 d_2) 0 (fun (n : Nat) => ((if n = 0 then none else (some (.exit 0))) : Option Code)))
        dsimp only [setH] at h
        replace h := h.pick [1]
        dsimp only [pickL, pickR, nthH, delH, dropH, List.cons_append, List.nil_append] at h
        replace h := h.sel [0, 1, 1, 1, 1, 1] 1
        dsimp only [pickL, pickR, nthH, delH, dropH, List.cons_append, List.nil_append] at h
        exact hR true (0, s_12.2) _ (Mem.exsI p_10 (Mem.exsI c_10 (h.pack 6 [pt l_3 (loopS (path_Ways_lo1 fn_e_4 e_4 d_2) 0 (fun (n : Nat) => ((if n = 0 then none else (some (.exit 0))) : Option Code))), cel b_14 57 [(Value.func (Fn.func 30) #[] #[])], cel b_3 23 [(Value.slice p_10 s_12.2.length c_10)], row enc31 31 4 p_10 c_10 s_12.2, cel b_2 57 [(Value.func (Fn.func 27) #[] #[]), (Value.func (Fn.func 29) #[] #[(Value.pointer (some (Addr.mk b_1 0 none)))]), (Value.func (Fn.func 30) #[] #[])], cel b_1 22 [(Value.int .u32 own)]] rfl))) hp
      refine ⟨_, _, _, cellL h 3 0 rfl rfl rfl, ?_⟩
      refine ⟨_, cellL h 0 0 rfl rfl rfl, _, cellL h 0 1 rfl rfl rfl, _, cellL h 0 2 rfl rfl rfl, _, cellL h 0 3 rfl rfl rfl, ?_⟩
      refine newL (o := [(Value.int .u32 x_14.1), (Value.int .i64 x_14.2.1), (Value.int .i64 x_14.2.2.1), (Value.bool x_14.2.2.2)]) h ?_
      intro b_18 w h
      have sr_2 := (celRd h 0 encL31 rfl [x_14] rfl)
      obtain ⟨hb, hp⟩ := hp
      refine appendL slt23 und23 encL31 encO31 h 5 rfl rfl sr_2 rfl hb ?_
      intro p_11 c_11 w h
      dsimp only [setH, setVs, setV] at h
      have cpp_11 := rowCap h 5 rfl
      refine ⟨_, _, _, rfl, ?_⟩
      refine storeL (ys := [(Value.slice p_11 (s_12.2 ++ [x_14]).length c_11)]) h 4 0 rfl rfl rfl sz23 rfl rfl ?_
      intro w h
      dsimp only [setH, setVs, setV] at h
      refine ⟨_, objAt h 2 rfl, ?_⟩
      replace h := h.putK 2 rfl (loopS (path_Ways_lo1 fn_e_4 e_4 d_2) 0 (fun (n : Nat) => ((if n = 0 then none else (some (.exit 0))) : Option Code)))
      dsimp only [setH] at h
      replace h := h.pick [2]
      dsimp only [pickL, pickR, nthH, delH, dropH, List.cons_append, List.nil_append] at h
      replace h := h.sel [0, 2, 2, 2, 2, 2] 2
      dsimp only [pickL, pickR, nthH, delH, dropH, List.cons_append, List.nil_append] at h
      exact hR true (0, (s_12.2 ++ [x_14])) _ (Mem.exsI p_11 (Mem.exsI c_11 (h.pack 6 [pt l_3 (loopS (path_Ways_lo1 fn_e_4 e_4 d_2) 0 (fun (n : Nat) => ((if n = 0 then none else (some (.exit 0))) : Option Code))), cel b_14 57 [(Value.func (Fn.func 30) #[] #[])], cel b_3 23 [(Value.slice p_11 (s_12.2 ++ [x_14]).length c_11)], row enc31 31 4 p_11 c_11 (s_12.2 ++ [x_14]), cel b_2 57 [(Value.func (Fn.func 27) #[] #[]), (Value.func (Fn.func 29) #[] #[(Value.pointer (some (Addr.mk b_1 0 none)))]), (Value.func (Fn.func 30) #[] #[])], cel b_1 22 [(Value.int .u32 own)]] rfl))) hp
    · intro x_12 s_11 K FL2 w R hx h hp hR
      replace h := h.unpack
      dsimp only [pickL, pickR, nthH, delH, dropH, List.cons_append, List.nil_append] at h
      refine calleeFn (by kernel_rfl) ?_
      refine path_Ways_c3_ok h hp ?_
      intro r w h hp
      exact hR r s_11 _ (h.pack 0 [] rfl) hp
    intro s_13 s_14 w h hp
    replace h := h.pick [3]
    dsimp only [pickL, pickR, nthH, delH, dropH, List.cons_append, List.nil_append] at h
    replace h := h.unpack
    dsimp only [pickL, pickR, nthH, delH, dropH, List.cons_append, List.nil_append] at h
    replace h := h.pick [2]
    dsimp only [pickL, pickR, nthH, delH, dropH, List.cons_append, List.nil_append] at h
    obtain ⟨p_12, h⟩ := Mem.exs h
    obtain ⟨c_12, h⟩ := Mem.exs h
    replace h := h.unpack
    dsimp only [pickL, pickR, nthH, delH, dropH, List.cons_append, List.nil_append] at h
    have cpp_12 := rowCap h 3 rfl
    refine ⟨_, objAt h 0 rfl, loopS_ns _, ?_⟩
    replace h := h.putK 0 rfl (.loop { path_Ways_lo1 fn_e_4 e_4 d_2 with state := .exhausted, pending := (fun (n : Nat) => ((if n = 0 then none else (some (.exit 0))) : Option Code)) s_13.1 })
    dsimp only [setH] at h
    rcases hp with ⟨hst, hp⟩ | ⟨hst, hp⟩
    · refine Or.inl ?_
      refine ⟨congrArg (fun (n : Nat) => ((if n = 0 then none else (some (.exit 0))) : Option Code)) hst, ?_⟩
      replace h := h.sel [2, 2, 2, 2, 4] 4
      dsimp only [pickL, pickR, nthH, delH, dropH, List.cons_append, List.nil_append] at h
      obtain ⟨n_10, hn, hp⟩ := hp
      exact ⟨n_10, hn, s_13.2, p_12, s_13.2.length, c_12, rfl, rfl, rfl, rfl, rfl, rfl, rfl, rfl, rfl, rfl, rfl, rfl, hp, h⟩
    · refine Or.inr (?_)
      refine ⟨show (fun (n : Nat) => ((if n = 0 then none else (some (.exit 0))) : Option Code)) s_13.1 = _ from if_neg hst, ?_⟩
      replace h := h.sel [2, 2, 2, 2, 4] 4
      dsimp only [pickL, pickR, nthH, delH, dropH, List.cons_append, List.nil_append] at h
      exact ⟨s_13.2, p_12, s_13.2.length, c_12, rfl, rfl, hp, h⟩

/-! embrasure/path.New (9) -/
def path_New_wp (own : Int) (places : List (Int × Int × Int × Bool)) (K : List (Int × Int × Int × Bool) → Int → Int → Int → Int → Int → Bool → Int → Prop) : Prop :=
  path_Ways_wp own places (fun (rs : List (Int × Int × Int × Bool)) => K rs 0 0 0 0 0 false 0)
theorem path_New_ok {p_1 : Option Addr} {n_1 : Nat} {c_1 : Nat} {own : Int} {places : List (Int × Int × Int × Bool)} {FL : List HP} {w : World} {K : List (Int × Int × Int × Bool) → Int → Int → Int → Int → Int → Bool → Int → Prop} {R : Value → World → Prop}
  (hF_places : ∀ w, Mem FL w → Rd w 4 p_1 enc31 places) (hl_places : n_1 = places.length) (hc_places : n_1 ≤ c_1)
  (h : Mem (FL) w) (hp : path_New_wp own places K)
  (hR : ∀ (ways : List (Int × Int × Int × Bool)) (at_ : Int) (s : Int) (s_1 : Int) (s_2 : Int) (s_3 : Int) (s_4 : Bool) (s_5 : Int) (b_1 : Nat) (p_2 : Option Addr) (n_2 : Nat) (c_2 : Nat) (w : World), n_2 = ways.length → Mem (cel b_1 51 [(Value.slice p_2 n_2 c_2), (Value.int .i64 at_), (Value.int .i64 s), (Value.int .u32 s_1), (Value.int .i64 s_2), (Value.int .i64 s_3), (Value.bool s_4), (Value.int .i64 s_5)] :: row enc31 31 4 p_2 c_2 ways :: FL) w → K ways at_ s s_1 s_2 s_3 s_4 s_5 → R (Value.pointer (some (Addr.mk b_1 0 none))) w) :
  CallV Try.prog 9 #[(Value.int .u32 own), (Value.slice p_1 n_1 c_1)] w R := by
  refine path_New_call ?_
  unfold path_New
  unfold path_New_wp at hp
  subst hl_places
  refine path_Ways_ok (FL := FL) (fun w h => (hF_places _ (h.drop 0))) rfl hc_places h hp ?_
  rintro rs p_2 n_2 c_2 w rfl h hp
  have cpp_2 := rowCap h 0 rfl
  refine ⟨_, _, _, rfl, ?_⟩
  refine newL (o := [(Value.slice p_2 rs.length c_2), (Value.int .i64 0), (Value.int .i64 0), (Value.int .u32 0), (Value.int .i64 0), (Value.int .i64 0), (Value.bool false), (Value.int .i64 0)]) h ?_
  intro b_1 w h
  exact hR rs 0 0 0 0 0 false 0 b_1 p_2 rs.length c_2 _ rfl h hp

/-! embrasure/path.mayTime (25) -/
def path_mayTime_wp (now : Int) (K : Bool → Prop) : Prop :=
  cond (decide ((now : Int) ≥ 0)) (K (decide ((now : Int) ≤ 1099511627776))) (K false)
theorem path_mayTime_ok {now : Int} {FL : List HP} {w : World} {K : Bool → Prop} {R : Value → World → Prop}
  (h : Mem (FL) w) (hp : path_mayTime_wp now K)
  (hR : ∀ (r : Bool) (w : World), Mem (FL) w → K r → R (Value.bool r) w) :
  CallV Try.prog 25 #[(Value.int .i64 now)] w R := by
  refine path_mayTime_call ?_
  unfold path_mayTime
  unfold path_mayTime_wp at hp
  refine cond_both hp (fun hp => ?_) (fun hp => ?_)
  · exact hR (decide ((now : Int) ≤ 1099511627776)) _ h hp
  exact hR false _ h hp

/-! (*embrasure/path.Walker).try (26) -/
def path_Walker_try_wp (ways : List (Int × Int × Int × Bool)) (at_ : Int) (s : Int) (s_1 : Int) (s_2 : Int) (s_3 : Int) (s_4 : Bool) (s_5 : Int) (now : Int) (at__1 : Int) (K : Int → Int → Int → Bool → Bool → Int → Int → Int → Int → Int → Bool → Int → Prop) : Prop :=
  cond (decide ((at__1 : Int) ≥ ((ways.length : Nat) : Int))) (K 0 0 0 (false) false at__1 4 0 0 0 false 0) (0 ≤ (at__1 : Int) ∧ (at__1 : Int) < ((ways.length : Nat) : Int) ∧ (∀ (x_1 : Int × Int × Int × Bool), ways[Int.toNat at__1]? = some x_1 → (0 ≤ (at__1 : Int) ∧ (at__1 : Int) < ((ways.length : Nat) : Int) ∧ (∀ (x_2 : Int × Int × Int × Bool), ways[Int.toNat at__1]? = some x_2 → (K x_2.1 x_2.2.1 x_2.2.2.1 x_2.2.2.2 true at__1 1 x_1.1 x_1.2.1 x_1.2.2.1 x_1.2.2.2 (IntKind.wrap .i64 (now + 10)))))))
theorem path_Walker_try_ok {b_1 : Nat} {p_1 : Option Addr} {c_1 : Nat} {ways : List (Int × Int × Int × Bool)} {at_ : Int} {s : Int} {s_1 : Int} {s_2 : Int} {s_3 : Int} {s_4 : Bool} {s_5 : Int} {now : Int} {at__1 : Int} {FL : List HP} {w : World} {K : Int → Int → Int → Bool → Bool → Int → Int → Int → Int → Int → Bool → Int → Prop} {R : Value → World → Prop}
  (h : Mem (cel b_1 51 [(Value.slice p_1 ways.length c_1), (Value.int .i64 at_), (Value.int .i64 s), (Value.int .u32 s_1), (Value.int .i64 s_2), (Value.int .i64 s_3), (Value.bool s_4), (Value.int .i64 s_5)] :: row enc31 31 4 p_1 c_1 ways :: FL) w) (hp : path_Walker_try_wp ways at_ s s_1 s_2 s_3 s_4 s_5 now at__1 K)
  (hR : ∀ (r : Int) (r_1 : Int) (r_2 : Int) (r_3 : Bool) (r_4 : Bool) (at__2 : Int) (s_6 : Int) (s_7 : Int) (s_8 : Int) (s_9 : Int) (s_10 : Bool) (s_11 : Int) (w : World), Mem (cel b_1 51 [(Value.slice p_1 ways.length c_1), (Value.int .i64 at__2), (Value.int .i64 s_6), (Value.int .u32 s_7), (Value.int .i64 s_8), (Value.int .i64 s_9), (Value.bool s_10), (Value.int .i64 s_11)] :: row enc31 31 4 p_1 c_1 ways :: FL) w → K r r_1 r_2 r_3 r_4 at__2 s_6 s_7 s_8 s_9 s_10 s_11 → R (Value.tuple #[(Value.agg #[(Value.int .u32 r), (Value.int .i64 r_1), (Value.int .i64 r_2), (Value.bool r_3)]), (Value.bool r_4)]) w) :
  CallV Try.prog 26 #[(Value.pointer (some (Addr.mk b_1 0 none))), (Value.int .i64 now), (Value.int .i64 at__1)] w R := by
  refine path_Walker_try_call ?_
  unfold path_Walker_try
  unfold path_Walker_try_wp at hp
  have cpp_1 := rowCap h 1 rfl
  refine newL (o := [(Value.int .u32 0), (Value.int .i64 0), (Value.int .i64 0), (Value.bool false)]) h ?_
  intro b_2 w h
  refine ⟨_, rfl, ?_⟩
  refine storeL (ys := [(Value.int .i64 at__1)]) h 1 1 rfl rfl rfl sz3 rfl rfl ?_
  intro w h
  dsimp only [setH, setVs, setV] at h
  refine ⟨_, rfl, ?_⟩
  refine ⟨_, _, _, cellL h 1 0 rfl rfl rfl, ?_⟩
  refine cond_both hp (fun hp => ?_) (fun hp => ?_)
  · refine ⟨_, rfl, ?_⟩
    refine storeL (ys := [(Value.int .i64 4), (Value.int .u32 0), (Value.int .i64 0), (Value.int .i64 0), (Value.bool false), (Value.int .i64 0)]) h 1 2 rfl rfl rfl sz35 rfl rfl ?_
    intro w h
    dsimp only [setH, setVs, setV] at h
    refine storeL (ys := [(Value.int .u32 0), (Value.int .i64 0), (Value.int .i64 0), (Value.bool false)]) h 0 0 rfl rfl rfl sz31 rfl rfl ?_
    intro w h
    dsimp only [setH, setVs, setV] at h
    refine ⟨_, cellL h 0 0 rfl rfl rfl, _, cellL h 0 1 rfl rfl rfl, _, cellL h 0 2 rfl rfl rfl, _, cellL h 0 3 rfl rfl rfl, ?_⟩
    replace h := h.sel [1, 1] 1
    dsimp only [pickL, pickR, nthH, delH, dropH, List.cons_append, List.nil_append] at h
    exact hR 0 0 0 (false) false at__1 4 0 0 0 false 0 _ h hp
  refine ⟨_, rfl, ?_⟩
  refine ⟨_, _, _, cellL h 1 0 rfl rfl rfl, ?_⟩
  obtain ⟨ia_1, ja_1, hp⟩ := hp
  obtain ⟨a_1, ha_1⟩ := rdAddr (rowRd h 2 encL31 rfl) rfl ia_1 ja_1
  refine ⟨a_1, ha_1, ia_1, ja_1, ?_⟩
  obtain ⟨x_1, hx_1, hc⟩ := rdCell (rowRd h 2 encL31 rfl) ha_1 rfl ia_1 ja_1
  replace hp := hp x_1 hx_1
  refine ⟨_, hc 0 _ rfl, _, hc 1 _ rfl, _, hc 2 _ rfl, _, hc 3 _ rfl, ?_⟩
  refine ⟨_, rfl, ?_⟩
  refine storeL (ys := [(Value.int .i64 1), (Value.int .u32 x_1.1), (Value.int .i64 x_1.2.1), (Value.int .i64 x_1.2.2.1), (Value.bool x_1.2.2.2), (Value.int .i64 (IntKind.wrap .i64 (now + 10)))]) h 1 2 rfl rfl rfl sz35 rfl rfl ?_
  intro w h
  dsimp only [setH, setVs, setV] at h
  refine ⟨_, rfl, ?_⟩
  refine ⟨_, _, _, cellL h 1 0 rfl rfl rfl, ?_⟩
  obtain ⟨ia_2, ja_2, hp⟩ := hp
  obtain ⟨a_2, ha_2⟩ := rdAddr (rowRd h 2 encL31 rfl) rfl ia_2 ja_2
  refine ⟨a_2, ha_2, ia_2, ja_2, ?_⟩
  obtain ⟨x_2, hx_2, hc⟩ := rdCell (rowRd h 2 encL31 rfl) ha_2 rfl ia_2 ja_2
  replace hp := hp x_2 hx_2
  refine ⟨_, hc 0 _ rfl, _, hc 1 _ rfl, _, hc 2 _ rfl, _, hc 3 _ rfl, ?_⟩
  refine storeL (ys := [(Value.int .u32 x_2.1), (Value.int .i64 x_2.2.1), (Value.int .i64 x_2.2.2.1), (Value.bool x_2.2.2.2)]) h 0 0 rfl rfl rfl sz31 rfl rfl ?_
  intro w h
  dsimp only [setH, setVs, setV] at h
  refine ⟨_, cellL h 0 0 rfl rfl rfl, _, cellL h 0 1 rfl rfl rfl, _, cellL h 0 2 rfl rfl rfl, _, cellL h 0 3 rfl rfl rfl, ?_⟩
  replace h := h.sel [1, 1] 1
  dsimp only [pickL, pickR, nthH, delH, dropH, List.cons_append, List.nil_append] at h
  exact hR x_2.1 x_2.2.1 x_2.2.2.1 x_2.2.2.2 true at__1 1 x_1.1 x_1.2.1 x_1.2.2.1 x_1.2.2.2 (IntKind.wrap .i64 (now + 10)) _ h hp

/-! (*embrasure/path.Walker).Start (11) -/
def path_Walker_Start_wp (ways : List (Int × Int × Int × Bool)) (at_ : Int) (s : Int) (s_1 : Int) (s_2 : Int) (s_3 : Int) (s_4 : Bool) (s_5 : Int) (now : Int) (K : Int → Int → Int → Bool → Bool → Int → Int → Int → Int → Int → Bool → Int → Prop) : Prop :=
  joinP1 (fun (t24 : Bool) => cond t24 (K 0 0 0 (false) false at_ s s_1 s_2 s_3 s_4 s_5) (path_Walker_try_wp ways at_ s s_1 s_2 s_3 s_4 s_5 now 0 (fun (r_1 : Int) (r_2 : Int) (r_3 : Int) (r_4 : Bool) (r_5 : Bool) (at__2 : Int) (s_12 : Int) (s_13 : Int) (s_14 : Int) (s_15 : Int) (s_16 : Bool) (s_17 : Int) => K r_1 r_2 r_3 r_4 r_5 at__2 s_12 s_13 s_14 s_15 s_16 s_17))) (fun (Q : Bool → Prop) => path_mayTime_wp now (fun (r : Bool) => cond (!r) (Q true) (cond ((s : Int) != 0) (Q ((s : Int) != 4)) (Q false))))
theorem path_Walker_Start_ok {b_1 : Nat} {p_1 : Option Addr} {c_1 : Nat} {ways : List (Int × Int × Int × Bool)} {at_ : Int} {s : Int} {s_1 : Int} {s_2 : Int} {s_3 : Int} {s_4 : Bool} {s_5 : Int} {now : Int} {FL : List HP} {w : World} {K : Int → Int → Int → Bool → Bool → Int → Int → Int → Int → Int → Bool → Int → Prop} {R : Value → World → Prop}
  (h : Mem (cel b_1 51 [(Value.slice p_1 ways.length c_1), (Value.int .i64 at_), (Value.int .i64 s), (Value.int .u32 s_1), (Value.int .i64 s_2), (Value.int .i64 s_3), (Value.bool s_4), (Value.int .i64 s_5)] :: row enc31 31 4 p_1 c_1 ways :: FL) w) (hp : path_Walker_Start_wp ways at_ s s_1 s_2 s_3 s_4 s_5 now K)
  (hR : ∀ (r : Int) (r_1 : Int) (r_2 : Int) (r_3 : Bool) (r_4 : Bool) (at__1 : Int) (s_6 : Int) (s_7 : Int) (s_8 : Int) (s_9 : Int) (s_10 : Bool) (s_11 : Int) (w : World), Mem (cel b_1 51 [(Value.slice p_1 ways.length c_1), (Value.int .i64 at__1), (Value.int .i64 s_6), (Value.int .u32 s_7), (Value.int .i64 s_8), (Value.int .i64 s_9), (Value.bool s_10), (Value.int .i64 s_11)] :: row enc31 31 4 p_1 c_1 ways :: FL) w → K r r_1 r_2 r_3 r_4 at__1 s_6 s_7 s_8 s_9 s_10 s_11 → R (Value.tuple #[(Value.agg #[(Value.int .u32 r), (Value.int .i64 r_1), (Value.int .i64 r_2), (Value.bool r_3)]), (Value.bool r_4)]) w) :
  CallV Try.prog 11 #[(Value.pointer (some (Addr.mk b_1 0 none))), (Value.int .i64 now)] w R := by
  refine path_Walker_Start_call ?_
  unfold path_Walker_Start
  unfold path_Walker_Start_wp at hp
  have cpp_1 := rowCap h 1 rfl
  refine newL (o := [(Value.int .u32 0), (Value.int .i64 0), (Value.int .i64 0), (Value.bool false)]) h ?_
  intro b_2 w h
  obtain ⟨Q, hq, hp⟩ := hp
  refine ⟨fun w0 now1 t4 t24 w => (some (Addr.mk b_1 0 none)) = w0 ∧ now = now1 ∧ (Addr.mk b_2 0 none) = t4 ∧ Q t24 ∧ Mem (cel b_2 31 [(Value.int .u32 0), (Value.int .i64 0), (Value.int .i64 0), (Value.bool false)] :: cel b_1 51 [(Value.slice p_1 ways.length c_1), (Value.int .i64 at_), (Value.int .i64 s), (Value.int .u32 s_1), (Value.int .i64 s_2), (Value.int .i64 s_3), (Value.bool s_4), (Value.int .i64 s_5)] :: row enc31 31 4 p_1 c_1 ways :: FL) w, ?_, ?_⟩
  · rintro w0 now1 t4 t24 w ⟨rfl, rfl, rfl, hp, h⟩
    replace hp := hq t24 hp
    unfold path_Walker_Start_j1
    refine cond_both hp (fun hp => ?_) (fun hp => ?_)
    · refine storeL (ys := [(Value.int .u32 0), (Value.int .i64 0), (Value.int .i64 0), (Value.bool false)]) h 0 0 rfl rfl rfl sz31 rfl rfl ?_
      intro w h
      dsimp only [setH, setVs, setV] at h
      refine ⟨_, cellL h 0 0 rfl rfl rfl, _, cellL h 0 1 rfl rfl rfl, _, cellL h 0 2 rfl rfl rfl, _, cellL h 0 3 rfl rfl rfl, ?_⟩
      replace h := h.sel [1, 1] 1
      dsimp only [pickL, pickR, nthH, delH, dropH, List.cons_append, List.nil_append] at h
      exact hR 0 0 0 (false) false at_ s s_1 s_2 s_3 s_4 s_5 _ h hp
    replace h := h.pick [1, 1]
    dsimp only [pickL, pickR, nthH, delH, dropH, List.cons_append, List.nil_append] at h
    refine path_Walker_try_ok h hp ?_
    intro r_1 r_2 r_3 r_4 r_5 at__2 s_12 s_13 s_14 s_15 s_16 s_17 w h hp
    have cpp_1 := rowCap h 1 rfl
    refine ⟨_, _, _, _, _, rfl, ?_⟩
    refine ⟨_, _, _, _, rfl, ?_⟩
    refine storeL (ys := [(Value.int .u32 r_1), (Value.int .i64 r_2), (Value.int .i64 r_3), (Value.bool r_4)]) h 2 0 rfl rfl rfl sz31 rfl rfl ?_
    intro w h
    dsimp only [setH, setVs, setV] at h
    refine ⟨_, cellL h 2 0 rfl rfl rfl, _, cellL h 2 1 rfl rfl rfl, _, cellL h 2 2 rfl rfl rfl, _, cellL h 2 3 rfl rfl rfl, ?_⟩
    replace h := h.sel [0, 0] 1
    dsimp only [pickL, pickR, nthH, delH, dropH, List.cons_append, List.nil_append] at h
    exact hR r_1 r_2 r_3 r_4 r_5 at__2 s_12 s_13 s_14 s_15 s_16 s_17 _ h hp
  clear hq
  refine path_mayTime_ok h hp ?_
  intro r w h hp
  refine ⟨_, rfl, ?_⟩
  refine cond_both hp (fun hp => ?_) (fun hp => ?_)
  · exact ⟨rfl, rfl, rfl, hp, h⟩
  refine ⟨_, rfl, ?_⟩
  refine ⟨_, cellL h 1 2 rfl rfl rfl, ?_⟩
  refine cond_both' hp (fun hp => ?_) (fun hp => ?_)
  · exact ⟨rfl, rfl, rfl, hp, h⟩
  refine ⟨_, rfl, ?_⟩
  refine ⟨_, cellL h 1 2 rfl rfl rfl, ?_⟩
  exact ⟨rfl, rfl, rfl, hp, h⟩

/-! (*embrasure/path.Walker).Tick (13) -/
def path_Walker_Tick_wp (ways : List (Int × Int × Int × Bool)) (at_ : Int) (s : Int) (s_1 : Int) (s_2 : Int) (s_3 : Int) (s_4 : Bool) (s_5 : Int) (now : Int) (K : Int → Int → Int → Bool → Bool → Int → Int → Int → Int → Int → Bool → Int → Prop) : Prop :=
  joinP1 (fun (t25 : Bool) => cond t25 (K 0 0 0 (false) false at_ s s_1 s_2 s_3 s_4 s_5) (path_Walker_try_wp ways at_ s s_1 s_2 s_3 s_4 s_5 now (IntKind.wrap .i64 (at_ + 1)) (fun (r_1 : Int) (r_2 : Int) (r_3 : Int) (r_4 : Bool) (r_5 : Bool) (at__2 : Int) (s_12 : Int) (s_13 : Int) (s_14 : Int) (s_15 : Int) (s_16 : Bool) (s_17 : Int) => K r_1 r_2 r_3 r_4 r_5 at__2 s_12 s_13 s_14 s_15 s_16 s_17))) (fun (Q : Bool → Prop) => path_mayTime_wp now (fun (r : Bool) => cond (!r) (Q true) (cond ((s : Int) != 1) (Q true) (Q (decide ((now : Int) < s_5))))))
theorem path_Walker_Tick_ok {b_1 : Nat} {p_1 : Option Addr} {c_1 : Nat} {ways : List (Int × Int × Int × Bool)} {at_ : Int} {s : Int} {s_1 : Int} {s_2 : Int} {s_3 : Int} {s_4 : Bool} {s_5 : Int} {now : Int} {FL : List HP} {w : World} {K : Int → Int → Int → Bool → Bool → Int → Int → Int → Int → Int → Bool → Int → Prop} {R : Value → World → Prop}
  (h : Mem (cel b_1 51 [(Value.slice p_1 ways.length c_1), (Value.int .i64 at_), (Value.int .i64 s), (Value.int .u32 s_1), (Value.int .i64 s_2), (Value.int .i64 s_3), (Value.bool s_4), (Value.int .i64 s_5)] :: row enc31 31 4 p_1 c_1 ways :: FL) w) (hp : path_Walker_Tick_wp ways at_ s s_1 s_2 s_3 s_4 s_5 now K)
  (hR : ∀ (r : Int) (r_1 : Int) (r_2 : Int) (r_3 : Bool) (r_4 : Bool) (at__1 : Int) (s_6 : Int) (s_7 : Int) (s_8 : Int) (s_9 : Int) (s_10 : Bool) (s_11 : Int) (w : World), Mem (cel b_1 51 [(Value.slice p_1 ways.length c_1), (Value.int .i64 at__1), (Value.int .i64 s_6), (Value.int .u32 s_7), (Value.int .i64 s_8), (Value.int .i64 s_9), (Value.bool s_10), (Value.int .i64 s_11)] :: row enc31 31 4 p_1 c_1 ways :: FL) w → K r r_1 r_2 r_3 r_4 at__1 s_6 s_7 s_8 s_9 s_10 s_11 → R (Value.tuple #[(Value.agg #[(Value.int .u32 r), (Value.int .i64 r_1), (Value.int .i64 r_2), (Value.bool r_3)]), (Value.bool r_4)]) w) :
  CallV Try.prog 13 #[(Value.pointer (some (Addr.mk b_1 0 none))), (Value.int .i64 now)] w R := by
  refine path_Walker_Tick_call ?_
  unfold path_Walker_Tick
  unfold path_Walker_Tick_wp at hp
  have cpp_1 := rowCap h 1 rfl
  refine newL (o := [(Value.int .u32 0), (Value.int .i64 0), (Value.int .i64 0), (Value.bool false)]) h ?_
  intro b_2 w h
  obtain ⟨Q, hq, hp⟩ := hp
  refine ⟨fun w0 now1 t4 t25 w => (some (Addr.mk b_1 0 none)) = w0 ∧ now = now1 ∧ (Addr.mk b_2 0 none) = t4 ∧ Q t25 ∧ Mem (cel b_2 31 [(Value.int .u32 0), (Value.int .i64 0), (Value.int .i64 0), (Value.bool false)] :: cel b_1 51 [(Value.slice p_1 ways.length c_1), (Value.int .i64 at_), (Value.int .i64 s), (Value.int .u32 s_1), (Value.int .i64 s_2), (Value.int .i64 s_3), (Value.bool s_4), (Value.int .i64 s_5)] :: row enc31 31 4 p_1 c_1 ways :: FL) w, ?_, ?_⟩
  · rintro w0 now1 t4 t25 w ⟨rfl, rfl, rfl, hp, h⟩
    replace hp := hq t25 hp
    unfold path_Walker_Tick_j1
    refine cond_both hp (fun hp => ?_) (fun hp => ?_)
    · refine storeL (ys := [(Value.int .u32 0), (Value.int .i64 0), (Value.int .i64 0), (Value.bool false)]) h 0 0 rfl rfl rfl sz31 rfl rfl ?_
      intro w h
      dsimp only [setH, setVs, setV] at h
      refine ⟨_, cellL h 0 0 rfl rfl rfl, _, cellL h 0 1 rfl rfl rfl, _, cellL h 0 2 rfl rfl rfl, _, cellL h 0 3 rfl rfl rfl, ?_⟩
      replace h := h.sel [1, 1] 1
      dsimp only [pickL, pickR, nthH, delH, dropH, List.cons_append, List.nil_append] at h
      exact hR 0 0 0 (false) false at_ s s_1 s_2 s_3 s_4 s_5 _ h hp
    refine ⟨_, rfl, ?_⟩
    refine ⟨_, cellL h 1 1 rfl rfl rfl, ?_⟩
    replace h := h.pick [1, 1]
    dsimp only [pickL, pickR, nthH, delH, dropH, List.cons_append, List.nil_append] at h
    refine path_Walker_try_ok h hp ?_
    intro r_1 r_2 r_3 r_4 r_5 at__2 s_12 s_13 s_14 s_15 s_16 s_17 w h hp
    have cpp_1 := rowCap h 1 rfl
    refine ⟨_, _, _, _, _, rfl, ?_⟩
    refine ⟨_, _, _, _, rfl, ?_⟩
    refine storeL (ys := [(Value.int .u32 r_1), (Value.int .i64 r_2), (Value.int .i64 r_3), (Value.bool r_4)]) h 2 0 rfl rfl rfl sz31 rfl rfl ?_
    intro w h
    dsimp only [setH, setVs, setV] at h
    refine ⟨_, cellL h 2 0 rfl rfl rfl, _, cellL h 2 1 rfl rfl rfl, _, cellL h 2 2 rfl rfl rfl, _, cellL h 2 3 rfl rfl rfl, ?_⟩
    replace h := h.sel [0, 0] 1
    dsimp only [pickL, pickR, nthH, delH, dropH, List.cons_append, List.nil_append] at h
    exact hR r_1 r_2 r_3 r_4 r_5 at__2 s_12 s_13 s_14 s_15 s_16 s_17 _ h hp
  clear hq
  refine path_mayTime_ok h hp ?_
  intro r w h hp
  refine ⟨_, rfl, ?_⟩
  refine cond_both hp (fun hp => ?_) (fun hp => ?_)
  · exact ⟨rfl, rfl, rfl, hp, h⟩
  refine ⟨_, rfl, ?_⟩
  refine ⟨_, cellL h 1 2 rfl rfl rfl, ?_⟩
  refine cond_both hp (fun hp => ?_) (fun hp => ?_)
  · exact ⟨rfl, rfl, rfl, hp, h⟩
  refine ⟨_, rfl, ?_⟩
  refine ⟨_, cellL h 1 7 rfl rfl rfl, ?_⟩
  exact ⟨rfl, rfl, rfl, hp, h⟩

/-! (*embrasure/path.Walker).Open (18) -/
def path_Walker_Open_wp (at_ : Int) (s : Int) (s_1 : Int) (s_2 : Int) (s_3 : Int) (s_4 : Bool) (s_5 : Int) (now : Int) (K : Bool → Int → Int → Prop) : Prop :=
  joinP1 (fun (t15 : Bool) => cond t15 (K false s s_5) (cond s_4 (K true 3 0) (K true 2 0))) (fun (Q : Bool → Prop) => path_mayTime_wp now (fun (r : Bool) => cond (!r) (Q true) (Q ((s : Int) != 1))))
theorem path_Walker_Open_ok {b_1 : Nat} {p_1 : Option Addr} {n_1 : Nat} {c_1 : Nat} {at_ : Int} {s : Int} {s_1 : Int} {s_2 : Int} {s_3 : Int} {s_4 : Bool} {s_5 : Int} {now : Int} {FL : List HP} {w : World} {K : Bool → Int → Int → Prop} {R : Value → World → Prop}
  (h : Mem (cel b_1 51 [(Value.slice p_1 n_1 c_1), (Value.int .i64 at_), (Value.int .i64 s), (Value.int .u32 s_1), (Value.int .i64 s_2), (Value.int .i64 s_3), (Value.bool s_4), (Value.int .i64 s_5)] :: FL) w) (hp : path_Walker_Open_wp at_ s s_1 s_2 s_3 s_4 s_5 now K)
  (hR : ∀ (r : Bool) (s_6 : Int) (s_7 : Int) (w : World), Mem (cel b_1 51 [(Value.slice p_1 n_1 c_1), (Value.int .i64 at_), (Value.int .i64 s_6), (Value.int .u32 s_1), (Value.int .i64 s_2), (Value.int .i64 s_3), (Value.bool s_4), (Value.int .i64 s_7)] :: FL) w → K r s_6 s_7 → R (Value.bool r) w) :
  CallV Try.prog 18 #[(Value.pointer (some (Addr.mk b_1 0 none))), (Value.int .i64 now)] w R := by
  refine path_Walker_Open_call ?_
  unfold path_Walker_Open
  unfold path_Walker_Open_wp at hp
  obtain ⟨Q, hq, hp⟩ := hp
  refine ⟨fun w0 t15 w => (some (Addr.mk b_1 0 none)) = w0 ∧ Q t15 ∧ Mem (cel b_1 51 [(Value.slice p_1 n_1 c_1), (Value.int .i64 at_), (Value.int .i64 s), (Value.int .u32 s_1), (Value.int .i64 s_2), (Value.int .i64 s_3), (Value.bool s_4), (Value.int .i64 s_5)] :: FL) w, ?_, ?_⟩
  · rintro w0 t15 w ⟨rfl, hp, h⟩
    replace hp := hq t15 hp
    unfold path_Walker_Open_j1
    refine cond_both hp (fun hp => ?_) (fun hp => ?_)
    · exact hR false s s_5 _ h hp
    refine ⟨_, rfl, ?_⟩
    refine storeL (ys := [(Value.int .i64 2)]) h 0 2 rfl rfl rfl sz3 rfl rfl ?_
    intro w h
    dsimp only [setH, setVs, setV] at h
    refine ⟨_, rfl, ?_⟩
    refine storeL (ys := [(Value.int .i64 0)]) h 0 7 rfl rfl rfl sz3 rfl rfl ?_
    intro w h
    dsimp only [setH, setVs, setV] at h
    refine ⟨_, rfl, ?_⟩
    refine ⟨_, cellL h 0 6 rfl rfl rfl, ?_⟩
    refine cond_both' hp (fun hp => ?_) (fun hp => ?_)
    · exact hR true 2 0 _ h hp
    refine ⟨_, rfl, ?_⟩
    refine storeL (ys := [(Value.int .i64 3)]) h 0 2 rfl rfl rfl sz3 rfl rfl ?_
    intro w h
    dsimp only [setH, setVs, setV] at h
    exact hR true 3 0 _ h hp
  clear hq
  refine path_mayTime_ok h hp ?_
  intro r w h hp
  refine ⟨_, rfl, ?_⟩
  refine cond_both hp (fun hp => ?_) (fun hp => ?_)
  · exact ⟨rfl, hp, h⟩
  refine ⟨_, rfl, ?_⟩
  refine ⟨_, cellL h 0 2 rfl rfl rfl, ?_⟩
  exact ⟨rfl, hp, h⟩

/-! (*embrasure/path.Walker).State (12) -/
def path_Walker_State_wp (at_ : Int) (s : Int) (s_1 : Int) (s_2 : Int) (s_3 : Int) (s_4 : Bool) (s_5 : Int) (K : Int → Int → Int → Int → Bool → Int → Prop) : Prop :=
  K s s_1 s_2 s_3 s_4 s_5
theorem path_Walker_State_ok {b_1 : Nat} {p_1 : Option Addr} {n_1 : Nat} {c_1 : Nat} {at_ : Int} {s : Int} {s_1 : Int} {s_2 : Int} {s_3 : Int} {s_4 : Bool} {s_5 : Int} {FL : List HP} {w : World} {K : Int → Int → Int → Int → Bool → Int → Prop} {R : Value → World → Prop}
  (h : Mem (cel b_1 51 [(Value.slice p_1 n_1 c_1), (Value.int .i64 at_), (Value.int .i64 s), (Value.int .u32 s_1), (Value.int .i64 s_2), (Value.int .i64 s_3), (Value.bool s_4), (Value.int .i64 s_5)] :: FL) w) (hp : path_Walker_State_wp at_ s s_1 s_2 s_3 s_4 s_5 K)
  (hR : ∀ (r : Int) (r_1 : Int) (r_2 : Int) (r_3 : Int) (r_4 : Bool) (r_5 : Int) (w : World), Mem (cel b_1 51 [(Value.slice p_1 n_1 c_1), (Value.int .i64 at_), (Value.int .i64 s), (Value.int .u32 s_1), (Value.int .i64 s_2), (Value.int .i64 s_3), (Value.bool s_4), (Value.int .i64 s_5)] :: FL) w → K r r_1 r_2 r_3 r_4 r_5 → R (Value.agg #[(Value.int .i64 r), (Value.int .u32 r_1), (Value.int .i64 r_2), (Value.int .i64 r_3), (Value.bool r_4), (Value.int .i64 r_5)]) w) :
  CallV Try.prog 12 #[(Value.pointer (some (Addr.mk b_1 0 none)))] w R := by
  refine path_Walker_State_call ?_
  unfold path_Walker_State
  unfold path_Walker_State_wp at hp
  refine newL (o := [(Value.int .i64 0), (Value.int .u32 0), (Value.int .i64 0), (Value.int .i64 0), (Value.bool false), (Value.int .i64 0)]) h ?_
  intro b_2 w h
  refine ⟨_, rfl, ?_⟩
  refine ⟨_, cellL h 1 2 rfl rfl rfl, _, cellL h 1 3 rfl rfl rfl, _, cellL h 1 4 rfl rfl rfl, _, cellL h 1 5 rfl rfl rfl, _, cellL h 1 6 rfl rfl rfl, _, cellL h 1 7 rfl rfl rfl, ?_⟩
  refine storeL (ys := [(Value.int .i64 s), (Value.int .u32 s_1), (Value.int .i64 s_2), (Value.int .i64 s_3), (Value.bool s_4), (Value.int .i64 s_5)]) h 0 0 rfl rfl rfl sz35 rfl rfl ?_
  intro w h
  dsimp only [setH, setVs, setV] at h
  refine ⟨_, cellL h 0 0 rfl rfl rfl, _, cellL h 0 1 rfl rfl rfl, _, cellL h 0 2 rfl rfl rfl, _, cellL h 0 3 rfl rfl rfl, _, cellL h 0 4 rfl rfl rfl, _, cellL h 0 5 rfl rfl rfl, ?_⟩
  replace h := h.sel [1] 1
  dsimp only [pickL, pickR, nthH, delH, dropH, List.cons_append, List.nil_append] at h
  exact hR s s_1 s_2 s_3 s_4 s_5 _ h hp

/-! (*embrasure/path.Walker).Punched (20) -/
def path_Walker_Punched_wp (at_ : Int) (s : Int) (s_1 : Int) (s_2 : Int) (s_3 : Int) (s_4 : Bool) (s_5 : Int) (now : Int) (by_Host : Int) (by_Port : Int) (K : Bool → Int → Int → Int → Int → Bool → Int → Prop) : Prop :=
  joinP1 (fun (t22 : Bool) => cond t22 (K false s s_1 s_2 s_3 s_4 s_5) (K true 2 by_Host by_Port 0 false 0)) (fun (Q : Bool → Prop) => path_mayTime_wp now (fun (r : Bool) => cond (!r) (Q true) (cond ((s : Int) != 3) (Q true) (addr_May_wp by_Host by_Port (fun (r_1 : Bool) => Q (!r_1))))))
theorem path_Walker_Punched_ok {b_1 : Nat} {p_1 : Option Addr} {n_1 : Nat} {c_1 : Nat} {at_ : Int} {s : Int} {s_1 : Int} {s_2 : Int} {s_3 : Int} {s_4 : Bool} {s_5 : Int} {now : Int} {by_Host : Int} {by_Port : Int} {FL : List HP} {w : World} {K : Bool → Int → Int → Int → Int → Bool → Int → Prop} {R : Value → World → Prop}
  (h : Mem (cel b_1 51 [(Value.slice p_1 n_1 c_1), (Value.int .i64 at_), (Value.int .i64 s), (Value.int .u32 s_1), (Value.int .i64 s_2), (Value.int .i64 s_3), (Value.bool s_4), (Value.int .i64 s_5)] :: FL) w) (hp : path_Walker_Punched_wp at_ s s_1 s_2 s_3 s_4 s_5 now by_Host by_Port K)
  (hR : ∀ (r : Bool) (s_6 : Int) (s_7 : Int) (s_8 : Int) (s_9 : Int) (s_10 : Bool) (s_11 : Int) (w : World), Mem (cel b_1 51 [(Value.slice p_1 n_1 c_1), (Value.int .i64 at_), (Value.int .i64 s_6), (Value.int .u32 s_7), (Value.int .i64 s_8), (Value.int .i64 s_9), (Value.bool s_10), (Value.int .i64 s_11)] :: FL) w → K r s_6 s_7 s_8 s_9 s_10 s_11 → R (Value.bool r) w) :
  CallV Try.prog 20 #[(Value.pointer (some (Addr.mk b_1 0 none))), (Value.int .i64 now), (Value.agg #[(Value.int .u32 by_Host), (Value.int .i64 by_Port)])] w R := by
  refine path_Walker_Punched_call ?_
  unfold path_Walker_Punched
  unfold path_Walker_Punched_wp at hp
  refine newL (o := [(Value.int .u32 by_Host), (Value.int .i64 by_Port)]) h ?_
  intro b_2 w h
  obtain ⟨Q, hq, hp⟩ := hp
  refine ⟨fun w0 by5 t22 w => (some (Addr.mk b_1 0 none)) = w0 ∧ (Addr.mk b_2 0 none) = by5 ∧ Q t22 ∧ Mem (cel b_2 29 [(Value.int .u32 by_Host), (Value.int .i64 by_Port)] :: cel b_1 51 [(Value.slice p_1 n_1 c_1), (Value.int .i64 at_), (Value.int .i64 s), (Value.int .u32 s_1), (Value.int .i64 s_2), (Value.int .i64 s_3), (Value.bool s_4), (Value.int .i64 s_5)] :: FL) w, ?_, ?_⟩
  · rintro w0 by5 t22 w ⟨rfl, rfl, hp, h⟩
    replace hp := hq t22 hp
    unfold path_Walker_Punched_j1
    refine cond_both hp (fun hp => ?_) (fun hp => ?_)
    · replace h := h.sel [1] 1
      dsimp only [pickL, pickR, nthH, delH, dropH, List.cons_append, List.nil_append] at h
      exact hR false s s_1 s_2 s_3 s_4 s_5 _ h hp
    refine ⟨_, cellL h 0 0 rfl rfl rfl, _, cellL h 0 1 rfl rfl rfl, ?_⟩
    refine ⟨_, rfl, ?_⟩
    refine storeL (ys := [(Value.int .i64 2), (Value.int .u32 by_Host), (Value.int .i64 by_Port), (Value.int .i64 0), (Value.bool false), (Value.int .i64 0)]) h 1 2 rfl rfl rfl sz35 rfl rfl ?_
    intro w h
    dsimp only [setH, setVs, setV] at h
    replace h := h.sel [1] 1
    dsimp only [pickL, pickR, nthH, delH, dropH, List.cons_append, List.nil_append] at h
    exact hR true 2 by_Host by_Port 0 false 0 _ h hp
  clear hq
  refine path_mayTime_ok h hp ?_
  intro r w h hp
  refine ⟨_, rfl, ?_⟩
  refine cond_both hp (fun hp => ?_) (fun hp => ?_)
  · exact ⟨rfl, rfl, hp, h⟩
  refine ⟨_, rfl, ?_⟩
  refine ⟨_, cellL h 1 2 rfl rfl rfl, ?_⟩
  refine cond_both hp (fun hp => ?_) (fun hp => ?_)
  · exact ⟨rfl, rfl, hp, h⟩
  refine ⟨_, cellL h 0 0 rfl rfl rfl, _, cellL h 0 1 rfl rfl rfl, ?_⟩
  refine addr_May_ok h hp ?_
  intro r_1 w h hp
  refine ⟨_, rfl, ?_⟩
  exact ⟨rfl, rfl, hp, h⟩

/-! embrasure/embrasurelaw29.awake (8) -/
def embrasurelaw29_awake_wp  (K : Bool → Prop) : Prop :=
  path_New_wp 1 [(7, 7, 3, true), (8, 8, 0, false)] (fun (ways : List (Int × Int × Int × Bool)) (at_ : Int) (s : Int) (s_1 : Int) (s_2 : Int) (s_3 : Int) (s_4 : Bool) (s_5 : Int) => path_Walker_Start_wp ways at_ s s_1 s_2 s_3 s_4 s_5 0 (fun (r : Int) (r_1 : Int) (r_2 : Int) (r_3 : Bool) (r_4 : Bool) (at__1 : Int) (s_6 : Int) (s_7 : Int) (s_8 : Int) (s_9 : Int) (s_10 : Bool) (s_11 : Int) => path_Walker_Tick_wp ways at__1 s_6 s_7 s_8 s_9 s_10 s_11 9 (fun (r_5 : Int) (r_6 : Int) (r_7 : Int) (r_8 : Bool) (r_9 : Bool) (at__2 : Int) (s_12 : Int) (s_13 : Int) (s_14 : Int) (s_15 : Int) (s_16 : Bool) (s_17 : Int) => path_Walker_Tick_wp ways at__2 s_12 s_13 s_14 s_15 s_16 s_17 10 (fun (r_10 : Int) (r_11 : Int) (r_12 : Int) (r_13 : Bool) (r_14 : Bool) (at__3 : Int) (s_18 : Int) (s_19 : Int) (s_20 : Int) (s_21 : Int) (s_22 : Bool) (s_23 : Int) => path_Walker_Open_wp at__3 s_18 s_19 s_20 s_21 s_22 s_23 11 (fun (r_15 : Bool) (s_24 : Int) (s_25 : Int) => cond r_4 (cond ((r : Int) == 8) (cond (!r_9) (cond r_14 (cond r_13 (cond r_15 (path_Walker_State_wp at__3 s_24 s_19 s_20 s_21 s_22 s_25 (fun (r_16 : Int) (r_17 : Int) (r_18 : Int) (r_19 : Int) (r_20 : Bool) (r_21 : Int) => cond ((r_16 : Int) == 3) (path_Walker_Punched_wp at__3 s_24 s_19 s_20 s_21 s_22 s_25 12 9 9 (fun (r_22 : Bool) (s_26 : Int) (s_27 : Int) (s_28 : Int) (s_29 : Int) (s_30 : Bool) (s_31 : Int) => cond r_22 (path_Walker_State_wp at__3 s_26 s_27 s_28 s_29 s_30 s_31 (fun (r_23 : Int) (r_24 : Int) (r_25 : Int) (r_26 : Int) (r_27 : Bool) (r_28 : Int) => K ((r_23 : Int) == 2))) (K false))) (K false))) (K false)) (K false)) (K false)) (K false)) (K false)) (K false))))))
theorem embrasurelaw29_awake_ok  {FL : List HP} {w : World} {K : Bool → Prop} {R : Value → World → Prop}
  (h : Mem (FL) w) (hp : embrasurelaw29_awake_wp  K)
  (hR : ∀ (r : Bool) (w : World), Mem (FL) w → K r → R (Value.bool r) w) :
  CallV Try.prog 8 #[] w R := by
  refine embrasurelaw29_awake_call ?_
  unfold embrasurelaw29_awake
  unfold embrasurelaw29_awake_wp at hp
  refine newL (o := [(Value.int .u32 7), (Value.int .i64 7), (Value.int .i64 3), (Value.bool true), (Value.int .u32 8), (Value.int .i64 8), (Value.int .i64 0), (Value.bool false)]) h ?_
  intro b_1 w h
  refine path_New_ok (FL := cel b_1 31 [(Value.int .u32 7), (Value.int .i64 7), (Value.int .i64 3), (Value.bool true), (Value.int .u32 8), (Value.int .i64 8), (Value.int .i64 0), (Value.bool false)] :: FL) (fun w h => (celRd h 0 encL31 rfl [(7, 7, 3, true), (8, 8, 0, false)] rfl)) rfl (Nat.le_refl _) h hp ?_
  rintro ways at_ s s_1 s_2 s_3 s_4 s_5 b_2 p_1 n_1 c_1 w rfl h hp
  have cpp_1 := rowCap h 1 rfl
  refine ⟨_, rfl, ?_⟩
  refine eqlPtrNil undP25 ?_
  refine ⟨_, rfl, ?_⟩
  refine cond_ff ?_
  refine path_Walker_Start_ok h hp ?_
  intro r r_1 r_2 r_3 r_4 at__1 s_6 s_7 s_8 s_9 s_10 s_11 w h hp
  have cpp_1 := rowCap h 1 rfl
  refine ⟨_, _, _, _, _, rfl, ?_⟩
  refine ⟨_, _, _, _, rfl, ?_⟩
  refine newL (o := [(Value.int .u32 0), (Value.int .i64 0), (Value.int .i64 0), (Value.bool false)]) h ?_
  intro b_3 w h
  refine storeL (ys := [(Value.int .u32 r), (Value.int .i64 r_1), (Value.int .i64 r_2), (Value.bool r_3)]) h 0 0 rfl rfl rfl sz31 rfl rfl ?_
  intro w h
  dsimp only [setH, setVs, setV] at h
  replace h := h.pick [1, 1]
  dsimp only [pickL, pickR, nthH, delH, dropH, List.cons_append, List.nil_append] at h
  refine path_Walker_Tick_ok h hp ?_
  intro r_5 r_6 r_7 r_8 r_9 at__2 s_12 s_13 s_14 s_15 s_16 s_17 w h hp
  have cpp_1 := rowCap h 1 rfl
  refine ⟨_, _, _, _, _, rfl, ?_⟩
  refine ⟨_, _, _, _, rfl, ?_⟩
  refine newL (o := [(Value.int .u32 0), (Value.int .i64 0), (Value.int .i64 0), (Value.bool false)]) h ?_
  intro b_4 w h
  refine storeL (ys := [(Value.int .u32 r_5), (Value.int .i64 r_6), (Value.int .i64 r_7), (Value.bool r_8)]) h 0 0 rfl rfl rfl sz31 rfl rfl ?_
  intro w h
  dsimp only [setH, setVs, setV] at h
  replace h := h.pick [1, 1]
  dsimp only [pickL, pickR, nthH, delH, dropH, List.cons_append, List.nil_append] at h
  refine path_Walker_Tick_ok h hp ?_
  intro r_10 r_11 r_12 r_13 r_14 at__3 s_18 s_19 s_20 s_21 s_22 s_23 w h hp
  have cpp_1 := rowCap h 1 rfl
  refine ⟨_, _, _, _, _, rfl, ?_⟩
  refine ⟨_, _, _, _, rfl, ?_⟩
  refine newL (o := [(Value.int .u32 0), (Value.int .i64 0), (Value.int .i64 0), (Value.bool false)]) h ?_
  intro b_5 w h
  refine storeL (ys := [(Value.int .u32 r_10), (Value.int .i64 r_11), (Value.int .i64 r_12), (Value.bool r_13)]) h 0 0 rfl rfl rfl sz31 rfl rfl ?_
  intro w h
  dsimp only [setH, setVs, setV] at h
  replace h := h.pick [1]
  dsimp only [pickL, pickR, nthH, delH, dropH, List.cons_append, List.nil_append] at h
  refine path_Walker_Open_ok h hp ?_
  intro r_15 s_24 s_25 w h hp
  refine ⟨_, rfl, ?_⟩
  refine cond_both' hp (fun hp => ?_) (fun hp => ?_)
  · replace h := h.sel [] 6
    dsimp only [pickL, pickR, nthH, delH, dropH, List.cons_append, List.nil_append] at h
    exact hR false _ h hp
  refine ⟨_, cellL h 4 0 rfl rfl rfl, ?_⟩
  refine cond_both' hp (fun hp => ?_) (fun hp => ?_)
  · replace h := h.sel [] 6
    dsimp only [pickL, pickR, nthH, delH, dropH, List.cons_append, List.nil_append] at h
    exact hR false _ h hp
  refine cond_both' hp (fun hp => ?_) (fun hp => ?_)
  · replace h := h.sel [] 6
    dsimp only [pickL, pickR, nthH, delH, dropH, List.cons_append, List.nil_append] at h
    exact hR false _ h hp
  refine cond_both' hp (fun hp => ?_) (fun hp => ?_)
  · replace h := h.sel [] 6
    dsimp only [pickL, pickR, nthH, delH, dropH, List.cons_append, List.nil_append] at h
    exact hR false _ h hp
  refine ⟨_, cellL h 1 3 rfl rfl rfl, ?_⟩
  refine cond_both' hp (fun hp => ?_) (fun hp => ?_)
  · replace h := h.sel [] 6
    dsimp only [pickL, pickR, nthH, delH, dropH, List.cons_append, List.nil_append] at h
    exact hR false _ h hp
  refine cond_both' hp (fun hp => ?_) (fun hp => ?_)
  · replace h := h.sel [] 6
    dsimp only [pickL, pickR, nthH, delH, dropH, List.cons_append, List.nil_append] at h
    exact hR false _ h hp
  refine path_Walker_State_ok h hp ?_
  intro r_16 r_17 r_18 r_19 r_20 r_21 w h hp
  refine ⟨_, _, _, _, _, _, rfl, ?_⟩
  refine cond_both' hp (fun hp => ?_) (fun hp => ?_)
  · replace h := h.sel [] 6
    dsimp only [pickL, pickR, nthH, delH, dropH, List.cons_append, List.nil_append] at h
    exact hR false _ h hp
  refine path_Walker_Punched_ok h hp ?_
  intro r_22 s_26 s_27 s_28 s_29 s_30 s_31 w h hp
  refine ⟨_, rfl, ?_⟩
  refine cond_both' hp (fun hp => ?_) (fun hp => ?_)
  · replace h := h.sel [] 6
    dsimp only [pickL, pickR, nthH, delH, dropH, List.cons_append, List.nil_append] at h
    exact hR false _ h hp
  refine path_Walker_State_ok h hp ?_
  intro r_23 r_24 r_25 r_26 r_27 r_28 w h hp
  refine ⟨_, _, _, _, _, _, rfl, ?_⟩
  replace h := h.sel [] 6
  dsimp only [pickL, pickR, nthH, delH, dropH, List.cons_append, List.nil_append] at h
  exact hR ((r_23 : Int) == 2) _ h hp

/-! embrasure/embrasureref03.May (36) -/
def embrasureref03_May_wp (a_Host : Int) (a_Port : Int) (K : Bool → Prop) : Prop :=
  cond (decide ((a_Host : Int) > 0)) (cond (decide ((a_Port : Int) > 0)) (K (decide ((a_Port : Int) < 65536))) (K false)) (K false)
theorem embrasureref03_May_ok {a_Host : Int} {a_Port : Int} {FL : List HP} {w : World} {K : Bool → Prop} {R : Value → World → Prop}
  (h : Mem (FL) w) (hp : embrasureref03_May_wp a_Host a_Port K)
  (hR : ∀ (r : Bool) (w : World), Mem (FL) w → K r → R (Value.bool r) w) :
  CallV Try.prog 36 #[(Value.agg #[(Value.int .u32 a_Host), (Value.int .i64 a_Port)])] w R := by
  refine embrasureref03_May_call ?_
  unfold embrasureref03_May
  unfold embrasureref03_May_wp at hp
  refine newL (o := [(Value.int .u32 a_Host), (Value.int .i64 a_Port)]) h ?_
  intro b_1 w h
  refine ⟨_, cellL h 0 0 rfl rfl rfl, ?_⟩
  refine cond_both' hp (fun hp => ?_) (fun hp => ?_)
  · replace h := h.sel [] 1
    dsimp only [pickL, pickR, nthH, delH, dropH, List.cons_append, List.nil_append] at h
    exact hR false _ h hp
  refine ⟨_, cellL h 0 1 rfl rfl rfl, ?_⟩
  refine cond_both' hp (fun hp => ?_) (fun hp => ?_)
  · replace h := h.sel [] 1
    dsimp only [pickL, pickR, nthH, delH, dropH, List.cons_append, List.nil_append] at h
    exact hR false _ h hp
  refine ⟨_, cellL h 0 1 rfl rfl rfl, ?_⟩
  replace h := h.sel [] 1
  dsimp only [pickL, pickR, nthH, delH, dropH, List.cons_append, List.nil_append] at h
  exact hR (decide ((a_Port : Int) < 65536)) _ h hp

/-! embrasure/embrasureref03.Place (37) -/
def embrasureref03_Place_wp (p_Addr : Int) (p_Addr_1 : Int) (p_ID : Int) (p_Via : Bool) (K : Bool → Prop) : Prop :=
  joinP1 (fun (t16 : Bool) => cond t16 (K false) (cond (!p_Via) (K true) (K (decide ((p_ID : Int) > 0))))) (fun (Q : Bool → Prop) => embrasureref03_May_wp p_Addr p_Addr_1 (fun (r : Bool) => cond (!r) (Q true) (cond (decide ((p_ID : Int) < 0)) (Q true) (Q (decide ((p_ID : Int) > 2147483647))))))
theorem embrasureref03_Place_ok {p_Addr : Int} {p_Addr_1 : Int} {p_ID : Int} {p_Via : Bool} {FL : List HP} {w : World} {K : Bool → Prop} {R : Value → World → Prop}
  (h : Mem (FL) w) (hp : embrasureref03_Place_wp p_Addr p_Addr_1 p_ID p_Via K)
  (hR : ∀ (r : Bool) (w : World), Mem (FL) w → K r → R (Value.bool r) w) :
  CallV Try.prog 37 #[(Value.agg #[(Value.int .u32 p_Addr), (Value.int .i64 p_Addr_1), (Value.int .i64 p_ID), (Value.bool p_Via)])] w R := by
  refine embrasureref03_Place_call ?_
  unfold embrasureref03_Place
  unfold embrasureref03_Place_wp at hp
  refine newL (o := [(Value.int .u32 p_Addr), (Value.int .i64 p_Addr_1), (Value.int .i64 p_ID), (Value.bool p_Via)]) h ?_
  intro b_1 w h
  obtain ⟨Q, hq, hp⟩ := hp
  refine ⟨fun p1 t16 w => (Addr.mk b_1 0 none) = p1 ∧ Q t16 ∧ Mem (cel b_1 31 [(Value.int .u32 p_Addr), (Value.int .i64 p_Addr_1), (Value.int .i64 p_ID), (Value.bool p_Via)] :: FL) w, ?_, ?_⟩
  · rintro p1 t16 w ⟨rfl, hp, h⟩
    replace hp := hq t16 hp
    unfold embrasureref03_Place_j1
    refine cond_both hp (fun hp => ?_) (fun hp => ?_)
    · replace h := h.sel [] 1
      dsimp only [pickL, pickR, nthH, delH, dropH, List.cons_append, List.nil_append] at h
      exact hR false _ h hp
    refine ⟨_, cellL h 0 3 rfl rfl rfl, ?_⟩
    refine cond_both hp (fun hp => ?_) (fun hp => ?_)
    · replace h := h.sel [] 1
      dsimp only [pickL, pickR, nthH, delH, dropH, List.cons_append, List.nil_append] at h
      exact hR true _ h hp
    refine ⟨_, cellL h 0 2 rfl rfl rfl, ?_⟩
    replace h := h.sel [] 1
    dsimp only [pickL, pickR, nthH, delH, dropH, List.cons_append, List.nil_append] at h
    exact hR (decide ((p_ID : Int) > 0)) _ h hp
  clear hq
  refine ⟨_, cellL h 0 0 rfl rfl rfl, _, cellL h 0 1 rfl rfl rfl, ?_⟩
  refine embrasureref03_May_ok h hp ?_
  intro r w h hp
  refine ⟨_, rfl, ?_⟩
  refine cond_both hp (fun hp => ?_) (fun hp => ?_)
  · exact ⟨rfl, hp, h⟩
  refine ⟨_, cellL h 0 2 rfl rfl rfl, ?_⟩
  refine cond_both hp (fun hp => ?_) (fun hp => ?_)
  · exact ⟨rfl, hp, h⟩
  refine ⟨_, cellL h 0 2 rfl rfl rfl, ?_⟩
  exact ⟨rfl, hp, h⟩

/-! embrasure/embrasureref21.Inside (38) -/
def embrasureref21_Inside_wp (h_1 : Int) (K : Bool → Prop) : Prop :=
  cond (decide ((h_1 : Int) ≥ 167772160)) (cond (decide ((h_1 : Int) ≤ 184549375)) (K true) (cond (decide ((h_1 : Int) ≥ 2886729728)) (cond (decide ((h_1 : Int) ≤ 2887778303)) (K true) (cond (decide ((h_1 : Int) ≥ 3232235520)) (K (decide ((h_1 : Int) ≤ 3232301055))) (K false))) (cond (decide ((h_1 : Int) ≥ 3232235520)) (K (decide ((h_1 : Int) ≤ 3232301055))) (K false)))) (cond (decide ((h_1 : Int) ≥ 2886729728)) (cond (decide ((h_1 : Int) ≤ 2887778303)) (K true) (cond (decide ((h_1 : Int) ≥ 3232235520)) (K (decide ((h_1 : Int) ≤ 3232301055))) (K false))) (cond (decide ((h_1 : Int) ≥ 3232235520)) (K (decide ((h_1 : Int) ≤ 3232301055))) (K false)))
theorem embrasureref21_Inside_ok {h_1 : Int} {FL : List HP} {w : World} {K : Bool → Prop} {R : Value → World → Prop}
  (h : Mem (FL) w) (hp : embrasureref21_Inside_wp h_1 K)
  (hR : ∀ (r : Bool) (w : World), Mem (FL) w → K r → R (Value.bool r) w) :
  CallV Try.prog 38 #[(Value.int .u32 h_1)] w R := by
  refine embrasureref21_Inside_call ?_
  unfold embrasureref21_Inside
  unfold embrasureref21_Inside_wp at hp
  refine cond_both' hp (fun hp => ?_) (fun hp => ?_)
  · refine cond_both' hp (fun hp => ?_) (fun hp => ?_)
    · refine cond_both hp (fun hp => ?_) (fun hp => ?_)
      · exact hR (decide ((h_1 : Int) ≤ 3232301055)) _ h hp
      exact hR false _ h hp
    refine cond_both hp (fun hp => ?_) (fun hp => ?_)
    · exact hR true _ h hp
    refine cond_both hp (fun hp => ?_) (fun hp => ?_)
    · exact hR (decide ((h_1 : Int) ≤ 3232301055)) _ h hp
    exact hR false _ h hp
  refine cond_both hp (fun hp => ?_) (fun hp => ?_)
  · exact hR true _ h hp
  refine cond_both' hp (fun hp => ?_) (fun hp => ?_)
  · refine cond_both hp (fun hp => ?_) (fun hp => ?_)
    · exact hR (decide ((h_1 : Int) ≤ 3232301055)) _ h hp
    exact hR false _ h hp
  refine cond_both hp (fun hp => ?_) (fun hp => ?_)
  · exact hR true _ h hp
  refine cond_both hp (fun hp => ?_) (fun hp => ?_)
  · exact hR (decide ((h_1 : Int) ≤ 3232301055)) _ h hp
  exact hR false _ h hp

/-! embrasure/embrasureref29.kind (24) -/
def embrasureref29_kind_wp (own : Int) (p_Addr : Int) (p_Addr_1 : Int) (p_ID : Int) (p_Via : Bool) (K : Int → Prop) : Prop :=
  embrasureref03_Place_wp p_Addr p_Addr_1 p_ID p_Via (fun (r : Bool) => cond (!r) (K 0) (cond p_Via (K 3) (embrasureref21_Inside_wp p_Addr (fun (r_1 : Bool) => cond (!r_1) (K 1) (cond (((IntKind.wrap .u32 (Int.tdiv p_Addr 256)) : Int) == (IntKind.wrap .u32 (Int.tdiv own 256))) (K 2) (K 0))))))
theorem embrasureref29_kind_ok {own : Int} {p_Addr : Int} {p_Addr_1 : Int} {p_ID : Int} {p_Via : Bool} {FL : List HP} {w : World} {K : Int → Prop} {R : Value → World → Prop}
  (h : Mem (FL) w) (hp : embrasureref29_kind_wp own p_Addr p_Addr_1 p_ID p_Via K)
  (hR : ∀ (r : Int) (w : World), Mem (FL) w → K r → R (Value.int .i64 r) w) :
  CallV Try.prog 24 #[(Value.int .u32 own), (Value.agg #[(Value.int .u32 p_Addr), (Value.int .i64 p_Addr_1), (Value.int .i64 p_ID), (Value.bool p_Via)])] w R := by
  refine embrasureref29_kind_call ?_
  unfold embrasureref29_kind
  unfold embrasureref29_kind_wp at hp
  refine newL (o := [(Value.int .u32 p_Addr), (Value.int .i64 p_Addr_1), (Value.int .i64 p_ID), (Value.bool p_Via)]) h ?_
  intro b_1 w h
  refine ⟨_, cellL h 0 0 rfl rfl rfl, _, cellL h 0 1 rfl rfl rfl, _, cellL h 0 2 rfl rfl rfl, _, cellL h 0 3 rfl rfl rfl, ?_⟩
  refine embrasureref03_Place_ok h hp ?_
  intro r w h hp
  refine ⟨_, rfl, ?_⟩
  refine cond_both hp (fun hp => ?_) (fun hp => ?_)
  · replace h := h.sel [] 1
    dsimp only [pickL, pickR, nthH, delH, dropH, List.cons_append, List.nil_append] at h
    exact hR 0 _ h hp
  refine ⟨_, cellL h 0 3 rfl rfl rfl, ?_⟩
  refine cond_both hp (fun hp => ?_) (fun hp => ?_)
  · replace h := h.sel [] 1
    dsimp only [pickL, pickR, nthH, delH, dropH, List.cons_append, List.nil_append] at h
    exact hR 3 _ h hp
  refine ⟨_, cellL h 0 0 rfl rfl rfl, ?_⟩
  refine embrasureref21_Inside_ok h hp ?_
  intro r_1 w h hp
  refine ⟨_, rfl, ?_⟩
  refine cond_both hp (fun hp => ?_) (fun hp => ?_)
  · replace h := h.sel [] 1
    dsimp only [pickL, pickR, nthH, delH, dropH, List.cons_append, List.nil_append] at h
    exact hR 1 _ h hp
  refine ⟨_, cellL h 0 0 rfl rfl rfl, ?_⟩
  refine ⟨by decide, ?_⟩
  refine ⟨by decide, ?_⟩
  refine cond_both hp (fun hp => ?_) (fun hp => ?_)
  · replace h := h.sel [] 1
    dsimp only [pickL, pickR, nthH, delH, dropH, List.cons_append, List.nil_append] at h
    exact hR 2 _ h hp
  replace h := h.sel [] 1
  dsimp only [pickL, pickR, nthH, delH, dropH, List.cons_append, List.nil_append] at h
  exact hR 0 _ h hp

/-! embrasure/embrasureref29.Ways (10) -/
def embrasureref29_Ways_wp (own : Int) (l_1 : List (Int × Int × Int × Bool)) (K : List (Int × Int × Int × Bool) → Prop) : Prop :=
  ∃ (I : Nat → List (Int × Int × Int × Bool) → Int → Prop), (∃ (n_12 : Nat), I n_12 ([] : List (Int × Int × Int × Bool)) 1) ∧ ∀ (n_2 : Nat) (out : List (Int × Int × Int × Bool)) (k6 : Int), I n_2 out k6 → (cond (decide ((k6 : Int) ≤ 3)) (∃ (I_1 : Nat → List (Int × Int × Int × Bool) → Int → Prop), (∃ (n_11 : Nat), I_1 n_11 out 0) ∧ ∀ (n_3 : Nat) (out_1 : List (Int × Int × Int × Bool)) (i7 : Int), I_1 n_3 out_1 i7 → (cond (decide ((i7 : Int) < ((l_1.length : Nat) : Int))) (joinP1 (fun (fresh8 : Bool) => joinP1 (fun (fresh8_1 : Bool) => cond fresh8_1 (0 ≤ (i7 : Int) ∧ (i7 : Int) < ((l_1.length : Nat) : Int) ∧ (∀ (x_4 : Int × Int × Int × Bool), l_1[Int.toNat i7]? = some x_4 → ((out_1.length + [x_4].length) * 32 ≤ 140737488355328 ∧ (∃ (n_8 : Nat), n_8 < n_3 ∧ I_1 n_8 (out_1 ++ [x_4]) (IntKind.wrap .i64 (i7 + 1)))))) (∃ (n_9 : Nat), n_9 < n_3 ∧ I_1 n_9 out_1 (IntKind.wrap .i64 (i7 + 1)))) (fun (Q_1 : Bool → Prop) => ∃ (I_2 : Nat → Bool → Int → Prop), (∃ (n_7 : Nat), I_2 n_7 fresh8 0) ∧ ∀ (n_4 : Nat) (fresh8_2 : Bool) (j9 : Int), I_2 n_4 fresh8_2 j9 → (cond (decide ((j9 : Int) < ((out_1.length : Nat) : Int))) (cond fresh8_2 (0 ≤ (j9 : Int) ∧ (j9 : Int) < ((out_1.length : Nat) : Int) ∧ (∀ (x_2 : Int × Int × Int × Bool), out_1[Int.toNat j9]? = some x_2 → (0 ≤ (i7 : Int) ∧ (i7 : Int) < ((l_1.length : Nat) : Int) ∧ (∀ (x_3 : Int × Int × Int × Bool), l_1[Int.toNat i7]? = some x_3 → (∃ (n_5 : Nat), n_5 < n_4 ∧ I_2 n_5 (!((((x_2.1 : Int) == x_3.1) && (((x_2.2.1 : Int) == x_3.2.1) && true)) && (((x_2.2.2.1 : Int) == x_3.2.2.1) && ((x_2.2.2.2 == x_3.2.2.2) && true)))) (IntKind.wrap .i64 (j9 + 1))))))) (∃ (n_6 : Nat), n_6 < n_4 ∧ I_2 n_6 false (IntKind.wrap .i64 (j9 + 1)))) (Q_1 fresh8_2)))) (fun (Q : Bool → Prop) => 0 ≤ (i7 : Int) ∧ (i7 : Int) < ((l_1.length : Nat) : Int) ∧ (∀ (x_1 : Int × Int × Int × Bool), l_1[Int.toNat i7]? = some x_1 → (embrasureref29_kind_wp own x_1.1 x_1.2.1 x_1.2.2.1 x_1.2.2.2 (fun (r : Int) => cond ((r : Int) == k6) (Q (decide ((((out_1.length : Nat) : Int) : Int) < 8))) (Q false)))))) (∃ (n_10 : Nat), n_10 < n_2 ∧ I n_10 out_1 (IntKind.wrap .i64 (k6 + 1))))) (K out))
theorem embrasureref29_Ways_ok {p_1 : Option Addr} {n_1 : Nat} {c_1 : Nat} {own : Int} {l_1 : List (Int × Int × Int × Bool)} {FL : List HP} {w : World} {K : List (Int × Int × Int × Bool) → Prop} {R : Value → World → Prop}
  (hF_l_1 : ∀ w, Mem FL w → Rd w 4 p_1 enc31 l_1) (hl_l_1 : n_1 = l_1.length) (hc_l_1 : n_1 ≤ c_1)
  (h : Mem (FL) w) (hp : embrasureref29_Ways_wp own l_1 K)
  (hR : ∀ (rs : List (Int × Int × Int × Bool)) (p_2 : Option Addr) (n_2 : Nat) (c_2 : Nat) (w : World), n_2 = rs.length → Mem (row enc31 31 4 p_2 c_2 rs :: FL) w → K rs → R (Value.slice p_2 n_2 c_2) w) :
  CallV Try.prog 10 #[(Value.int .u32 own), (Value.slice p_1 n_1 c_1)] w R := by
  refine embrasureref29_Ways_call ?_
  unfold embrasureref29_Ways
  unfold embrasureref29_Ways_wp at hp
  subst hl_l_1
  obtain ⟨I, ⟨n_12, h0⟩, hq⟩ := hp
  replace h := rowNil enc31 31 4 h
  refine ⟨fun n_2 own0 l1p l1l l1c out5p out5l out5c k6 w => ∃ (out : List (Int × Int × Int × Bool)), own = own0 ∧ p_1 = l1p ∧ l_1.length = l1l ∧ c_1 = l1c ∧ out5l = out.length ∧ I n_2 out k6 ∧ Mem (row enc31 31 4 out5p out5c out :: FL) w, ⟨n_12, ([] : List (Int × Int × Int × Bool)), rfl, rfl, rfl, rfl, rfl, h0, h⟩, ?_⟩
  clear h0 h
  rintro n_2 own0 l1p l1l l1c out5p out5l out5c k6 w ⟨out, rfl, rfl, rfl, rfl, rfl, hp, h⟩
  replace hp := hq n_2 out k6 hp
  clear hq
  unfold embrasureref29_Ways_l1
  have cpout5p := rowCap h 0 rfl
  refine cond_both' hp (fun hp => ?_) (fun hp => ?_)
  · exact hR out out5p out.length out5c _ rfl h hp
  obtain ⟨I_1, ⟨n_11, h0⟩, hq⟩ := hp
  refine ⟨fun n_3 own0_1 l1_1p l1_1l l1_1c out5_1p out5_1l out5_1c k6_1 i7 w => ∃ (out_1 : List (Int × Int × Int × Bool)), own = own0_1 ∧ p_1 = l1_1p ∧ l_1.length = l1_1l ∧ c_1 = l1_1c ∧ k6 = k6_1 ∧ out5_1l = out_1.length ∧ I_1 n_3 out_1 i7 ∧ Mem (row enc31 31 4 out5_1p out5_1c out_1 :: FL) w, ⟨n_11, out, rfl, rfl, rfl, rfl, rfl, rfl, h0, h⟩, ?_⟩
  clear h0 h
  rintro n_3 own0_1 l1_1p l1_1l l1_1c out5_1p out5_1l out5_1c k6_1 i7 w ⟨out_1, rfl, rfl, rfl, rfl, rfl, rfl, hp, h⟩
  replace hp := hq n_3 out_1 i7 hp
  clear hq
  unfold embrasureref29_Ways_l2
  have cpout5_1p := rowCap h 0 rfl
  refine cond_both' hp (fun hp => ?_) (fun hp => ?_)
  · obtain ⟨n_10, hn, hp⟩ := hp
    exact ⟨n_10, hn, out_1, rfl, rfl, rfl, rfl, rfl, hp, h⟩
  obtain ⟨Q, hq, hp⟩ := hp
  refine ⟨fun own0_2 l1_2p l1_2l l1_2c out5_2p out5_2l out5_2c k6_2 i7_1 fresh8 w => own = own0_2 ∧ p_1 = l1_2p ∧ l_1.length = l1_2l ∧ c_1 = l1_2c ∧ out5_1p = out5_2p ∧ out_1.length = out5_2l ∧ out5_1c = out5_2c ∧ k6 = k6_2 ∧ i7 = i7_1 ∧ Q fresh8 ∧ Mem (row enc31 31 4 out5_1p out5_1c out_1 :: FL) w, ?_, ?_⟩
  · rintro own0_2 l1_2p l1_2l l1_2c out5_2p out5_2l out5_2c k6_2 i7_1 fresh8 w ⟨rfl, rfl, rfl, rfl, rfl, rfl, rfl, rfl, rfl, hp, h⟩
    replace hp := hq fresh8 hp
    unfold embrasureref29_Ways_j3
    obtain ⟨Q_1, hq, hp⟩ := hp
    refine ⟨fun own0_3 l1_3p l1_3l l1_3c out5_3p out5_3l out5_3c k6_3 i7_2 fresh8_1 w => own = own0_3 ∧ p_1 = l1_3p ∧ l_1.length = l1_3l ∧ c_1 = l1_3c ∧ out5_1p = out5_3p ∧ out_1.length = out5_3l ∧ out5_1c = out5_3c ∧ k6 = k6_3 ∧ i7 = i7_2 ∧ Q_1 fresh8_1 ∧ Mem (row enc31 31 4 out5_1p out5_1c out_1 :: FL) w, ?_, ?_⟩
    · rintro own0_3 l1_3p l1_3l l1_3c out5_3p out5_3l out5_3c k6_3 i7_2 fresh8_1 w ⟨rfl, rfl, rfl, rfl, rfl, rfl, rfl, rfl, rfl, hp, h⟩
      replace hp := hq fresh8_1 hp
      unfold embrasureref29_Ways_j4
      refine cond_both' hp (fun hp => ?_) (fun hp => ?_)
      · obtain ⟨n_9, hn, hp⟩ := hp
        exact ⟨n_9, hn, out_1, rfl, rfl, rfl, rfl, rfl, rfl, hp, h⟩
      obtain ⟨ia_4, ja_4, hp⟩ := hp
      obtain ⟨a_4, ha_4⟩ := rdAddr (hF_l_1 _ (h.drop 1)) rfl ia_4 ja_4
      refine ⟨a_4, ha_4, ia_4, ja_4, ?_⟩
      obtain ⟨x_4, hx_4, hc⟩ := rdCell (hF_l_1 _ (h.drop 1)) ha_4 rfl ia_4 ja_4
      replace hp := hp x_4 hx_4
      refine ⟨_, hc 0 _ rfl, _, hc 1 _ rfl, _, hc 2 _ rfl, _, hc 3 _ rfl, ?_⟩
      refine newL (o := [(Value.int .u32 x_4.1), (Value.int .i64 x_4.2.1), (Value.int .i64 x_4.2.2.1), (Value.bool x_4.2.2.2)]) h ?_
      intro b_1 w h
      have sr := (celRd h 0 encL31 rfl [x_4] rfl)
      obtain ⟨hb, hp⟩ := hp
      refine appendL slt23 und23 encL31 encO31 h 1 rfl rfl sr rfl hb ?_
      intro p_2 c_2 w h
      dsimp only [setH, setVs, setV] at h
      have cpp_2 := rowCap h 1 rfl
      refine ⟨_, _, _, rfl, ?_⟩
      replace h := h.sel [1] 1
      dsimp only [pickL, pickR, nthH, delH, dropH, List.cons_append, List.nil_append] at h
      obtain ⟨n_8, hn, hp⟩ := hp
      exact ⟨n_8, hn, (out_1 ++ [x_4]), rfl, rfl, rfl, rfl, rfl, rfl, hp, h⟩
    clear hq
    obtain ⟨I_2, ⟨n_7, h0⟩, hq⟩ := hp
    refine ⟨fun n_4 own0_4 l1_4p l1_4l l1_4c out5_4p out5_4l out5_4c k6_4 i7_3 fresh8_2 j9 w => own = own0_4 ∧ p_1 = l1_4p ∧ l_1.length = l1_4l ∧ c_1 = l1_4c ∧ out5_1p = out5_4p ∧ out_1.length = out5_4l ∧ out5_1c = out5_4c ∧ k6 = k6_4 ∧ i7 = i7_3 ∧ I_2 n_4 fresh8_2 j9 ∧ Mem (row enc31 31 4 out5_1p out5_1c out_1 :: FL) w, ⟨n_7, rfl, rfl, rfl, rfl, rfl, rfl, rfl, rfl, rfl, h0, h⟩, ?_⟩
    clear h0 h
    rintro n_4 own0_4 l1_4p l1_4l l1_4c out5_4p out5_4l out5_4c k6_4 i7_3 fresh8_2 j9 w ⟨rfl, rfl, rfl, rfl, rfl, rfl, rfl, rfl, rfl, hp, h⟩
    replace hp := hq n_4 fresh8_2 j9 hp
    clear hq
    unfold embrasureref29_Ways_l5
    refine cond_both' hp (fun hp => ?_) (fun hp => ?_)
    · exact ⟨rfl, rfl, rfl, rfl, rfl, rfl, rfl, rfl, rfl, hp, h⟩
    replace h := h.drew
    refine cond_both' hp (fun hp => ?_) (fun hp => ?_)
    · obtain ⟨n_6, hn, hp⟩ := hp
      exact ⟨n_6, hn, rfl, rfl, rfl, rfl, rfl, rfl, rfl, rfl, rfl, hp, h⟩
    obtain ⟨ia_2, ja_2, hp⟩ := hp
    obtain ⟨a_2, ha_2⟩ := rdAddr (rowRd h 0 encL31 rfl) rfl ia_2 ja_2
    refine ⟨a_2, ha_2, ia_2, ja_2, ?_⟩
    obtain ⟨x_2, hx_2, hc⟩ := rdCell (rowRd h 0 encL31 rfl) ha_2 rfl ia_2 ja_2
    replace hp := hp x_2 hx_2
    refine ⟨_, hc 0 _ rfl, _, hc 1 _ rfl, _, hc 2 _ rfl, _, hc 3 _ rfl, ?_⟩
    obtain ⟨ia_3, ja_3, hp⟩ := hp
    obtain ⟨a_3, ha_3⟩ := rdAddr (hF_l_1 _ (h.drop 1)) rfl ia_3 ja_3
    refine ⟨a_3, ha_3, ia_3, ja_3, ?_⟩
    obtain ⟨x_3, hx_3, hc⟩ := rdCell (hF_l_1 _ (h.drop 1)) ha_3 rfl ia_3 ja_3
    replace hp := hp x_3 hx_3
    refine ⟨_, hc 0 _ rfl, _, hc 1 _ rfl, _, hc 2 _ rfl, _, hc 3 _ rfl, ?_⟩
    refine neqAgg (xs := [(Value.int .u32 x_2.1), (Value.int .i64 x_2.2.1), (Value.int .i64 x_2.2.2.1), (Value.bool x_2.2.2.2)]) (ys := [(Value.int .u32 x_3.1), (Value.int .i64 x_3.2.1), (Value.int .i64 x_3.2.2.1), (Value.bool x_3.2.2.2)]) eqG31 eqA31 (eqT31 x_2.1 x_2.2.1 x_2.2.2.1 x_2.2.2.2 x_3.1 x_3.2.1 x_3.2.2.1 x_3.2.2.2) ?_
    refine ⟨_, rfl, ?_⟩
    refine ⟨rfl, ?_⟩
    obtain ⟨n_5, hn, hp⟩ := hp
    exact ⟨n_5, hn, rfl, rfl, rfl, rfl, rfl, rfl, rfl, rfl, rfl, hp, h⟩
  clear hq
  obtain ⟨ia_1, ja_1, hp⟩ := hp
  obtain ⟨a_1, ha_1⟩ := rdAddr (hF_l_1 _ (h.drop 1)) rfl ia_1 ja_1
  refine ⟨a_1, ha_1, ia_1, ja_1, ?_⟩
  obtain ⟨x_1, hx_1, hc⟩ := rdCell (hF_l_1 _ (h.drop 1)) ha_1 rfl ia_1 ja_1
  replace hp := hp x_1 hx_1
  refine ⟨_, hc 0 _ rfl, _, hc 1 _ rfl, _, hc 2 _ rfl, _, hc 3 _ rfl, ?_⟩
  refine embrasureref29_kind_ok h hp ?_
  intro r w h hp
  refine ⟨_, rfl, ?_⟩
  refine cond_both hp (fun hp => ?_) (fun hp => ?_)
  · exact ⟨rfl, rfl, rfl, rfl, rfl, rfl, rfl, rfl, rfl, hp, h⟩
  exact ⟨rfl, rfl, rfl, rfl, rfl, rfl, rfl, rfl, rfl, hp, h⟩

/-! embrasure/embrasurelaw29.PathOrder (3) -/
def embrasurelaw29_PathOrder_wp (own : Int) (places : List (Int × Int × Int × Bool)) (K : Bool → Prop) : Prop :=
  embrasurelaw29_awake_wp (fun (r : Bool) => cond (!r) (K false) (cond (decide ((((places.length : Nat) : Int) : Int) > 40)) (K true) (path_New_wp own places (fun (ways : List (Int × Int × Int × Bool)) (at_ : Int) (s : Int) (s_1 : Int) (s_2 : Int) (s_3 : Int) (s_4 : Bool) (s_5 : Int) => embrasureref29_Ways_wp own places (fun (rs : List (Int × Int × Int × Bool)) => path_Walker_Start_wp ways at_ s s_1 s_2 s_3 s_4 s_5 0 (fun (r_1 : Int) (r_2 : Int) (r_3 : Int) (r_4 : Bool) (r_5 : Bool) (at__1 : Int) (s_6 : Int) (s_7 : Int) (s_8 : Int) (s_9 : Int) (s_10 : Bool) (s_11 : Int) => joinP12 (fun (Addr_ : Int) (Addr__1 : Int) (ID : Int) (Via : Bool) (at__2 : Int) (s_12 : Int) (s_13 : Int) (s_14 : Int) (s_15 : Int) (s_16 : Bool) (s_17 : Int) (ok8 : Bool) => cond (!ok8) (path_Walker_State_wp at__2 s_12 s_13 s_14 s_15 s_16 s_17 (fun (r_28 : Int) (r_29 : Int) (r_30 : Int) (r_31 : Int) (r_32 : Bool) (r_33 : Int) => cond (((r_28 : Int) == 4) && (((((r_29 : Int) == 0) && (((r_30 : Int) == 0) && true)) && (((r_31 : Int) == 0) && ((r_32 == false) && true))) && (((r_33 : Int) == 0) && true))) (K (decide ((((rs.length : Nat) : Int) : Int) ≤ 8))) (K false))) (K false)) (fun (Q : Int → Int → Int → Bool → Int → Int → Int → Int → Int → Bool → Int → Bool → Prop) => ∃ (I : Nat → Int → Int → Int → Bool → Int → Int → Int → Int → Int → Bool → Int → Bool → Bool → Int → Prop), (∃ (n_9 : Nat), I n_9 r_1 r_2 r_3 r_4 at__1 s_6 s_7 s_8 s_9 s_10 s_11 r_5 false 0) ∧ ∀ (n_4 : Nat) (Addr__2 : Int) (Addr__3 : Int) (ID_1 : Int) (Via_1 : Bool) (at__3 : Int) (s_18 : Int) (s_19 : Int) (s_20 : Int) (s_21 : Int) (s_22 : Bool) (s_23 : Int) (ok8_1 : Bool) (via9 : Bool) (i10 : Int), I n_4 Addr__2 Addr__3 ID_1 Via_1 at__3 s_18 s_19 s_20 s_21 s_22 s_23 ok8_1 via9 i10 → (cond (decide ((i10 : Int) < ((rs.length : Nat) : Int))) (joinP0 (joinP0 (path_Walker_Tick_wp ways at__3 s_18 s_19 s_20 s_21 s_22 s_23 (IntKind.wrap .i64 ((IntKind.wrap .i64 (10 * i10)) + 9)) (fun (r_18 : Int) (r_19 : Int) (r_20 : Int) (r_21 : Bool) (r_22 : Bool) (at__4 : Int) (s_24 : Int) (s_25 : Int) (s_26 : Int) (s_27 : Int) (s_28 : Bool) (s_29 : Int) => cond r_22 (K false) (path_Walker_Tick_wp ways at__4 s_24 s_25 s_26 s_27 s_28 s_29 (IntKind.wrap .i64 ((IntKind.wrap .i64 (10 * i10)) + 10)) (fun (r_23 : Int) (r_24 : Int) (r_25 : Int) (r_26 : Bool) (r_27 : Bool) (at__5 : Int) (s_30 : Int) (s_31 : Int) (s_32 : Int) (s_33 : Int) (s_34 : Bool) (s_35 : Int) => ∃ (n_8 : Nat), n_8 < n_4 ∧ I n_8 r_23 r_24 r_25 r_26 at__5 s_30 s_31 s_32 s_33 s_34 s_35 r_27 Via_1 (IntKind.wrap .i64 (i10 + 1)))))) (fun (Q_3 : Prop) => ∃ (I_1 : Nat → Int → Prop), (∃ (n_7 : Nat), I_1 n_7 0) ∧ ∀ (n_5 : Nat) (k11 : Int), I_1 n_5 k11 → (cond (decide ((k11 : Int) < i10)) (0 ≤ (k11 : Int) ∧ (k11 : Int) < ((rs.length : Nat) : Int) ∧ (∀ (x_2 : Int × Int × Int × Bool), rs[Int.toNat k11]? = some x_2 → (cond ((((x_2.1 : Int) == Addr__2) && (((x_2.2.1 : Int) == Addr__3) && true)) && (((x_2.2.2.1 : Int) == ID_1) && ((x_2.2.2.2 == Via_1) && true))) (K false) (∃ (n_6 : Nat), n_6 < n_5 ∧ I_1 n_6 (IntKind.wrap .i64 (k11 + 1)))))) (Q_3 )))) (fun (Q_1 : Prop) => joinP1 (fun (t59 : Bool) => cond t59 (K false) (Q_1 )) (fun (Q_2 : Bool → Prop) => cond (!ok8_1) (Q_2 true) (0 ≤ (i10 : Int) ∧ (i10 : Int) < ((rs.length : Nat) : Int) ∧ (∀ (x_1 : Int × Int × Int × Bool), rs[Int.toNat i10]? = some x_1 → (cond (!((((Addr__2 : Int) == x_1.1) && (((Addr__3 : Int) == x_1.2.1) && true)) && (((ID_1 : Int) == x_1.2.2.1) && ((Via_1 == x_1.2.2.2) && true)))) (Q_2 true) (cond via9 (cond (!Via_1) (Q_2 true) (path_Walker_State_wp at__3 s_18 s_19 s_20 s_21 s_22 s_23 (fun (r_6 : Int) (r_7 : Int) (r_8 : Int) (r_9 : Int) (r_10 : Bool) (r_11 : Int) => Q_2 ((r_6 : Int) != 1)))) (path_Walker_State_wp at__3 s_18 s_19 s_20 s_21 s_22 s_23 (fun (r_12 : Int) (r_13 : Int) (r_14 : Int) (r_15 : Int) (r_16 : Bool) (r_17 : Int) => Q_2 ((r_12 : Int) != 1)))))))))) (Q Addr__2 Addr__3 ID_1 Via_1 at__3 s_18 s_19 s_20 s_21 s_22 s_23 ok8_1)))))))))
theorem embrasurelaw29_PathOrder_ok {p_1 : Option Addr} {n_1 : Nat} {c_1 : Nat} {own : Int} {places : List (Int × Int × Int × Bool)} {FL : List HP} {w : World} {K : Bool → Prop} {R : Value → World → Prop}
  (hF_places : ∀ w, Mem FL w → Rd w 4 p_1 enc31 places) (hl_places : n_1 = places.length) (hc_places : n_1 ≤ c_1)
  (h : Mem (FL) w) (hp : embrasurelaw29_PathOrder_wp own places K)
  (hR : ∀ (r : Bool) (w : World), Mem (FL) w → K r → R (Value.bool r) w) :
  CallV Try.prog 3 #[(Value.int .u32 own), (Value.slice p_1 n_1 c_1)] w R := by
  refine embrasurelaw29_PathOrder_call ?_
  unfold embrasurelaw29_PathOrder
  unfold embrasurelaw29_PathOrder_wp at hp
  subst hl_places
  refine embrasurelaw29_awake_ok h hp ?_
  intro r w h hp
  refine ⟨_, rfl, ?_⟩
  refine cond_both hp (fun hp => ?_) (fun hp => ?_)
  · exact hR false _ h hp
  refine cond_both hp (fun hp => ?_) (fun hp => ?_)
  · exact hR true _ h hp
  refine path_New_ok (FL := FL) (fun w h => (hF_places _ (h.drop 0))) rfl hc_places h hp ?_
  rintro ways at_ s s_1 s_2 s_3 s_4 s_5 b_1 p_2 n_2 c_2 w rfl h hp
  have cpp_2 := rowCap h 1 rfl
  refine ⟨_, rfl, ?_⟩
  refine embrasureref29_Ways_ok (FL := cel b_1 51 [(Value.slice p_2 ways.length c_2), (Value.int .i64 at_), (Value.int .i64 s), (Value.int .u32 s_1), (Value.int .i64 s_2), (Value.int .i64 s_3), (Value.bool s_4), (Value.int .i64 s_5)] :: row enc31 31 4 p_2 c_2 ways :: FL) (fun w h => (hF_places _ (h.drop 2))) rfl hc_places h hp ?_
  rintro rs p_3 n_3 c_3 w rfl h hp
  have cpp_3 := rowCap h 0 rfl
  refine ⟨_, _, _, rfl, ?_⟩
  replace h := h.pick [1, 1]
  dsimp only [pickL, pickR, nthH, delH, dropH, List.cons_append, List.nil_append] at h
  refine path_Walker_Start_ok h hp ?_
  intro r_1 r_2 r_3 r_4 r_5 at__1 s_6 s_7 s_8 s_9 s_10 s_11 w h hp
  have cpp_2 := rowCap h 1 rfl
  refine ⟨_, _, _, _, _, rfl, ?_⟩
  refine ⟨_, _, _, _, rfl, ?_⟩
  refine newL (o := [(Value.int .u32 0), (Value.int .i64 0), (Value.int .i64 0), (Value.bool false)]) h ?_
  intro b_2 w h
  refine storeL (ys := [(Value.int .u32 r_1), (Value.int .i64 r_2), (Value.int .i64 r_3), (Value.bool r_4)]) h 0 0 rfl rfl rfl sz31 rfl rfl ?_
  intro w h
  dsimp only [setH, setVs, setV] at h
  obtain ⟨Q, hq, hp⟩ := hp
  refine ⟨fun w5 want6p want6l want6c ok8 w => ∃ (Addr_ : Int), ∃ (Addr__1 : Int), ∃ (ID : Int), ∃ (Via : Bool), ∃ (at__2 : Int), ∃ (s_12 : Int), ∃ (s_13 : Int), ∃ (s_14 : Int), ∃ (s_15 : Int), ∃ (s_16 : Bool), ∃ (s_17 : Int), (some (Addr.mk b_1 0 none)) = w5 ∧ p_3 = want6p ∧ rs.length = want6l ∧ c_3 = want6c ∧ Q Addr_ Addr__1 ID Via at__2 s_12 s_13 s_14 s_15 s_16 s_17 ok8 ∧ Mem (cel b_2 31 [(Value.int .u32 Addr_), (Value.int .i64 Addr__1), (Value.int .i64 ID), (Value.bool Via)] :: cel b_1 51 [(Value.slice p_2 ways.length c_2), (Value.int .i64 at__2), (Value.int .i64 s_12), (Value.int .u32 s_13), (Value.int .i64 s_14), (Value.int .i64 s_15), (Value.bool s_16), (Value.int .i64 s_17)] :: row enc31 31 4 p_2 c_2 ways :: row enc31 31 4 p_3 c_3 rs :: FL) w, ?_, ?_⟩
  · rintro w5 want6p want6l want6c ok8 w ⟨Addr_, Addr__1, ID, Via, at__2, s_12, s_13, s_14, s_15, s_16, s_17, rfl, rfl, rfl, rfl, hp, h⟩
    replace hp := hq Addr_ Addr__1 ID Via at__2 s_12 s_13 s_14 s_15 s_16 s_17 ok8 hp
    unfold embrasurelaw29_PathOrder_j1
    refine cond_both' hp (fun hp => ?_) (fun hp => ?_)
    · replace h := h.sel [] 4
      dsimp only [pickL, pickR, nthH, delH, dropH, List.cons_append, List.nil_append] at h
      exact hR false _ h hp
    replace h := h.pick [1]
    dsimp only [pickL, pickR, nthH, delH, dropH, List.cons_append, List.nil_append] at h
    refine path_Walker_State_ok h hp ?_
    intro r_28 r_29 r_30 r_31 r_32 r_33 w h hp
    refine ⟨_, _, _, _, _, _, rfl, ?_⟩
    refine eqlAgg (xs := [(Value.int .i64 r_28), (Value.int .u32 r_29), (Value.int .i64 r_30), (Value.int .i64 r_31), (Value.bool r_32), (Value.int .i64 r_33)]) (ys := [(Value.int .i64 4), (Value.int .u32 0), (Value.int .i64 0), (Value.int .i64 0), (Value.bool false), (Value.int .i64 0)]) eqG35 eqA35 (eqT35 r_28 r_29 r_30 r_31 r_32 r_33 4 0 0 0 false 0) ?_
    refine ⟨_, rfl, ?_⟩
    refine cond_both hp (fun hp => ?_) (fun hp => ?_)
    · replace h := h.sel [] 4
      dsimp only [pickL, pickR, nthH, delH, dropH, List.cons_append, List.nil_append] at h
      exact hR (decide ((((rs.length : Nat) : Int) : Int) ≤ 8)) _ h hp
    replace h := h.sel [] 4
    dsimp only [pickL, pickR, nthH, delH, dropH, List.cons_append, List.nil_append] at h
    exact hR false _ h hp
  clear hq
  obtain ⟨I, ⟨n_9, h0⟩, hq⟩ := hp
  refine ⟨fun n_4 w5_1 want6_1p want6_1l want6_1c p7 ok8_1 via9 i10 w => ∃ (Addr__2 : Int), ∃ (Addr__3 : Int), ∃ (ID_1 : Int), ∃ (Via_1 : Bool), ∃ (at__3 : Int), ∃ (s_18 : Int), ∃ (s_19 : Int), ∃ (s_20 : Int), ∃ (s_21 : Int), ∃ (s_22 : Bool), ∃ (s_23 : Int), (some (Addr.mk b_1 0 none)) = w5_1 ∧ p_3 = want6_1p ∧ rs.length = want6_1l ∧ c_3 = want6_1c ∧ (Addr.mk b_2 0 none) = p7 ∧ I n_4 Addr__2 Addr__3 ID_1 Via_1 at__3 s_18 s_19 s_20 s_21 s_22 s_23 ok8_1 via9 i10 ∧ Mem (cel b_2 31 [(Value.int .u32 Addr__2), (Value.int .i64 Addr__3), (Value.int .i64 ID_1), (Value.bool Via_1)] :: cel b_1 51 [(Value.slice p_2 ways.length c_2), (Value.int .i64 at__3), (Value.int .i64 s_18), (Value.int .u32 s_19), (Value.int .i64 s_20), (Value.int .i64 s_21), (Value.bool s_22), (Value.int .i64 s_23)] :: row enc31 31 4 p_2 c_2 ways :: row enc31 31 4 p_3 c_3 rs :: FL) w, ⟨n_9, r_1, r_2, r_3, r_4, at__1, s_6, s_7, s_8, s_9, s_10, s_11, rfl, rfl, rfl, rfl, rfl, h0, h⟩, ?_⟩
  clear h0 h
  rintro n_4 w5_1 want6_1p want6_1l want6_1c p7 ok8_1 via9 i10 w ⟨Addr__2, Addr__3, ID_1, Via_1, at__3, s_18, s_19, s_20, s_21, s_22, s_23, rfl, rfl, rfl, rfl, rfl, hp, h⟩
  replace hp := hq n_4 Addr__2 Addr__3 ID_1 Via_1 at__3 s_18 s_19 s_20 s_21 s_22 s_23 ok8_1 via9 i10 hp
  clear hq
  unfold embrasurelaw29_PathOrder_l2
  refine cond_both' hp (fun hp => ?_) (fun hp => ?_)
  · exact ⟨Addr__2, Addr__3, ID_1, Via_1, at__3, s_18, s_19, s_20, s_21, s_22, s_23, rfl, rfl, rfl, rfl, hp, h⟩
  obtain ⟨Q_1, hq, hp⟩ := hp
  refine ⟨fun w5_2 want6_2p want6_2l want6_2c p7_1 i10_1 w => (some (Addr.mk b_1 0 none)) = w5_2 ∧ p_3 = want6_2p ∧ rs.length = want6_2l ∧ c_3 = want6_2c ∧ (Addr.mk b_2 0 none) = p7_1 ∧ i10 = i10_1 ∧ Q_1 ∧ Mem (cel b_2 31 [(Value.int .u32 Addr__2), (Value.int .i64 Addr__3), (Value.int .i64 ID_1), (Value.bool Via_1)] :: cel b_1 51 [(Value.slice p_2 ways.length c_2), (Value.int .i64 at__3), (Value.int .i64 s_18), (Value.int .u32 s_19), (Value.int .i64 s_20), (Value.int .i64 s_21), (Value.bool s_22), (Value.int .i64 s_23)] :: row enc31 31 4 p_2 c_2 ways :: row enc31 31 4 p_3 c_3 rs :: FL) w, ?_, ?_⟩
  · rintro w5_2 want6_2p want6_2l want6_2c p7_1 i10_1 w ⟨rfl, rfl, rfl, rfl, rfl, rfl, hp, h⟩
    replace hp := hq  hp
    unfold embrasurelaw29_PathOrder_j3
    refine ⟨_, cellL h 0 3 rfl rfl rfl, ?_⟩
    obtain ⟨Q_3, hq, hp⟩ := hp
    refine ⟨fun w5_4 want6_4p want6_4l want6_4c p7_3 via9_1 i10_3 w => (some (Addr.mk b_1 0 none)) = w5_4 ∧ p_3 = want6_4p ∧ rs.length = want6_4l ∧ c_3 = want6_4c ∧ (Addr.mk b_2 0 none) = p7_3 ∧ Via_1 = via9_1 ∧ i10 = i10_3 ∧ Q_3 ∧ Mem (cel b_2 31 [(Value.int .u32 Addr__2), (Value.int .i64 Addr__3), (Value.int .i64 ID_1), (Value.bool Via_1)] :: cel b_1 51 [(Value.slice p_2 ways.length c_2), (Value.int .i64 at__3), (Value.int .i64 s_18), (Value.int .u32 s_19), (Value.int .i64 s_20), (Value.int .i64 s_21), (Value.bool s_22), (Value.int .i64 s_23)] :: row enc31 31 4 p_2 c_2 ways :: row enc31 31 4 p_3 c_3 rs :: FL) w, ?_, ?_⟩
    · rintro w5_4 want6_4p want6_4l want6_4c p7_3 via9_1 i10_3 w ⟨rfl, rfl, rfl, rfl, rfl, rfl, rfl, hp, h⟩
      replace hp := hq  hp
      unfold embrasurelaw29_PathOrder_j4
      replace h := h.pick [1, 1]
      dsimp only [pickL, pickR, nthH, delH, dropH, List.cons_append, List.nil_append] at h
      refine path_Walker_Tick_ok h hp ?_
      intro r_18 r_19 r_20 r_21 r_22 at__4 s_24 s_25 s_26 s_27 s_28 s_29 w h hp
      have cpp_2 := rowCap h 1 rfl
      refine ⟨_, _, _, _, _, rfl, ?_⟩
      refine ⟨_, _, _, _, rfl, ?_⟩
      refine newL (o := [(Value.int .u32 0), (Value.int .i64 0), (Value.int .i64 0), (Value.bool false)]) h ?_
      intro b_3 w h
      refine storeL (ys := [(Value.int .u32 r_18), (Value.int .i64 r_19), (Value.int .i64 r_20), (Value.bool r_21)]) h 0 0 rfl rfl rfl sz31 rfl rfl ?_
      intro w h
      dsimp only [setH, setVs, setV] at h
      refine cond_both hp (fun hp => ?_) (fun hp => ?_)
      · replace h := h.sel [] 5
        dsimp only [pickL, pickR, nthH, delH, dropH, List.cons_append, List.nil_append] at h
        exact hR false _ h hp
      replace h := h.pick [1, 1]
      dsimp only [pickL, pickR, nthH, delH, dropH, List.cons_append, List.nil_append] at h
      refine path_Walker_Tick_ok h hp ?_
      intro r_23 r_24 r_25 r_26 r_27 at__5 s_30 s_31 s_32 s_33 s_34 s_35 w h hp
      have cpp_2 := rowCap h 1 rfl
      refine ⟨_, _, _, _, _, rfl, ?_⟩
      refine ⟨_, _, _, _, rfl, ?_⟩
      refine storeL (ys := [(Value.int .u32 r_23), (Value.int .i64 r_24), (Value.int .i64 r_25), (Value.bool r_26)]) h 3 0 rfl rfl rfl sz31 rfl rfl ?_
      intro w h
      dsimp only [setH, setVs, setV] at h
      replace h := h.sel [3, 0, 0, 1] 1
      dsimp only [pickL, pickR, nthH, delH, dropH, List.cons_append, List.nil_append] at h
      obtain ⟨n_8, hn, hp⟩ := hp
      exact ⟨n_8, hn, r_23, r_24, r_25, r_26, at__5, s_30, s_31, s_32, s_33, s_34, s_35, rfl, rfl, rfl, rfl, rfl, hp, h⟩
    clear hq
    obtain ⟨I_1, ⟨n_7, h0⟩, hq⟩ := hp
    refine ⟨fun n_5 w5_5 want6_5p want6_5l want6_5c p7_4 via9_2 i10_4 k11 w => (some (Addr.mk b_1 0 none)) = w5_5 ∧ p_3 = want6_5p ∧ rs.length = want6_5l ∧ c_3 = want6_5c ∧ (Addr.mk b_2 0 none) = p7_4 ∧ Via_1 = via9_2 ∧ i10 = i10_4 ∧ I_1 n_5 k11 ∧ Mem (cel b_2 31 [(Value.int .u32 Addr__2), (Value.int .i64 Addr__3), (Value.int .i64 ID_1), (Value.bool Via_1)] :: cel b_1 51 [(Value.slice p_2 ways.length c_2), (Value.int .i64 at__3), (Value.int .i64 s_18), (Value.int .u32 s_19), (Value.int .i64 s_20), (Value.int .i64 s_21), (Value.bool s_22), (Value.int .i64 s_23)] :: row enc31 31 4 p_2 c_2 ways :: row enc31 31 4 p_3 c_3 rs :: FL) w, ⟨n_7, rfl, rfl, rfl, rfl, rfl, rfl, rfl, h0, h⟩, ?_⟩
    clear h0 h
    rintro n_5 w5_5 want6_5p want6_5l want6_5c p7_4 via9_2 i10_4 k11 w ⟨rfl, rfl, rfl, rfl, rfl, rfl, rfl, hp, h⟩
    replace hp := hq n_5 k11 hp
    clear hq
    unfold embrasurelaw29_PathOrder_l5
    refine cond_both' hp (fun hp => ?_) (fun hp => ?_)
    · exact ⟨rfl, rfl, rfl, rfl, rfl, rfl, rfl, hp, h⟩
    replace h := h.drew
    obtain ⟨ia_2, ja_2, hp⟩ := hp
    obtain ⟨a_2, ha_2⟩ := rdAddr (rowRd h 3 encL31 rfl) rfl ia_2 ja_2
    refine ⟨a_2, ha_2, ia_2, ja_2, ?_⟩
    obtain ⟨x_2, hx_2, hc⟩ := rdCell (rowRd h 3 encL31 rfl) ha_2 rfl ia_2 ja_2
    replace hp := hp x_2 hx_2
    refine ⟨_, hc 0 _ rfl, _, hc 1 _ rfl, _, hc 2 _ rfl, _, hc 3 _ rfl, ?_⟩
    refine ⟨_, cellL h 0 0 rfl rfl rfl, _, cellL h 0 1 rfl rfl rfl, _, cellL h 0 2 rfl rfl rfl, _, cellL h 0 3 rfl rfl rfl, ?_⟩
    refine eqlAgg (xs := [(Value.int .u32 x_2.1), (Value.int .i64 x_2.2.1), (Value.int .i64 x_2.2.2.1), (Value.bool x_2.2.2.2)]) (ys := [(Value.int .u32 Addr__2), (Value.int .i64 Addr__3), (Value.int .i64 ID_1), (Value.bool Via_1)]) eqG31 eqA31 (eqT31 x_2.1 x_2.2.1 x_2.2.2.1 x_2.2.2.2 Addr__2 Addr__3 ID_1 Via_1) ?_
    refine ⟨_, rfl, ?_⟩
    refine ⟨rfl, ?_⟩
    refine cond_both' hp (fun hp => ?_) (fun hp => ?_)
    · obtain ⟨n_6, hn, hp⟩ := hp
      exact ⟨n_6, hn, rfl, rfl, rfl, rfl, rfl, rfl, rfl, hp, h⟩
    replace h := h.sel [] 4
    dsimp only [pickL, pickR, nthH, delH, dropH, List.cons_append, List.nil_append] at h
    exact hR false _ h hp
  clear hq
  obtain ⟨Q_2, hq, hp⟩ := hp
  refine ⟨fun w5_3 want6_3p want6_3l want6_3c p7_2 i10_2 t59 w => (some (Addr.mk b_1 0 none)) = w5_3 ∧ p_3 = want6_3p ∧ rs.length = want6_3l ∧ c_3 = want6_3c ∧ (Addr.mk b_2 0 none) = p7_2 ∧ i10 = i10_2 ∧ Q_2 t59 ∧ Mem (cel b_2 31 [(Value.int .u32 Addr__2), (Value.int .i64 Addr__3), (Value.int .i64 ID_1), (Value.bool Via_1)] :: cel b_1 51 [(Value.slice p_2 ways.length c_2), (Value.int .i64 at__3), (Value.int .i64 s_18), (Value.int .u32 s_19), (Value.int .i64 s_20), (Value.int .i64 s_21), (Value.bool s_22), (Value.int .i64 s_23)] :: row enc31 31 4 p_2 c_2 ways :: row enc31 31 4 p_3 c_3 rs :: FL) w, ?_, ?_⟩
  · rintro w5_3 want6_3p want6_3l want6_3c p7_2 i10_2 t59 w ⟨rfl, rfl, rfl, rfl, rfl, rfl, hp, h⟩
    replace hp := hq t59 hp
    unfold embrasurelaw29_PathOrder_j6
    refine cond_both' hp (fun hp => ?_) (fun hp => ?_)
    · exact ⟨rfl, rfl, rfl, rfl, rfl, rfl, hp, h⟩
    replace h := h.sel [] 4
    dsimp only [pickL, pickR, nthH, delH, dropH, List.cons_append, List.nil_append] at h
    exact hR false _ h hp
  clear hq
  replace h := h.drew
  refine ⟨fun w => Mem (FL) w, (h.sel [] 4), ?_⟩
  refine cond_both hp (fun hp => ?_) (fun hp => ?_)
  · exact ⟨rfl, rfl, rfl, rfl, rfl, rfl, hp, h⟩
  refine ⟨_, cellL h 0 0 rfl rfl rfl, _, cellL h 0 1 rfl rfl rfl, _, cellL h 0 2 rfl rfl rfl, _, cellL h 0 3 rfl rfl rfl, ?_⟩
  obtain ⟨ia_1, ja_1, hp⟩ := hp
  obtain ⟨a_1, ha_1⟩ := rdAddr (rowRd h 3 encL31 rfl) rfl ia_1 ja_1
  refine ⟨a_1, ha_1, ia_1, ja_1, ?_⟩
  obtain ⟨x_1, hx_1, hc⟩ := rdCell (rowRd h 3 encL31 rfl) ha_1 rfl ia_1 ja_1
  replace hp := hp x_1 hx_1
  refine ⟨_, hc 0 _ rfl, _, hc 1 _ rfl, _, hc 2 _ rfl, _, hc 3 _ rfl, ?_⟩
  refine neqAgg (xs := [(Value.int .u32 Addr__2), (Value.int .i64 Addr__3), (Value.int .i64 ID_1), (Value.bool Via_1)]) (ys := [(Value.int .u32 x_1.1), (Value.int .i64 x_1.2.1), (Value.int .i64 x_1.2.2.1), (Value.bool x_1.2.2.2)]) eqG31 eqA31 (eqT31 Addr__2 Addr__3 ID_1 Via_1 x_1.1 x_1.2.1 x_1.2.2.1 x_1.2.2.2) ?_
  refine ⟨_, rfl, ?_⟩
  refine ⟨rfl, ?_⟩
  refine cond_both hp (fun hp => ?_) (fun hp => ?_)
  · exact ⟨rfl, rfl, rfl, rfl, rfl, rfl, hp, h⟩
  refine cond_both' hp (fun hp => ?_) (fun hp => ?_)
  · replace h := h.pick [1]
    dsimp only [pickL, pickR, nthH, delH, dropH, List.cons_append, List.nil_append] at h
    refine path_Walker_State_ok h hp ?_
    intro r_12 r_13 r_14 r_15 r_16 r_17 w h hp
    refine ⟨_, _, _, _, _, _, rfl, ?_⟩
    refine ⟨(h.sel [] 4), ?_⟩
    replace h := h.sel [1, 0, 0, 0] 0
    dsimp only [pickL, pickR, nthH, delH, dropH, List.cons_append, List.nil_append] at h
    exact ⟨rfl, rfl, rfl, rfl, rfl, rfl, hp, h⟩
  refine ⟨_, cellL h 0 3 rfl rfl rfl, ?_⟩
  refine cond_both hp (fun hp => ?_) (fun hp => ?_)
  · exact ⟨rfl, rfl, rfl, rfl, rfl, rfl, hp, h⟩
  replace h := h.pick [1]
  dsimp only [pickL, pickR, nthH, delH, dropH, List.cons_append, List.nil_append] at h
  refine path_Walker_State_ok h hp ?_
  intro r_6 r_7 r_8 r_9 r_10 r_11 w h hp
  refine ⟨_, _, _, _, _, _, rfl, ?_⟩
  refine ⟨(h.sel [] 4), ?_⟩
  replace h := h.sel [1, 0, 0, 0] 0
  dsimp only [pickL, pickR, nthH, delH, dropH, List.cons_append, List.nil_append] at h
  exact ⟨rfl, rfl, rfl, rfl, rfl, rfl, hp, h⟩

/-! embrasure/embrasureref21.Places (15) -/
def embrasureref21_Places_wp (a_1 : List (Int × Int × Int × Bool)) (b_1 : List (Int × Int × Int × Bool)) (K : Bool → Prop) : Prop :=
  cond ((((a_1.length : Nat) : Int) : Int) != ((b_1.length : Nat) : Int)) (K false) (∃ (I : Nat → Int → Prop), (∃ (n_5 : Nat), I n_5 0) ∧ ∀ (n_3 : Nat) (i5 : Int), I n_3 i5 → (cond (decide ((i5 : Int) < ((a_1.length : Nat) : Int))) (0 ≤ (i5 : Int) ∧ (i5 : Int) < ((a_1.length : Nat) : Int) ∧ (∀ (x_1 : Int × Int × Int × Bool), a_1[Int.toNat i5]? = some x_1 → (0 ≤ (i5 : Int) ∧ (i5 : Int) < ((b_1.length : Nat) : Int) ∧ (∀ (x_2 : Int × Int × Int × Bool), b_1[Int.toNat i5]? = some x_2 → (cond (!((((x_1.1 : Int) == x_2.1) && (((x_1.2.1 : Int) == x_2.2.1) && true)) && (((x_1.2.2.1 : Int) == x_2.2.2.1) && ((x_1.2.2.2 == x_2.2.2.2) && true)))) (K false) (∃ (n_4 : Nat), n_4 < n_3 ∧ I n_4 (IntKind.wrap .i64 (i5 + 1)))))))) (K true)))
theorem embrasureref21_Places_ok {p_1 : Option Addr} {n_1 : Nat} {c_1 : Nat} {p_2 : Option Addr} {n_2 : Nat} {c_2 : Nat} {a_1 : List (Int × Int × Int × Bool)} {b_1 : List (Int × Int × Int × Bool)} {FL : List HP} {w : World} {K : Bool → Prop} {R : Value → World → Prop}
  (hF_a_1 : ∀ w, Mem FL w → Rd w 4 p_1 enc31 a_1) (hl_a_1 : n_1 = a_1.length) (hc_a_1 : n_1 ≤ c_1)
  (hF_b_1 : ∀ w, Mem FL w → Rd w 4 p_2 enc31 b_1) (hl_b_1 : n_2 = b_1.length) (hc_b_1 : n_2 ≤ c_2)
  (h : Mem (FL) w) (hp : embrasureref21_Places_wp a_1 b_1 K)
  (hR : ∀ (r : Bool) (w : World), Mem (FL) w → K r → R (Value.bool r) w) :
  CallV Try.prog 15 #[(Value.slice p_1 n_1 c_1), (Value.slice p_2 n_2 c_2)] w R := by
  refine embrasureref21_Places_call ?_
  unfold embrasureref21_Places
  unfold embrasureref21_Places_wp at hp
  subst hl_a_1
  subst hl_b_1
  refine cond_both hp (fun hp => ?_) (fun hp => ?_)
  · exact hR false _ h hp
  obtain ⟨I, ⟨n_5, h0⟩, hq⟩ := hp
  refine ⟨fun n_3 a0p a0l a0c b1p b1l b1c i5 w => p_1 = a0p ∧ a_1.length = a0l ∧ c_1 = a0c ∧ p_2 = b1p ∧ b_1.length = b1l ∧ c_2 = b1c ∧ I n_3 i5 ∧ Mem (FL) w, ⟨n_5, rfl, rfl, rfl, rfl, rfl, rfl, h0, h⟩, ?_⟩
  clear h0 h
  rintro n_3 a0p a0l a0c b1p b1l b1c i5 w ⟨rfl, rfl, rfl, rfl, rfl, rfl, hp, h⟩
  replace hp := hq n_3 i5 hp
  clear hq
  unfold embrasureref21_Places_l1
  refine cond_both' hp (fun hp => ?_) (fun hp => ?_)
  · exact hR true _ h hp
  replace h := h.drew
  obtain ⟨ia_2, ja_2, hp⟩ := hp
  obtain ⟨a_2, ha_2⟩ := rdAddr (hF_a_1 _ (h.drop 0)) rfl ia_2 ja_2
  refine ⟨a_2, ha_2, ia_2, ja_2, ?_⟩
  obtain ⟨x_1, hx_1, hc⟩ := rdCell (hF_a_1 _ (h.drop 0)) ha_2 rfl ia_2 ja_2
  replace hp := hp x_1 hx_1
  refine ⟨_, hc 0 _ rfl, _, hc 1 _ rfl, _, hc 2 _ rfl, _, hc 3 _ rfl, ?_⟩
  obtain ⟨ia_3, ja_3, hp⟩ := hp
  obtain ⟨a_3, ha_3⟩ := rdAddr (hF_b_1 _ (h.drop 0)) rfl ia_3 ja_3
  refine ⟨a_3, ha_3, ia_3, ja_3, ?_⟩
  obtain ⟨x_2, hx_2, hc⟩ := rdCell (hF_b_1 _ (h.drop 0)) ha_3 rfl ia_3 ja_3
  replace hp := hp x_2 hx_2
  refine ⟨_, hc 0 _ rfl, _, hc 1 _ rfl, _, hc 2 _ rfl, _, hc 3 _ rfl, ?_⟩
  refine neqAgg (xs := [(Value.int .u32 x_1.1), (Value.int .i64 x_1.2.1), (Value.int .i64 x_1.2.2.1), (Value.bool x_1.2.2.2)]) (ys := [(Value.int .u32 x_2.1), (Value.int .i64 x_2.2.1), (Value.int .i64 x_2.2.2.1), (Value.bool x_2.2.2.2)]) eqG31 eqA31 (eqT31 x_1.1 x_1.2.1 x_1.2.2.1 x_1.2.2.2 x_2.1 x_2.2.1 x_2.2.2.1 x_2.2.2.2) ?_
  refine ⟨_, rfl, ?_⟩
  refine ⟨rfl, ?_⟩
  refine cond_both hp (fun hp => ?_) (fun hp => ?_)
  · exact hR false _ h hp
  obtain ⟨n_4, hn, hp⟩ := hp
  exact ⟨n_4, hn, rfl, rfl, rfl, rfl, rfl, rfl, hp, h⟩

/-! embrasure/embrasurelaw29.PathWays (4) -/
def embrasurelaw29_PathWays_wp (own : Int) (places : List (Int × Int × Int × Bool)) (K : Bool → Prop) : Prop :=
  embrasurelaw29_awake_wp (fun (r : Bool) => cond (!r) (K false) (cond (decide ((((places.length : Nat) : Int) : Int) > 20)) (K true) (path_Ways_wp own places (fun (rs : List (Int × Int × Int × Bool)) => path_Ways_wp own rs (fun (rs_1 : List (Int × Int × Int × Bool)) => (([] : List (Int × Int × Int × Bool)).length + places.length) * 32 ≤ 140737488355328 ∧ (((([] : List (Int × Int × Int × Bool)) ++ places).length + places.length) * 32 ≤ 140737488355328 ∧ (path_Ways_wp own ((([] : List (Int × Int × Int × Bool)) ++ places) ++ places) (fun (rs_2 : List (Int × Int × Int × Bool)) => joinP1 (fun (bare : List (Int × Int × Int × Bool)) => path_Ways_wp own bare (fun (rs_3 : List (Int × Int × Int × Bool)) => joinP1 (fun (t75 : Bool) => cond t75 (K false) (0 ≤ (((rs_3.length : Nat) : Int) : Int) ∧ (((rs_3.length : Nat) : Int) : Int) ≤ ((rs.length : Nat) : Int) ∧ (embrasureref21_Places_wp rs_3 ((rs.take (Int.toNat ((rs_3.length : Nat) : Int))).drop 0) (fun (r_4 : Bool) => K r_4)))) (fun (Q_1 : Bool → Prop) => embrasureref21_Places_wp rs rs_1 (fun (r_1 : Bool) => cond (!r_1) (Q_1 true) (embrasureref21_Places_wp rs rs_2 (fun (r_2 : Bool) => cond (!r_2) (Q_1 true) (embrasureref29_Ways_wp own places (fun (rs_4 : List (Int × Int × Int × Bool)) => embrasureref21_Places_wp rs rs_4 (fun (r_3 : Bool) => cond (!r_3) (Q_1 true) (Q_1 (decide ((((rs_3.length : Nat) : Int) : Int) > ((rs.length : Nat) : Int))))))))))))) (fun (Q : List (Int × Int × Int × Bool) → Prop) => ∃ (I : Nat → List (Int × Int × Int × Bool) → Int → Prop), (∃ (n_8 : Nat), I n_8 ([] : List (Int × Int × Int × Bool)) 0) ∧ ∀ (n_5 : Nat) (bare_1 : List (Int × Int × Int × Bool)) (i9 : Int), I n_5 bare_1 i9 → (cond (decide ((i9 : Int) < ((places.length : Nat) : Int))) (0 ≤ (i9 : Int) ∧ (i9 : Int) < ((places.length : Nat) : Int) ∧ (∀ (x_1 : Int × Int × Int × Bool), places[Int.toNat i9]? = some x_1 → (cond (!x_1.2.2.2) (0 ≤ (i9 : Int) ∧ (i9 : Int) < ((places.length : Nat) : Int) ∧ (∀ (x_2 : Int × Int × Int × Bool), places[Int.toNat i9]? = some x_2 → ((bare_1.length + [x_2].length) * 32 ≤ 140737488355328 ∧ (∃ (n_6 : Nat), n_6 < n_5 ∧ I n_6 (bare_1 ++ [x_2]) (IntKind.wrap .i64 (i9 + 1)))))) (∃ (n_7 : Nat), n_7 < n_5 ∧ I n_7 bare_1 (IntKind.wrap .i64 (i9 + 1)))))) (Q bare_1)))))))))))
theorem embrasurelaw29_PathWays_ok {p_1 : Option Addr} {n_1 : Nat} {c_1 : Nat} {own : Int} {places : List (Int × Int × Int × Bool)} {FL : List HP} {w : World} {K : Bool → Prop} {R : Value → World → Prop}
  (hF_places : ∀ w, Mem FL w → Rd w 4 p_1 enc31 places) (hl_places : n_1 = places.length) (hc_places : n_1 ≤ c_1)
  (h : Mem (FL) w) (hp : embrasurelaw29_PathWays_wp own places K)
  (hR : ∀ (r : Bool) (w : World), Mem (FL) w → K r → R (Value.bool r) w) :
  CallV Try.prog 4 #[(Value.int .u32 own), (Value.slice p_1 n_1 c_1)] w R := by
  refine embrasurelaw29_PathWays_call ?_
  unfold embrasurelaw29_PathWays
  unfold embrasurelaw29_PathWays_wp at hp
  subst hl_places
  refine embrasurelaw29_awake_ok h hp ?_
  intro r w h hp
  refine ⟨_, rfl, ?_⟩
  refine cond_both hp (fun hp => ?_) (fun hp => ?_)
  · exact hR false _ h hp
  refine cond_both hp (fun hp => ?_) (fun hp => ?_)
  · exact hR true _ h hp
  refine path_Ways_ok (FL := FL) (fun w h => (hF_places _ (h.drop 0))) rfl hc_places h hp ?_
  rintro rs p_2 n_2 c_2 w rfl h hp
  have cpp_2 := rowCap h 0 rfl
  refine ⟨_, _, _, rfl, ?_⟩
  refine path_Ways_ok (FL := row enc31 31 4 p_2 c_2 rs :: FL) (fun w h => (rowRd h 0 encL31 rfl)) rfl cpp_2 h hp ?_
  rintro rs_1 p_3 n_3 c_3 w rfl h hp
  have cpp_3 := rowCap h 0 rfl
  refine ⟨_, _, _, rfl, ?_⟩
  refine newL (o := []) h ?_
  intro b_1 w h
  have sr := (hF_places _ (h.drop 3))
  replace h := rowOfCel h 0 encL31 rfl ([] : List (Int × Int × Int × Bool)) rfl
  dsimp only [setH, setVs, setV] at h
  obtain ⟨hb, hp⟩ := hp
  refine appendL slt23 und23 encL31 encO31 h 0 rfl rfl sr rfl hb ?_
  intro p_4 c_4 w h
  dsimp only [setH, setVs, setV] at h
  have cpp_4 := rowCap h 0 rfl
  refine ⟨_, _, _, rfl, ?_⟩
  have sr_1 := (hF_places _ (h.drop 3))
  obtain ⟨hb, hp⟩ := hp
  refine appendL slt23 und23 encL31 encO31 h 0 rfl rfl sr_1 rfl hb ?_
  intro p_5 c_5 w h
  dsimp only [setH, setVs, setV] at h
  have cpp_5 := rowCap h 0 rfl
  refine ⟨_, _, _, rfl, ?_⟩
  refine path_Ways_ok (FL := row enc31 31 4 p_5 c_5 ((([] : List (Int × Int × Int × Bool)) ++ places) ++ places) :: row enc31 31 4 p_3 c_3 rs_1 :: row enc31 31 4 p_2 c_2 rs :: FL) (fun w h => (rowRd h 0 encL31 rfl)) rfl cpp_5 h hp ?_
  rintro rs_2 p_6 n_4 c_6 w rfl h hp
  have cpp_6 := rowCap h 0 rfl
  refine ⟨_, _, _, rfl, ?_⟩
  obtain ⟨Q, hq, hp⟩ := hp
  refine ⟨fun own0 places1p places1l places1c l5p l5l l5c again6p again6l again6c twice7p twice7l twice7c bare8p bare8l bare8c w => ∃ (bare : List (Int × Int × Int × Bool)), own = own0 ∧ p_1 = places1p ∧ places.length = places1l ∧ c_1 = places1c ∧ p_2 = l5p ∧ rs.length = l5l ∧ c_2 = l5c ∧ p_3 = again6p ∧ rs_1.length = again6l ∧ c_3 = again6c ∧ p_6 = twice7p ∧ rs_2.length = twice7l ∧ c_6 = twice7c ∧ bare8l = bare.length ∧ Q bare ∧ Mem (row enc31 31 4 p_2 c_2 rs :: row enc31 31 4 p_3 c_3 rs_1 :: row enc31 31 4 p_6 c_6 rs_2 :: row enc31 31 4 bare8p bare8c bare :: FL) w, ?_, ?_⟩
  · rintro own0 places1p places1l places1c l5p l5l l5c again6p again6l again6c twice7p twice7l twice7c bare8p bare8l bare8c w ⟨bare, rfl, rfl, rfl, rfl, rfl, rfl, rfl, rfl, rfl, rfl, rfl, rfl, rfl, rfl, hp, h⟩
    replace hp := hq bare hp
    unfold embrasurelaw29_PathWays_j1
    have cpbare8p := rowCap h 3 rfl
    refine path_Ways_ok (FL := row enc31 31 4 p_2 c_2 rs :: row enc31 31 4 p_3 c_3 rs_1 :: row enc31 31 4 p_6 c_6 rs_2 :: row enc31 31 4 bare8p bare8c bare :: FL) (fun w h => (rowRd h 3 encL31 rfl)) rfl cpbare8p h hp ?_
    rintro rs_3 p_9 n_9 c_8 w rfl h hp
    have cpp_9 := rowCap h 0 rfl
    refine ⟨_, _, _, rfl, ?_⟩
    obtain ⟨Q_1, hq, hp⟩ := hp
    refine ⟨fun l5_2p l5_2l l5_2c m10p m10l m10c t75 w => p_2 = l5_2p ∧ rs.length = l5_2l ∧ c_2 = l5_2c ∧ p_9 = m10p ∧ rs_3.length = m10l ∧ c_8 = m10c ∧ Q_1 t75 ∧ Mem (row enc31 31 4 p_2 c_2 rs :: row enc31 31 4 p_9 c_8 rs_3 :: FL) w, ?_, ?_⟩
    · rintro l5_2p l5_2l l5_2c m10p m10l m10c t75 w ⟨rfl, rfl, rfl, rfl, rfl, rfl, hp, h⟩
      replace hp := hq t75 hp
      unfold embrasurelaw29_PathWays_j2
      refine cond_both hp (fun hp => ?_) (fun hp => ?_)
      · replace h := h.sel [] 2
        dsimp only [pickL, pickR, nthH, delH, dropH, List.cons_append, List.nil_append] at h
        exact hR false _ h hp
      obtain ⟨g_1ha, g_1hb, hp⟩ := hp
      have vg_1_lh : 0 ≤ (Int.toNat ((rs_3.length : Nat) : Int)) := (Nat.zero_le _)
      have vg_1_hm : (Int.toNat ((rs_3.length : Nat) : Int)) ≤ c_2 := (Nat.le_trans (natLe g_1ha g_1hb) cpp_2)
      have vg_1_mc : c_2 ≤ c_2 := (Nat.le_refl _)
      have vg_1_hl : (Int.toNat ((rs_3.length : Nat) : Int)) ≤ rs.length := (leLen g_1ha g_1hb rfl)
      refine ⟨g_1ha, (leCap g_1hb cpp_2), ?_⟩
      refine embrasureref21_Places_ok (FL := row enc31 31 4 p_2 c_2 rs :: row enc31 31 4 p_9 c_8 rs_3 :: FL) (fun w h => (rowRd h 1 encL31 rfl)) rfl cpp_9 (fun w h => (Rd.view (rowRd h 0 encL31 rfl) (l := 0) (h := (Int.toNat ((rs_3.length : Nat) : Int))) (m := c_2) vg_1_hm)) (viewLen vg_1_hl) (Nat.sub_le_sub_right vg_1_hm _) h hp ?_
      intro r_4 w h hp
      refine ⟨_, rfl, ?_⟩
      replace h := h.sel [] 2
      dsimp only [pickL, pickR, nthH, delH, dropH, List.cons_append, List.nil_append] at h
      exact hR r_4 _ h hp
    clear hq
    refine embrasureref21_Places_ok (FL := row enc31 31 4 p_9 c_8 rs_3 :: row enc31 31 4 p_2 c_2 rs :: row enc31 31 4 p_3 c_3 rs_1 :: row enc31 31 4 p_6 c_6 rs_2 :: row enc31 31 4 bare8p bare8c bare :: FL) (fun w h => (rowRd h 1 encL31 rfl)) rfl cpp_2 (fun w h => (rowRd h 2 encL31 rfl)) rfl cpp_3 h hp ?_
    intro r_1 w h hp
    refine ⟨_, rfl, ?_⟩
    refine cond_both hp (fun hp => ?_) (fun hp => ?_)
    · replace h := h.sel [1, 0] 3
      dsimp only [pickL, pickR, nthH, delH, dropH, List.cons_append, List.nil_append] at h
      exact ⟨rfl, rfl, rfl, rfl, rfl, rfl, hp, h⟩
    refine embrasureref21_Places_ok (FL := row enc31 31 4 p_9 c_8 rs_3 :: row enc31 31 4 p_2 c_2 rs :: row enc31 31 4 p_3 c_3 rs_1 :: row enc31 31 4 p_6 c_6 rs_2 :: row enc31 31 4 bare8p bare8c bare :: FL) (fun w h => (rowRd h 1 encL31 rfl)) rfl cpp_2 (fun w h => (rowRd h 3 encL31 rfl)) rfl cpp_6 h hp ?_
    intro r_2 w h hp
    refine ⟨_, rfl, ?_⟩
    refine cond_both hp (fun hp => ?_) (fun hp => ?_)
    · replace h := h.sel [1, 0] 3
      dsimp only [pickL, pickR, nthH, delH, dropH, List.cons_append, List.nil_append] at h
      exact ⟨rfl, rfl, rfl, rfl, rfl, rfl, hp, h⟩
    refine embrasureref29_Ways_ok (FL := row enc31 31 4 p_9 c_8 rs_3 :: row enc31 31 4 p_2 c_2 rs :: row enc31 31 4 p_3 c_3 rs_1 :: row enc31 31 4 p_6 c_6 rs_2 :: row enc31 31 4 bare8p bare8c bare :: FL) (fun w h => (hF_places _ (h.drop 5))) rfl hc_places h hp ?_
    rintro rs_4 p_10 n_10 c_9 w rfl h hp
    have cpp_10 := rowCap h 0 rfl
    refine ⟨_, _, _, rfl, ?_⟩
    refine embrasureref21_Places_ok (FL := row enc31 31 4 p_10 c_9 rs_4 :: row enc31 31 4 p_9 c_8 rs_3 :: row enc31 31 4 p_2 c_2 rs :: row enc31 31 4 p_3 c_3 rs_1 :: row enc31 31 4 p_6 c_6 rs_2 :: row enc31 31 4 bare8p bare8c bare :: FL) (fun w h => (rowRd h 2 encL31 rfl)) rfl cpp_2 (fun w h => (rowRd h 0 encL31 rfl)) rfl cpp_10 h hp ?_
    intro r_3 w h hp
    refine ⟨_, rfl, ?_⟩
    refine cond_both hp (fun hp => ?_) (fun hp => ?_)
    · replace h := h.sel [2, 1] 4
      dsimp only [pickL, pickR, nthH, delH, dropH, List.cons_append, List.nil_append] at h
      exact ⟨rfl, rfl, rfl, rfl, rfl, rfl, hp, h⟩
    replace h := h.sel [2, 1] 4
    dsimp only [pickL, pickR, nthH, delH, dropH, List.cons_append, List.nil_append] at h
    exact ⟨rfl, rfl, rfl, rfl, rfl, rfl, hp, h⟩
  clear hq
  obtain ⟨I, ⟨n_8, h0⟩, hq⟩ := hp
  replace h := rowNil enc31 31 4 h
  replace h := h.sel [4, 3, 1, 0] 1
  dsimp only [pickL, pickR, nthH, delH, dropH, List.cons_append, List.nil_append] at h
  refine ⟨fun n_5 own0_1 places1_1p places1_1l places1_1c l5_1p l5_1l l5_1c again6_1p again6_1l again6_1c twice7_1p twice7_1l twice7_1c bare8_1p bare8_1l bare8_1c i9 w => ∃ (bare_1 : List (Int × Int × Int × Bool)), own = own0_1 ∧ p_1 = places1_1p ∧ places.length = places1_1l ∧ c_1 = places1_1c ∧ p_2 = l5_1p ∧ rs.length = l5_1l ∧ c_2 = l5_1c ∧ p_3 = again6_1p ∧ rs_1.length = again6_1l ∧ c_3 = again6_1c ∧ p_6 = twice7_1p ∧ rs_2.length = twice7_1l ∧ c_6 = twice7_1c ∧ bare8_1l = bare_1.length ∧ I n_5 bare_1 i9 ∧ Mem (row enc31 31 4 p_2 c_2 rs :: row enc31 31 4 p_3 c_3 rs_1 :: row enc31 31 4 p_6 c_6 rs_2 :: row enc31 31 4 bare8_1p bare8_1c bare_1 :: FL) w, ⟨n_8, ([] : List (Int × Int × Int × Bool)), rfl, rfl, rfl, rfl, rfl, rfl, rfl, rfl, rfl, rfl, rfl, rfl, rfl, rfl, h0, h⟩, ?_⟩
  clear h0 h
  rintro n_5 own0_1 places1_1p places1_1l places1_1c l5_1p l5_1l l5_1c again6_1p again6_1l again6_1c twice7_1p twice7_1l twice7_1c bare8_1p bare8_1l bare8_1c i9 w ⟨bare_1, rfl, rfl, rfl, rfl, rfl, rfl, rfl, rfl, rfl, rfl, rfl, rfl, rfl, rfl, hp, h⟩
  replace hp := hq n_5 bare_1 i9 hp
  clear hq
  unfold embrasurelaw29_PathWays_l3
  have cpbare8_1p := rowCap h 3 rfl
  refine cond_both' hp (fun hp => ?_) (fun hp => ?_)
  · exact ⟨bare_1, rfl, rfl, rfl, rfl, rfl, rfl, rfl, rfl, rfl, rfl, rfl, rfl, rfl, rfl, hp, h⟩
  obtain ⟨ia_1, ja_1, hp⟩ := hp
  obtain ⟨a_1, ha_1⟩ := rdAddr (hF_places _ (h.drop 4)) rfl ia_1 ja_1
  refine ⟨a_1, ha_1, ia_1, ja_1, ?_⟩
  obtain ⟨x_1, hx_1, hc⟩ := rdCell (hF_places _ (h.drop 4)) ha_1 rfl ia_1 ja_1
  replace hp := hp x_1 hx_1
  refine ⟨_, hc 3 _ rfl, ?_⟩
  refine cond_both' hp (fun hp => ?_) (fun hp => ?_)
  · obtain ⟨n_7, hn, hp⟩ := hp
    exact ⟨n_7, hn, bare_1, rfl, rfl, rfl, rfl, rfl, rfl, rfl, rfl, rfl, rfl, rfl, rfl, rfl, rfl, hp, h⟩
  obtain ⟨ia_2, ja_2, hp⟩ := hp
  obtain ⟨a_2, ha_2⟩ := rdAddr (hF_places _ (h.drop 4)) rfl ia_2 ja_2
  refine ⟨a_2, ha_2, ia_2, ja_2, ?_⟩
  obtain ⟨x_2, hx_2, hc⟩ := rdCell (hF_places _ (h.drop 4)) ha_2 rfl ia_2 ja_2
  replace hp := hp x_2 hx_2
  refine ⟨_, hc 0 _ rfl, _, hc 1 _ rfl, _, hc 2 _ rfl, _, hc 3 _ rfl, ?_⟩
  refine newL (o := [(Value.int .u32 x_2.1), (Value.int .i64 x_2.2.1), (Value.int .i64 x_2.2.2.1), (Value.bool x_2.2.2.2)]) h ?_
  intro b_2 w h
  have sr_2 := (celRd h 0 encL31 rfl [x_2] rfl)
  obtain ⟨hb, hp⟩ := hp
  refine appendL slt23 und23 encL31 encO31 h 4 rfl rfl sr_2 rfl hb ?_
  intro p_7 c_7 w h
  dsimp only [setH, setVs, setV] at h
  have cpp_7 := rowCap h 4 rfl
  refine ⟨_, _, _, rfl, ?_⟩
  replace h := h.sel [1, 1, 1, 1] 1
  dsimp only [pickL, pickR, nthH, delH, dropH, List.cons_append, List.nil_append] at h
  obtain ⟨n_6, hn, hp⟩ := hp
  exact ⟨n_6, hn, (bare_1 ++ [x_2]), rfl, rfl, rfl, rfl, rfl, rfl, rfl, rfl, rfl, rfl, rfl, rfl, rfl, rfl, hp, h⟩

/-! embrasure/embrasureref29.time (33) -/
def embrasureref29_time_wp (now : Int) (K : Bool → Prop) : Prop :=
  cond (decide ((now : Int) ≥ 0)) (K (decide ((now : Int) ≤ 1099511627776))) (K false)
theorem embrasureref29_time_ok {now : Int} {FL : List HP} {w : World} {K : Bool → Prop} {R : Value → World → Prop}
  (h : Mem (FL) w) (hp : embrasureref29_time_wp now K)
  (hR : ∀ (r : Bool) (w : World), Mem (FL) w → K r → R (Value.bool r) w) :
  CallV Try.prog 33 #[(Value.int .i64 now)] w R := by
  refine embrasureref29_time_call ?_
  unfold embrasureref29_time
  unfold embrasureref29_time_wp at hp
  refine cond_both hp (fun hp => ?_) (fun hp => ?_)
  · exact hR (decide ((now : Int) ≤ 1099511627776)) _ h hp
  exact hR false _ h hp

/-! (*embrasure/embrasureref29.Walker).try (34) -/
def embrasureref29_Walker_try_wp (L : List (Int × Int × Int × Bool)) (At : Int) (S : Int) (S_1 : Int) (S_2 : Int) (S_3 : Int) (S_4 : Bool) (S_5 : Int) (now : Int) (at_ : Int) (K : Int → Int → Int → Bool → Bool → Int → Int → Int → Int → Int → Bool → Int → Prop) : Prop :=
  cond (decide ((at_ : Int) ≥ ((L.length : Nat) : Int))) (K 0 0 0 (false) false at_ 4 0 0 0 false 0) (0 ≤ (at_ : Int) ∧ (at_ : Int) < ((L.length : Nat) : Int) ∧ (∀ (x_1 : Int × Int × Int × Bool), L[Int.toNat at_]? = some x_1 → (0 ≤ (at_ : Int) ∧ (at_ : Int) < ((L.length : Nat) : Int) ∧ (∀ (x_2 : Int × Int × Int × Bool), L[Int.toNat at_]? = some x_2 → (K x_2.1 x_2.2.1 x_2.2.2.1 x_2.2.2.2 true at_ 1 x_1.1 x_1.2.1 x_1.2.2.1 x_1.2.2.2 (IntKind.wrap .i64 (now + 10)))))))
theorem embrasureref29_Walker_try_ok {b_1 : Nat} {p_1 : Option Addr} {c_1 : Nat} {L : List (Int × Int × Int × Bool)} {At : Int} {S : Int} {S_1 : Int} {S_2 : Int} {S_3 : Int} {S_4 : Bool} {S_5 : Int} {now : Int} {at_ : Int} {FL : List HP} {w : World} {K : Int → Int → Int → Bool → Bool → Int → Int → Int → Int → Int → Bool → Int → Prop} {R : Value → World → Prop}
  (h : Mem (cel b_1 42 [(Value.slice p_1 L.length c_1), (Value.int .i64 At), (Value.int .i64 S), (Value.int .u32 S_1), (Value.int .i64 S_2), (Value.int .i64 S_3), (Value.bool S_4), (Value.int .i64 S_5)] :: row enc31 31 4 p_1 c_1 L :: FL) w) (hp : embrasureref29_Walker_try_wp L At S S_1 S_2 S_3 S_4 S_5 now at_ K)
  (hR : ∀ (r : Int) (r_1 : Int) (r_2 : Int) (r_3 : Bool) (r_4 : Bool) (At_1 : Int) (S_6 : Int) (S_7 : Int) (S_8 : Int) (S_9 : Int) (S_10 : Bool) (S_11 : Int) (w : World), Mem (cel b_1 42 [(Value.slice p_1 L.length c_1), (Value.int .i64 At_1), (Value.int .i64 S_6), (Value.int .u32 S_7), (Value.int .i64 S_8), (Value.int .i64 S_9), (Value.bool S_10), (Value.int .i64 S_11)] :: row enc31 31 4 p_1 c_1 L :: FL) w → K r r_1 r_2 r_3 r_4 At_1 S_6 S_7 S_8 S_9 S_10 S_11 → R (Value.tuple #[(Value.agg #[(Value.int .u32 r), (Value.int .i64 r_1), (Value.int .i64 r_2), (Value.bool r_3)]), (Value.bool r_4)]) w) :
  CallV Try.prog 34 #[(Value.pointer (some (Addr.mk b_1 0 none))), (Value.int .i64 now), (Value.int .i64 at_)] w R := by
  refine embrasureref29_Walker_try_call ?_
  unfold embrasureref29_Walker_try
  unfold embrasureref29_Walker_try_wp at hp
  have cpp_1 := rowCap h 1 rfl
  refine newL (o := [(Value.int .u32 0), (Value.int .i64 0), (Value.int .i64 0), (Value.bool false)]) h ?_
  intro b_2 w h
  refine ⟨_, rfl, ?_⟩
  refine storeL (ys := [(Value.int .i64 at_)]) h 1 1 rfl rfl rfl sz3 rfl rfl ?_
  intro w h
  dsimp only [setH, setVs, setV] at h
  refine ⟨_, rfl, ?_⟩
  refine storeL (ys := [(Value.int .i64 4), (Value.int .u32 0), (Value.int .i64 0), (Value.int .i64 0), (Value.bool false), (Value.int .i64 0)]) h 1 2 rfl rfl rfl sz35 rfl rfl ?_
  intro w h
  dsimp only [setH, setVs, setV] at h
  refine ⟨_, rfl, ?_⟩
  refine ⟨_, _, _, cellL h 1 0 rfl rfl rfl, ?_⟩
  refine cond_both hp (fun hp => ?_) (fun hp => ?_)
  · refine storeL (ys := [(Value.int .u32 0), (Value.int .i64 0), (Value.int .i64 0), (Value.bool false)]) h 0 0 rfl rfl rfl sz31 rfl rfl ?_
    intro w h
    dsimp only [setH, setVs, setV] at h
    refine ⟨_, cellL h 0 0 rfl rfl rfl, _, cellL h 0 1 rfl rfl rfl, _, cellL h 0 2 rfl rfl rfl, _, cellL h 0 3 rfl rfl rfl, ?_⟩
    replace h := h.sel [1, 1] 1
    dsimp only [pickL, pickR, nthH, delH, dropH, List.cons_append, List.nil_append] at h
    exact hR 0 0 0 (false) false at_ 4 0 0 0 false 0 _ h hp
  refine ⟨_, rfl, ?_⟩
  refine ⟨_, _, _, cellL h 1 0 rfl rfl rfl, ?_⟩
  obtain ⟨ia_1, ja_1, hp⟩ := hp
  obtain ⟨a_1, ha_1⟩ := rdAddr (rowRd h 2 encL31 rfl) rfl ia_1 ja_1
  refine ⟨a_1, ha_1, ia_1, ja_1, ?_⟩
  obtain ⟨x_1, hx_1, hc⟩ := rdCell (rowRd h 2 encL31 rfl) ha_1 rfl ia_1 ja_1
  replace hp := hp x_1 hx_1
  refine ⟨_, hc 0 _ rfl, _, hc 1 _ rfl, _, hc 2 _ rfl, _, hc 3 _ rfl, ?_⟩
  refine ⟨_, rfl, ?_⟩
  refine storeL (ys := [(Value.int .i64 1), (Value.int .u32 x_1.1), (Value.int .i64 x_1.2.1), (Value.int .i64 x_1.2.2.1), (Value.bool x_1.2.2.2), (Value.int .i64 (IntKind.wrap .i64 (now + 10)))]) h 1 2 rfl rfl rfl sz35 rfl rfl ?_
  intro w h
  dsimp only [setH, setVs, setV] at h
  refine ⟨_, rfl, ?_⟩
  refine ⟨_, _, _, cellL h 1 0 rfl rfl rfl, ?_⟩
  obtain ⟨ia_2, ja_2, hp⟩ := hp
  obtain ⟨a_2, ha_2⟩ := rdAddr (rowRd h 2 encL31 rfl) rfl ia_2 ja_2
  refine ⟨a_2, ha_2, ia_2, ja_2, ?_⟩
  obtain ⟨x_2, hx_2, hc⟩ := rdCell (rowRd h 2 encL31 rfl) ha_2 rfl ia_2 ja_2
  replace hp := hp x_2 hx_2
  refine ⟨_, hc 0 _ rfl, _, hc 1 _ rfl, _, hc 2 _ rfl, _, hc 3 _ rfl, ?_⟩
  refine storeL (ys := [(Value.int .u32 x_2.1), (Value.int .i64 x_2.2.1), (Value.int .i64 x_2.2.2.1), (Value.bool x_2.2.2.2)]) h 0 0 rfl rfl rfl sz31 rfl rfl ?_
  intro w h
  dsimp only [setH, setVs, setV] at h
  refine ⟨_, cellL h 0 0 rfl rfl rfl, _, cellL h 0 1 rfl rfl rfl, _, cellL h 0 2 rfl rfl rfl, _, cellL h 0 3 rfl rfl rfl, ?_⟩
  replace h := h.sel [1, 1] 1
  dsimp only [pickL, pickR, nthH, delH, dropH, List.cons_append, List.nil_append] at h
  exact hR x_2.1 x_2.2.1 x_2.2.2.1 x_2.2.2.2 true at_ 1 x_1.1 x_1.2.1 x_1.2.2.1 x_1.2.2.2 (IntKind.wrap .i64 (now + 10)) _ h hp

/-! (*embrasure/embrasureref29.Walker).Start (16) -/
def embrasureref29_Walker_Start_wp (L : List (Int × Int × Int × Bool)) (At : Int) (S : Int) (S_1 : Int) (S_2 : Int) (S_3 : Int) (S_4 : Bool) (S_5 : Int) (now : Int) (K : Int → Int → Int → Bool → Bool → Int → Int → Int → Int → Int → Bool → Int → Prop) : Prop :=
  joinP1 (fun (t24 : Bool) => cond t24 (K 0 0 0 (false) false At S S_1 S_2 S_3 S_4 S_5) (embrasureref29_Walker_try_wp L At S S_1 S_2 S_3 S_4 S_5 now 0 (fun (r_1 : Int) (r_2 : Int) (r_3 : Int) (r_4 : Bool) (r_5 : Bool) (At_2 : Int) (S_12 : Int) (S_13 : Int) (S_14 : Int) (S_15 : Int) (S_16 : Bool) (S_17 : Int) => K r_1 r_2 r_3 r_4 r_5 At_2 S_12 S_13 S_14 S_15 S_16 S_17))) (fun (Q : Bool → Prop) => embrasureref29_time_wp now (fun (r : Bool) => cond (!r) (Q true) (cond ((S : Int) != 0) (Q ((S : Int) != 4)) (Q false))))
theorem embrasureref29_Walker_Start_ok {b_1 : Nat} {p_1 : Option Addr} {c_1 : Nat} {L : List (Int × Int × Int × Bool)} {At : Int} {S : Int} {S_1 : Int} {S_2 : Int} {S_3 : Int} {S_4 : Bool} {S_5 : Int} {now : Int} {FL : List HP} {w : World} {K : Int → Int → Int → Bool → Bool → Int → Int → Int → Int → Int → Bool → Int → Prop} {R : Value → World → Prop}
  (h : Mem (cel b_1 42 [(Value.slice p_1 L.length c_1), (Value.int .i64 At), (Value.int .i64 S), (Value.int .u32 S_1), (Value.int .i64 S_2), (Value.int .i64 S_3), (Value.bool S_4), (Value.int .i64 S_5)] :: row enc31 31 4 p_1 c_1 L :: FL) w) (hp : embrasureref29_Walker_Start_wp L At S S_1 S_2 S_3 S_4 S_5 now K)
  (hR : ∀ (r : Int) (r_1 : Int) (r_2 : Int) (r_3 : Bool) (r_4 : Bool) (At_1 : Int) (S_6 : Int) (S_7 : Int) (S_8 : Int) (S_9 : Int) (S_10 : Bool) (S_11 : Int) (w : World), Mem (cel b_1 42 [(Value.slice p_1 L.length c_1), (Value.int .i64 At_1), (Value.int .i64 S_6), (Value.int .u32 S_7), (Value.int .i64 S_8), (Value.int .i64 S_9), (Value.bool S_10), (Value.int .i64 S_11)] :: row enc31 31 4 p_1 c_1 L :: FL) w → K r r_1 r_2 r_3 r_4 At_1 S_6 S_7 S_8 S_9 S_10 S_11 → R (Value.tuple #[(Value.agg #[(Value.int .u32 r), (Value.int .i64 r_1), (Value.int .i64 r_2), (Value.bool r_3)]), (Value.bool r_4)]) w) :
  CallV Try.prog 16 #[(Value.pointer (some (Addr.mk b_1 0 none))), (Value.int .i64 now)] w R := by
  refine embrasureref29_Walker_Start_call ?_
  unfold embrasureref29_Walker_Start
  unfold embrasureref29_Walker_Start_wp at hp
  have cpp_1 := rowCap h 1 rfl
  refine newL (o := [(Value.int .u32 0), (Value.int .i64 0), (Value.int .i64 0), (Value.bool false)]) h ?_
  intro b_2 w h
  obtain ⟨Q, hq, hp⟩ := hp
  refine ⟨fun w0 now1 t4 t24 w => (some (Addr.mk b_1 0 none)) = w0 ∧ now = now1 ∧ (Addr.mk b_2 0 none) = t4 ∧ Q t24 ∧ Mem (cel b_2 31 [(Value.int .u32 0), (Value.int .i64 0), (Value.int .i64 0), (Value.bool false)] :: cel b_1 42 [(Value.slice p_1 L.length c_1), (Value.int .i64 At), (Value.int .i64 S), (Value.int .u32 S_1), (Value.int .i64 S_2), (Value.int .i64 S_3), (Value.bool S_4), (Value.int .i64 S_5)] :: row enc31 31 4 p_1 c_1 L :: FL) w, ?_, ?_⟩
  · rintro w0 now1 t4 t24 w ⟨rfl, rfl, rfl, hp, h⟩
    replace hp := hq t24 hp
    unfold embrasureref29_Walker_Start_j1
    refine cond_both hp (fun hp => ?_) (fun hp => ?_)
    · refine storeL (ys := [(Value.int .u32 0), (Value.int .i64 0), (Value.int .i64 0), (Value.bool false)]) h 0 0 rfl rfl rfl sz31 rfl rfl ?_
      intro w h
      dsimp only [setH, setVs, setV] at h
      refine ⟨_, cellL h 0 0 rfl rfl rfl, _, cellL h 0 1 rfl rfl rfl, _, cellL h 0 2 rfl rfl rfl, _, cellL h 0 3 rfl rfl rfl, ?_⟩
      replace h := h.sel [1, 1] 1
      dsimp only [pickL, pickR, nthH, delH, dropH, List.cons_append, List.nil_append] at h
      exact hR 0 0 0 (false) false At S S_1 S_2 S_3 S_4 S_5 _ h hp
    replace h := h.pick [1, 1]
    dsimp only [pickL, pickR, nthH, delH, dropH, List.cons_append, List.nil_append] at h
    refine embrasureref29_Walker_try_ok h hp ?_
    intro r_1 r_2 r_3 r_4 r_5 At_2 S_12 S_13 S_14 S_15 S_16 S_17 w h hp
    have cpp_1 := rowCap h 1 rfl
    refine ⟨_, _, _, _, _, rfl, ?_⟩
    refine ⟨_, _, _, _, rfl, ?_⟩
    refine storeL (ys := [(Value.int .u32 r_1), (Value.int .i64 r_2), (Value.int .i64 r_3), (Value.bool r_4)]) h 2 0 rfl rfl rfl sz31 rfl rfl ?_
    intro w h
    dsimp only [setH, setVs, setV] at h
    refine ⟨_, cellL h 2 0 rfl rfl rfl, _, cellL h 2 1 rfl rfl rfl, _, cellL h 2 2 rfl rfl rfl, _, cellL h 2 3 rfl rfl rfl, ?_⟩
    replace h := h.sel [0, 0] 1
    dsimp only [pickL, pickR, nthH, delH, dropH, List.cons_append, List.nil_append] at h
    exact hR r_1 r_2 r_3 r_4 r_5 At_2 S_12 S_13 S_14 S_15 S_16 S_17 _ h hp
  clear hq
  refine embrasureref29_time_ok h hp ?_
  intro r w h hp
  refine ⟨_, rfl, ?_⟩
  refine cond_both hp (fun hp => ?_) (fun hp => ?_)
  · exact ⟨rfl, rfl, rfl, hp, h⟩
  refine ⟨_, rfl, ?_⟩
  refine ⟨_, cellL h 1 2 rfl rfl rfl, ?_⟩
  refine cond_both' hp (fun hp => ?_) (fun hp => ?_)
  · exact ⟨rfl, rfl, rfl, hp, h⟩
  refine ⟨_, rfl, ?_⟩
  refine ⟨_, cellL h 1 2 rfl rfl rfl, ?_⟩
  exact ⟨rfl, rfl, rfl, hp, h⟩

/-! (*embrasure/embrasureref29.Walker).Tick (17) -/
def embrasureref29_Walker_Tick_wp (L : List (Int × Int × Int × Bool)) (At : Int) (S : Int) (S_1 : Int) (S_2 : Int) (S_3 : Int) (S_4 : Bool) (S_5 : Int) (now : Int) (K : Int → Int → Int → Bool → Bool → Int → Int → Int → Int → Int → Bool → Int → Prop) : Prop :=
  joinP1 (fun (t25 : Bool) => cond t25 (K 0 0 0 (false) false At S S_1 S_2 S_3 S_4 S_5) (embrasureref29_Walker_try_wp L At S S_1 S_2 S_3 S_4 S_5 now (IntKind.wrap .i64 (At + 1)) (fun (r_1 : Int) (r_2 : Int) (r_3 : Int) (r_4 : Bool) (r_5 : Bool) (At_2 : Int) (S_12 : Int) (S_13 : Int) (S_14 : Int) (S_15 : Int) (S_16 : Bool) (S_17 : Int) => K r_1 r_2 r_3 r_4 r_5 At_2 S_12 S_13 S_14 S_15 S_16 S_17))) (fun (Q : Bool → Prop) => embrasureref29_time_wp now (fun (r : Bool) => cond (!r) (Q true) (cond ((S : Int) != 1) (Q true) (Q (decide ((now : Int) < S_5))))))
theorem embrasureref29_Walker_Tick_ok {b_1 : Nat} {p_1 : Option Addr} {c_1 : Nat} {L : List (Int × Int × Int × Bool)} {At : Int} {S : Int} {S_1 : Int} {S_2 : Int} {S_3 : Int} {S_4 : Bool} {S_5 : Int} {now : Int} {FL : List HP} {w : World} {K : Int → Int → Int → Bool → Bool → Int → Int → Int → Int → Int → Bool → Int → Prop} {R : Value → World → Prop}
  (h : Mem (cel b_1 42 [(Value.slice p_1 L.length c_1), (Value.int .i64 At), (Value.int .i64 S), (Value.int .u32 S_1), (Value.int .i64 S_2), (Value.int .i64 S_3), (Value.bool S_4), (Value.int .i64 S_5)] :: row enc31 31 4 p_1 c_1 L :: FL) w) (hp : embrasureref29_Walker_Tick_wp L At S S_1 S_2 S_3 S_4 S_5 now K)
  (hR : ∀ (r : Int) (r_1 : Int) (r_2 : Int) (r_3 : Bool) (r_4 : Bool) (At_1 : Int) (S_6 : Int) (S_7 : Int) (S_8 : Int) (S_9 : Int) (S_10 : Bool) (S_11 : Int) (w : World), Mem (cel b_1 42 [(Value.slice p_1 L.length c_1), (Value.int .i64 At_1), (Value.int .i64 S_6), (Value.int .u32 S_7), (Value.int .i64 S_8), (Value.int .i64 S_9), (Value.bool S_10), (Value.int .i64 S_11)] :: row enc31 31 4 p_1 c_1 L :: FL) w → K r r_1 r_2 r_3 r_4 At_1 S_6 S_7 S_8 S_9 S_10 S_11 → R (Value.tuple #[(Value.agg #[(Value.int .u32 r), (Value.int .i64 r_1), (Value.int .i64 r_2), (Value.bool r_3)]), (Value.bool r_4)]) w) :
  CallV Try.prog 17 #[(Value.pointer (some (Addr.mk b_1 0 none))), (Value.int .i64 now)] w R := by
  refine embrasureref29_Walker_Tick_call ?_
  unfold embrasureref29_Walker_Tick
  unfold embrasureref29_Walker_Tick_wp at hp
  have cpp_1 := rowCap h 1 rfl
  refine newL (o := [(Value.int .u32 0), (Value.int .i64 0), (Value.int .i64 0), (Value.bool false)]) h ?_
  intro b_2 w h
  obtain ⟨Q, hq, hp⟩ := hp
  refine ⟨fun w0 now1 t4 t25 w => (some (Addr.mk b_1 0 none)) = w0 ∧ now = now1 ∧ (Addr.mk b_2 0 none) = t4 ∧ Q t25 ∧ Mem (cel b_2 31 [(Value.int .u32 0), (Value.int .i64 0), (Value.int .i64 0), (Value.bool false)] :: cel b_1 42 [(Value.slice p_1 L.length c_1), (Value.int .i64 At), (Value.int .i64 S), (Value.int .u32 S_1), (Value.int .i64 S_2), (Value.int .i64 S_3), (Value.bool S_4), (Value.int .i64 S_5)] :: row enc31 31 4 p_1 c_1 L :: FL) w, ?_, ?_⟩
  · rintro w0 now1 t4 t25 w ⟨rfl, rfl, rfl, hp, h⟩
    replace hp := hq t25 hp
    unfold embrasureref29_Walker_Tick_j1
    refine cond_both hp (fun hp => ?_) (fun hp => ?_)
    · refine storeL (ys := [(Value.int .u32 0), (Value.int .i64 0), (Value.int .i64 0), (Value.bool false)]) h 0 0 rfl rfl rfl sz31 rfl rfl ?_
      intro w h
      dsimp only [setH, setVs, setV] at h
      refine ⟨_, cellL h 0 0 rfl rfl rfl, _, cellL h 0 1 rfl rfl rfl, _, cellL h 0 2 rfl rfl rfl, _, cellL h 0 3 rfl rfl rfl, ?_⟩
      replace h := h.sel [1, 1] 1
      dsimp only [pickL, pickR, nthH, delH, dropH, List.cons_append, List.nil_append] at h
      exact hR 0 0 0 (false) false At S S_1 S_2 S_3 S_4 S_5 _ h hp
    refine ⟨_, rfl, ?_⟩
    refine ⟨_, cellL h 1 1 rfl rfl rfl, ?_⟩
    replace h := h.pick [1, 1]
    dsimp only [pickL, pickR, nthH, delH, dropH, List.cons_append, List.nil_append] at h
    refine embrasureref29_Walker_try_ok h hp ?_
    intro r_1 r_2 r_3 r_4 r_5 At_2 S_12 S_13 S_14 S_15 S_16 S_17 w h hp
    have cpp_1 := rowCap h 1 rfl
    refine ⟨_, _, _, _, _, rfl, ?_⟩
    refine ⟨_, _, _, _, rfl, ?_⟩
    refine storeL (ys := [(Value.int .u32 r_1), (Value.int .i64 r_2), (Value.int .i64 r_3), (Value.bool r_4)]) h 2 0 rfl rfl rfl sz31 rfl rfl ?_
    intro w h
    dsimp only [setH, setVs, setV] at h
    refine ⟨_, cellL h 2 0 rfl rfl rfl, _, cellL h 2 1 rfl rfl rfl, _, cellL h 2 2 rfl rfl rfl, _, cellL h 2 3 rfl rfl rfl, ?_⟩
    replace h := h.sel [0, 0] 1
    dsimp only [pickL, pickR, nthH, delH, dropH, List.cons_append, List.nil_append] at h
    exact hR r_1 r_2 r_3 r_4 r_5 At_2 S_12 S_13 S_14 S_15 S_16 S_17 _ h hp
  clear hq
  refine embrasureref29_time_ok h hp ?_
  intro r w h hp
  refine ⟨_, rfl, ?_⟩
  refine cond_both hp (fun hp => ?_) (fun hp => ?_)
  · exact ⟨rfl, rfl, rfl, hp, h⟩
  refine ⟨_, rfl, ?_⟩
  refine ⟨_, cellL h 1 2 rfl rfl rfl, ?_⟩
  refine cond_both hp (fun hp => ?_) (fun hp => ?_)
  · exact ⟨rfl, rfl, rfl, hp, h⟩
  refine ⟨_, rfl, ?_⟩
  refine ⟨_, cellL h 1 7 rfl rfl rfl, ?_⟩
  exact ⟨rfl, rfl, rfl, hp, h⟩

/-! (*embrasure/embrasureref29.Walker).Open (19) -/
def embrasureref29_Walker_Open_wp (At : Int) (S : Int) (S_1 : Int) (S_2 : Int) (S_3 : Int) (S_4 : Bool) (S_5 : Int) (now : Int) (K : Bool → Int → Int → Prop) : Prop :=
  joinP1 (fun (t15 : Bool) => cond t15 (K false S S_5) (cond S_4 (K true 3 0) (K true 2 0))) (fun (Q : Bool → Prop) => embrasureref29_time_wp now (fun (r : Bool) => cond (!r) (Q true) (Q ((S : Int) != 1))))
theorem embrasureref29_Walker_Open_ok {b_1 : Nat} {p_1 : Option Addr} {n_1 : Nat} {c_1 : Nat} {At : Int} {S : Int} {S_1 : Int} {S_2 : Int} {S_3 : Int} {S_4 : Bool} {S_5 : Int} {now : Int} {FL : List HP} {w : World} {K : Bool → Int → Int → Prop} {R : Value → World → Prop}
  (h : Mem (cel b_1 42 [(Value.slice p_1 n_1 c_1), (Value.int .i64 At), (Value.int .i64 S), (Value.int .u32 S_1), (Value.int .i64 S_2), (Value.int .i64 S_3), (Value.bool S_4), (Value.int .i64 S_5)] :: FL) w) (hp : embrasureref29_Walker_Open_wp At S S_1 S_2 S_3 S_4 S_5 now K)
  (hR : ∀ (r : Bool) (S_6 : Int) (S_7 : Int) (w : World), Mem (cel b_1 42 [(Value.slice p_1 n_1 c_1), (Value.int .i64 At), (Value.int .i64 S_6), (Value.int .u32 S_1), (Value.int .i64 S_2), (Value.int .i64 S_3), (Value.bool S_4), (Value.int .i64 S_7)] :: FL) w → K r S_6 S_7 → R (Value.bool r) w) :
  CallV Try.prog 19 #[(Value.pointer (some (Addr.mk b_1 0 none))), (Value.int .i64 now)] w R := by
  refine embrasureref29_Walker_Open_call ?_
  unfold embrasureref29_Walker_Open
  unfold embrasureref29_Walker_Open_wp at hp
  obtain ⟨Q, hq, hp⟩ := hp
  refine ⟨fun w0 t15 w => (some (Addr.mk b_1 0 none)) = w0 ∧ Q t15 ∧ Mem (cel b_1 42 [(Value.slice p_1 n_1 c_1), (Value.int .i64 At), (Value.int .i64 S), (Value.int .u32 S_1), (Value.int .i64 S_2), (Value.int .i64 S_3), (Value.bool S_4), (Value.int .i64 S_5)] :: FL) w, ?_, ?_⟩
  · rintro w0 t15 w ⟨rfl, hp, h⟩
    replace hp := hq t15 hp
    unfold embrasureref29_Walker_Open_j1
    refine cond_both hp (fun hp => ?_) (fun hp => ?_)
    · exact hR false S S_5 _ h hp
    refine ⟨_, rfl, ?_⟩
    refine storeL (ys := [(Value.int .i64 0)]) h 0 7 rfl rfl rfl sz3 rfl rfl ?_
    intro w h
    dsimp only [setH, setVs, setV] at h
    refine ⟨_, rfl, ?_⟩
    refine storeL (ys := [(Value.int .i64 2)]) h 0 2 rfl rfl rfl sz3 rfl rfl ?_
    intro w h
    dsimp only [setH, setVs, setV] at h
    refine ⟨_, rfl, ?_⟩
    refine ⟨_, cellL h 0 6 rfl rfl rfl, ?_⟩
    refine cond_both' hp (fun hp => ?_) (fun hp => ?_)
    · exact hR true 2 0 _ h hp
    refine ⟨_, rfl, ?_⟩
    refine storeL (ys := [(Value.int .i64 3)]) h 0 2 rfl rfl rfl sz3 rfl rfl ?_
    intro w h
    dsimp only [setH, setVs, setV] at h
    exact hR true 3 0 _ h hp
  clear hq
  refine embrasureref29_time_ok h hp ?_
  intro r w h hp
  refine ⟨_, rfl, ?_⟩
  refine cond_both hp (fun hp => ?_) (fun hp => ?_)
  · exact ⟨rfl, hp, h⟩
  refine ⟨_, rfl, ?_⟩
  refine ⟨_, cellL h 0 2 rfl rfl rfl, ?_⟩
  exact ⟨rfl, hp, h⟩

/-! (*embrasure/embrasureref29.Walker).Punched (21) -/
def embrasureref29_Walker_Punched_wp (At : Int) (S : Int) (S_1 : Int) (S_2 : Int) (S_3 : Int) (S_4 : Bool) (S_5 : Int) (now : Int) (by_Host : Int) (by_Port : Int) (K : Bool → Int → Int → Int → Int → Bool → Int → Prop) : Prop :=
  joinP1 (fun (t22 : Bool) => cond t22 (K false S S_1 S_2 S_3 S_4 S_5) (K true 2 by_Host by_Port 0 false 0)) (fun (Q : Bool → Prop) => embrasureref29_time_wp now (fun (r : Bool) => cond (!r) (Q true) (cond ((S : Int) != 3) (Q true) (embrasureref03_May_wp by_Host by_Port (fun (r_1 : Bool) => Q (!r_1))))))
theorem embrasureref29_Walker_Punched_ok {b_1 : Nat} {p_1 : Option Addr} {n_1 : Nat} {c_1 : Nat} {At : Int} {S : Int} {S_1 : Int} {S_2 : Int} {S_3 : Int} {S_4 : Bool} {S_5 : Int} {now : Int} {by_Host : Int} {by_Port : Int} {FL : List HP} {w : World} {K : Bool → Int → Int → Int → Int → Bool → Int → Prop} {R : Value → World → Prop}
  (h : Mem (cel b_1 42 [(Value.slice p_1 n_1 c_1), (Value.int .i64 At), (Value.int .i64 S), (Value.int .u32 S_1), (Value.int .i64 S_2), (Value.int .i64 S_3), (Value.bool S_4), (Value.int .i64 S_5)] :: FL) w) (hp : embrasureref29_Walker_Punched_wp At S S_1 S_2 S_3 S_4 S_5 now by_Host by_Port K)
  (hR : ∀ (r : Bool) (S_6 : Int) (S_7 : Int) (S_8 : Int) (S_9 : Int) (S_10 : Bool) (S_11 : Int) (w : World), Mem (cel b_1 42 [(Value.slice p_1 n_1 c_1), (Value.int .i64 At), (Value.int .i64 S_6), (Value.int .u32 S_7), (Value.int .i64 S_8), (Value.int .i64 S_9), (Value.bool S_10), (Value.int .i64 S_11)] :: FL) w → K r S_6 S_7 S_8 S_9 S_10 S_11 → R (Value.bool r) w) :
  CallV Try.prog 21 #[(Value.pointer (some (Addr.mk b_1 0 none))), (Value.int .i64 now), (Value.agg #[(Value.int .u32 by_Host), (Value.int .i64 by_Port)])] w R := by
  refine embrasureref29_Walker_Punched_call ?_
  unfold embrasureref29_Walker_Punched
  unfold embrasureref29_Walker_Punched_wp at hp
  refine newL (o := [(Value.int .u32 by_Host), (Value.int .i64 by_Port)]) h ?_
  intro b_2 w h
  obtain ⟨Q, hq, hp⟩ := hp
  refine ⟨fun w0 by5 t22 w => (some (Addr.mk b_1 0 none)) = w0 ∧ (Addr.mk b_2 0 none) = by5 ∧ Q t22 ∧ Mem (cel b_2 29 [(Value.int .u32 by_Host), (Value.int .i64 by_Port)] :: cel b_1 42 [(Value.slice p_1 n_1 c_1), (Value.int .i64 At), (Value.int .i64 S), (Value.int .u32 S_1), (Value.int .i64 S_2), (Value.int .i64 S_3), (Value.bool S_4), (Value.int .i64 S_5)] :: FL) w, ?_, ?_⟩
  · rintro w0 by5 t22 w ⟨rfl, rfl, hp, h⟩
    replace hp := hq t22 hp
    unfold embrasureref29_Walker_Punched_j1
    refine cond_both hp (fun hp => ?_) (fun hp => ?_)
    · replace h := h.sel [1] 1
      dsimp only [pickL, pickR, nthH, delH, dropH, List.cons_append, List.nil_append] at h
      exact hR false S S_1 S_2 S_3 S_4 S_5 _ h hp
    refine ⟨_, cellL h 0 0 rfl rfl rfl, _, cellL h 0 1 rfl rfl rfl, ?_⟩
    refine ⟨_, rfl, ?_⟩
    refine storeL (ys := [(Value.int .i64 2), (Value.int .u32 by_Host), (Value.int .i64 by_Port), (Value.int .i64 0), (Value.bool false), (Value.int .i64 0)]) h 1 2 rfl rfl rfl sz35 rfl rfl ?_
    intro w h
    dsimp only [setH, setVs, setV] at h
    replace h := h.sel [1] 1
    dsimp only [pickL, pickR, nthH, delH, dropH, List.cons_append, List.nil_append] at h
    exact hR true 2 by_Host by_Port 0 false 0 _ h hp
  clear hq
  refine embrasureref29_time_ok h hp ?_
  intro r w h hp
  refine ⟨_, rfl, ?_⟩
  refine cond_both hp (fun hp => ?_) (fun hp => ?_)
  · exact ⟨rfl, rfl, hp, h⟩
  refine ⟨_, rfl, ?_⟩
  refine ⟨_, cellL h 1 2 rfl rfl rfl, ?_⟩
  refine cond_both hp (fun hp => ?_) (fun hp => ?_)
  · exact ⟨rfl, rfl, hp, h⟩
  refine ⟨_, cellL h 0 0 rfl rfl rfl, _, cellL h 0 1 rfl rfl rfl, ?_⟩
  refine embrasureref03_May_ok h hp ?_
  intro r_1 w h hp
  refine ⟨_, rfl, ?_⟩
  exact ⟨rfl, rfl, hp, h⟩

/-! (*embrasure/path.Walker).Lost (22) -/
def path_Walker_Lost_wp (ways : List (Int × Int × Int × Bool)) (at_ : Int) (s : Int) (s_1 : Int) (s_2 : Int) (s_3 : Int) (s_4 : Bool) (s_5 : Int) (now : Int) (K : Int → Int → Int → Bool → Bool → Int → Int → Int → Int → Int → Bool → Int → Prop) : Prop :=
  joinP1 (fun (t24 : Bool) => cond t24 (K 0 0 0 (false) false at_ s s_1 s_2 s_3 s_4 s_5) (path_Walker_try_wp ways at_ s s_1 s_2 s_3 s_4 s_5 now 0 (fun (r_1 : Int) (r_2 : Int) (r_3 : Int) (r_4 : Bool) (r_5 : Bool) (at__2 : Int) (s_12 : Int) (s_13 : Int) (s_14 : Int) (s_15 : Int) (s_16 : Bool) (s_17 : Int) => K r_1 r_2 r_3 r_4 r_5 at__2 s_12 s_13 s_14 s_15 s_16 s_17))) (fun (Q : Bool → Prop) => path_mayTime_wp now (fun (r : Bool) => cond (!r) (Q true) (cond ((s : Int) != 2) (Q ((s : Int) != 3)) (Q false))))
theorem path_Walker_Lost_ok {b_1 : Nat} {p_1 : Option Addr} {c_1 : Nat} {ways : List (Int × Int × Int × Bool)} {at_ : Int} {s : Int} {s_1 : Int} {s_2 : Int} {s_3 : Int} {s_4 : Bool} {s_5 : Int} {now : Int} {FL : List HP} {w : World} {K : Int → Int → Int → Bool → Bool → Int → Int → Int → Int → Int → Bool → Int → Prop} {R : Value → World → Prop}
  (h : Mem (cel b_1 51 [(Value.slice p_1 ways.length c_1), (Value.int .i64 at_), (Value.int .i64 s), (Value.int .u32 s_1), (Value.int .i64 s_2), (Value.int .i64 s_3), (Value.bool s_4), (Value.int .i64 s_5)] :: row enc31 31 4 p_1 c_1 ways :: FL) w) (hp : path_Walker_Lost_wp ways at_ s s_1 s_2 s_3 s_4 s_5 now K)
  (hR : ∀ (r : Int) (r_1 : Int) (r_2 : Int) (r_3 : Bool) (r_4 : Bool) (at__1 : Int) (s_6 : Int) (s_7 : Int) (s_8 : Int) (s_9 : Int) (s_10 : Bool) (s_11 : Int) (w : World), Mem (cel b_1 51 [(Value.slice p_1 ways.length c_1), (Value.int .i64 at__1), (Value.int .i64 s_6), (Value.int .u32 s_7), (Value.int .i64 s_8), (Value.int .i64 s_9), (Value.bool s_10), (Value.int .i64 s_11)] :: row enc31 31 4 p_1 c_1 ways :: FL) w → K r r_1 r_2 r_3 r_4 at__1 s_6 s_7 s_8 s_9 s_10 s_11 → R (Value.tuple #[(Value.agg #[(Value.int .u32 r), (Value.int .i64 r_1), (Value.int .i64 r_2), (Value.bool r_3)]), (Value.bool r_4)]) w) :
  CallV Try.prog 22 #[(Value.pointer (some (Addr.mk b_1 0 none))), (Value.int .i64 now)] w R := by
  refine path_Walker_Lost_call ?_
  unfold path_Walker_Lost
  unfold path_Walker_Lost_wp at hp
  have cpp_1 := rowCap h 1 rfl
  refine newL (o := [(Value.int .u32 0), (Value.int .i64 0), (Value.int .i64 0), (Value.bool false)]) h ?_
  intro b_2 w h
  obtain ⟨Q, hq, hp⟩ := hp
  refine ⟨fun w0 now1 t4 t24 w => (some (Addr.mk b_1 0 none)) = w0 ∧ now = now1 ∧ (Addr.mk b_2 0 none) = t4 ∧ Q t24 ∧ Mem (cel b_2 31 [(Value.int .u32 0), (Value.int .i64 0), (Value.int .i64 0), (Value.bool false)] :: cel b_1 51 [(Value.slice p_1 ways.length c_1), (Value.int .i64 at_), (Value.int .i64 s), (Value.int .u32 s_1), (Value.int .i64 s_2), (Value.int .i64 s_3), (Value.bool s_4), (Value.int .i64 s_5)] :: row enc31 31 4 p_1 c_1 ways :: FL) w, ?_, ?_⟩
  · rintro w0 now1 t4 t24 w ⟨rfl, rfl, rfl, hp, h⟩
    replace hp := hq t24 hp
    unfold path_Walker_Lost_j1
    refine cond_both hp (fun hp => ?_) (fun hp => ?_)
    · refine storeL (ys := [(Value.int .u32 0), (Value.int .i64 0), (Value.int .i64 0), (Value.bool false)]) h 0 0 rfl rfl rfl sz31 rfl rfl ?_
      intro w h
      dsimp only [setH, setVs, setV] at h
      refine ⟨_, cellL h 0 0 rfl rfl rfl, _, cellL h 0 1 rfl rfl rfl, _, cellL h 0 2 rfl rfl rfl, _, cellL h 0 3 rfl rfl rfl, ?_⟩
      replace h := h.sel [1, 1] 1
      dsimp only [pickL, pickR, nthH, delH, dropH, List.cons_append, List.nil_append] at h
      exact hR 0 0 0 (false) false at_ s s_1 s_2 s_3 s_4 s_5 _ h hp
    replace h := h.pick [1, 1]
    dsimp only [pickL, pickR, nthH, delH, dropH, List.cons_append, List.nil_append] at h
    refine path_Walker_try_ok h hp ?_
    intro r_1 r_2 r_3 r_4 r_5 at__2 s_12 s_13 s_14 s_15 s_16 s_17 w h hp
    have cpp_1 := rowCap h 1 rfl
    refine ⟨_, _, _, _, _, rfl, ?_⟩
    refine ⟨_, _, _, _, rfl, ?_⟩
    refine storeL (ys := [(Value.int .u32 r_1), (Value.int .i64 r_2), (Value.int .i64 r_3), (Value.bool r_4)]) h 2 0 rfl rfl rfl sz31 rfl rfl ?_
    intro w h
    dsimp only [setH, setVs, setV] at h
    refine ⟨_, cellL h 2 0 rfl rfl rfl, _, cellL h 2 1 rfl rfl rfl, _, cellL h 2 2 rfl rfl rfl, _, cellL h 2 3 rfl rfl rfl, ?_⟩
    replace h := h.sel [0, 0] 1
    dsimp only [pickL, pickR, nthH, delH, dropH, List.cons_append, List.nil_append] at h
    exact hR r_1 r_2 r_3 r_4 r_5 at__2 s_12 s_13 s_14 s_15 s_16 s_17 _ h hp
  clear hq
  refine path_mayTime_ok h hp ?_
  intro r w h hp
  refine ⟨_, rfl, ?_⟩
  refine cond_both hp (fun hp => ?_) (fun hp => ?_)
  · exact ⟨rfl, rfl, rfl, hp, h⟩
  refine ⟨_, rfl, ?_⟩
  refine ⟨_, cellL h 1 2 rfl rfl rfl, ?_⟩
  refine cond_both' hp (fun hp => ?_) (fun hp => ?_)
  · exact ⟨rfl, rfl, rfl, hp, h⟩
  refine ⟨_, rfl, ?_⟩
  refine ⟨_, cellL h 1 2 rfl rfl rfl, ?_⟩
  exact ⟨rfl, rfl, rfl, hp, h⟩

/-! (*embrasure/embrasureref29.Walker).Lost (23) -/
def embrasureref29_Walker_Lost_wp (L : List (Int × Int × Int × Bool)) (At : Int) (S : Int) (S_1 : Int) (S_2 : Int) (S_3 : Int) (S_4 : Bool) (S_5 : Int) (now : Int) (K : Int → Int → Int → Bool → Bool → Int → Int → Int → Int → Int → Bool → Int → Prop) : Prop :=
  joinP1 (fun (t24 : Bool) => cond t24 (K 0 0 0 (false) false At S S_1 S_2 S_3 S_4 S_5) (embrasureref29_Walker_try_wp L At S S_1 S_2 S_3 S_4 S_5 now 0 (fun (r_1 : Int) (r_2 : Int) (r_3 : Int) (r_4 : Bool) (r_5 : Bool) (At_2 : Int) (S_12 : Int) (S_13 : Int) (S_14 : Int) (S_15 : Int) (S_16 : Bool) (S_17 : Int) => K r_1 r_2 r_3 r_4 r_5 At_2 S_12 S_13 S_14 S_15 S_16 S_17))) (fun (Q : Bool → Prop) => embrasureref29_time_wp now (fun (r : Bool) => cond (!r) (Q true) (cond ((S : Int) != 2) (Q ((S : Int) != 3)) (Q false))))
theorem embrasureref29_Walker_Lost_ok {b_1 : Nat} {p_1 : Option Addr} {c_1 : Nat} {L : List (Int × Int × Int × Bool)} {At : Int} {S : Int} {S_1 : Int} {S_2 : Int} {S_3 : Int} {S_4 : Bool} {S_5 : Int} {now : Int} {FL : List HP} {w : World} {K : Int → Int → Int → Bool → Bool → Int → Int → Int → Int → Int → Bool → Int → Prop} {R : Value → World → Prop}
  (h : Mem (cel b_1 42 [(Value.slice p_1 L.length c_1), (Value.int .i64 At), (Value.int .i64 S), (Value.int .u32 S_1), (Value.int .i64 S_2), (Value.int .i64 S_3), (Value.bool S_4), (Value.int .i64 S_5)] :: row enc31 31 4 p_1 c_1 L :: FL) w) (hp : embrasureref29_Walker_Lost_wp L At S S_1 S_2 S_3 S_4 S_5 now K)
  (hR : ∀ (r : Int) (r_1 : Int) (r_2 : Int) (r_3 : Bool) (r_4 : Bool) (At_1 : Int) (S_6 : Int) (S_7 : Int) (S_8 : Int) (S_9 : Int) (S_10 : Bool) (S_11 : Int) (w : World), Mem (cel b_1 42 [(Value.slice p_1 L.length c_1), (Value.int .i64 At_1), (Value.int .i64 S_6), (Value.int .u32 S_7), (Value.int .i64 S_8), (Value.int .i64 S_9), (Value.bool S_10), (Value.int .i64 S_11)] :: row enc31 31 4 p_1 c_1 L :: FL) w → K r r_1 r_2 r_3 r_4 At_1 S_6 S_7 S_8 S_9 S_10 S_11 → R (Value.tuple #[(Value.agg #[(Value.int .u32 r), (Value.int .i64 r_1), (Value.int .i64 r_2), (Value.bool r_3)]), (Value.bool r_4)]) w) :
  CallV Try.prog 23 #[(Value.pointer (some (Addr.mk b_1 0 none))), (Value.int .i64 now)] w R := by
  refine embrasureref29_Walker_Lost_call ?_
  unfold embrasureref29_Walker_Lost
  unfold embrasureref29_Walker_Lost_wp at hp
  have cpp_1 := rowCap h 1 rfl
  refine newL (o := [(Value.int .u32 0), (Value.int .i64 0), (Value.int .i64 0), (Value.bool false)]) h ?_
  intro b_2 w h
  obtain ⟨Q, hq, hp⟩ := hp
  refine ⟨fun w0 now1 t4 t24 w => (some (Addr.mk b_1 0 none)) = w0 ∧ now = now1 ∧ (Addr.mk b_2 0 none) = t4 ∧ Q t24 ∧ Mem (cel b_2 31 [(Value.int .u32 0), (Value.int .i64 0), (Value.int .i64 0), (Value.bool false)] :: cel b_1 42 [(Value.slice p_1 L.length c_1), (Value.int .i64 At), (Value.int .i64 S), (Value.int .u32 S_1), (Value.int .i64 S_2), (Value.int .i64 S_3), (Value.bool S_4), (Value.int .i64 S_5)] :: row enc31 31 4 p_1 c_1 L :: FL) w, ?_, ?_⟩
  · rintro w0 now1 t4 t24 w ⟨rfl, rfl, rfl, hp, h⟩
    replace hp := hq t24 hp
    unfold embrasureref29_Walker_Lost_j1
    refine cond_both hp (fun hp => ?_) (fun hp => ?_)
    · refine storeL (ys := [(Value.int .u32 0), (Value.int .i64 0), (Value.int .i64 0), (Value.bool false)]) h 0 0 rfl rfl rfl sz31 rfl rfl ?_
      intro w h
      dsimp only [setH, setVs, setV] at h
      refine ⟨_, cellL h 0 0 rfl rfl rfl, _, cellL h 0 1 rfl rfl rfl, _, cellL h 0 2 rfl rfl rfl, _, cellL h 0 3 rfl rfl rfl, ?_⟩
      replace h := h.sel [1, 1] 1
      dsimp only [pickL, pickR, nthH, delH, dropH, List.cons_append, List.nil_append] at h
      exact hR 0 0 0 (false) false At S S_1 S_2 S_3 S_4 S_5 _ h hp
    replace h := h.pick [1, 1]
    dsimp only [pickL, pickR, nthH, delH, dropH, List.cons_append, List.nil_append] at h
    refine embrasureref29_Walker_try_ok h hp ?_
    intro r_1 r_2 r_3 r_4 r_5 At_2 S_12 S_13 S_14 S_15 S_16 S_17 w h hp
    have cpp_1 := rowCap h 1 rfl
    refine ⟨_, _, _, _, _, rfl, ?_⟩
    refine ⟨_, _, _, _, rfl, ?_⟩
    refine storeL (ys := [(Value.int .u32 r_1), (Value.int .i64 r_2), (Value.int .i64 r_3), (Value.bool r_4)]) h 2 0 rfl rfl rfl sz31 rfl rfl ?_
    intro w h
    dsimp only [setH, setVs, setV] at h
    refine ⟨_, cellL h 2 0 rfl rfl rfl, _, cellL h 2 1 rfl rfl rfl, _, cellL h 2 2 rfl rfl rfl, _, cellL h 2 3 rfl rfl rfl, ?_⟩
    replace h := h.sel [0, 0] 1
    dsimp only [pickL, pickR, nthH, delH, dropH, List.cons_append, List.nil_append] at h
    exact hR r_1 r_2 r_3 r_4 r_5 At_2 S_12 S_13 S_14 S_15 S_16 S_17 _ h hp
  clear hq
  refine embrasureref29_time_ok h hp ?_
  intro r w h hp
  refine ⟨_, rfl, ?_⟩
  refine cond_both hp (fun hp => ?_) (fun hp => ?_)
  · exact ⟨rfl, rfl, rfl, hp, h⟩
  refine ⟨_, rfl, ?_⟩
  refine ⟨_, cellL h 1 2 rfl rfl rfl, ?_⟩
  refine cond_both' hp (fun hp => ?_) (fun hp => ?_)
  · exact ⟨rfl, rfl, rfl, hp, h⟩
  refine ⟨_, rfl, ?_⟩
  refine ⟨_, cellL h 1 2 rfl rfl rfl, ?_⟩
  exact ⟨rfl, rfl, rfl, hp, h⟩

/-! embrasure/embrasurelaw29.PathPlays (5) -/
def embrasurelaw29_PathPlays_wp (own : Int) (places : List (Int × Int × Int × Bool)) (script : List (Int × Int × Int × Int)) (K : Bool → Prop) : Prop :=
  embrasurelaw29_awake_wp (fun (r : Bool) => cond (!r) (K false) (cond (decide ((((places.length : Nat) : Int) : Int) > 40)) (K true) ((([] : List (Int × Int × Int × Bool)).length + places.length) * 32 ≤ 140737488355328 ∧ (path_Ways_wp own (([] : List (Int × Int × Int × Bool)) ++ places) (fun (rs : List (Int × Int × Int × Bool)) => path_New_wp own (([] : List (Int × Int × Int × Bool)) ++ places) (fun (ways : List (Int × Int × Int × Bool)) (at_ : Int) (s : Int) (s_1 : Int) (s_2 : Int) (s_3 : Int) (s_4 : Bool) (s_5 : Int) => embrasureref29_Ways_wp own places (fun (rs_1 : List (Int × Int × Int × Bool)) => joinP1 (fun (t53 : Bool) => cond t53 (K false) (∃ (I : Nat → Int → Int → Int → Int → Int → Bool → Int → Int → Int → Int → Int → Int → Bool → Int → Int → Int → Prop), (∃ (n_8 : Nat), I n_8 0 0 0 0 0 false 0 at_ s s_1 s_2 s_3 s_4 s_5 0 0) ∧ ∀ (n_6 : Nat) (At : Int) (S : Int) (S_1 : Int) (S_2 : Int) (S_3 : Int) (S_4 : Bool) (S_5 : Int) (at__1 : Int) (s_6 : Int) (s_7 : Int) (s_8 : Int) (s_9 : Int) (s_10 : Bool) (s_11 : Int) (now11 : Int) (i12 : Int), I n_6 At S S_1 S_2 S_3 S_4 S_5 at__1 s_6 s_7 s_8 s_9 s_10 s_11 now11 i12 → (joinP1 (fun (t61 : Bool) => cond t61 (0 ≤ (i12 : Int) ∧ (i12 : Int) < ((script.length : Nat) : Int) ∧ (∀ (x_1 : Int × Int × Int × Int), script[Int.toNat i12]? = some x_1 → (joinP1 (fun (now11_2 : Int) => joinP24 (fun (Addr_ : Int) (Addr__1 : Int) (ID : Int) (Via : Bool) (Addr__2 : Int) (Addr__3 : Int) (ID_1 : Int) (Via_1 : Bool) (At_1 : Int) (S_6 : Int) (S_7 : Int) (S_8 : Int) (S_9 : Int) (S_10 : Bool) (S_11 : Int) (at__2 : Int) (s_12 : Int) (s_13 : Int) (s_14 : Int) (s_15 : Int) (s_16 : Bool) (s_17 : Int) (x16 : Bool) (y17 : Bool) => joinP1 (fun (t162 : Bool) => cond t162 (K false) (∃ (n_7 : Nat), n_7 < n_6 ∧ I n_7 At_1 S_6 S_7 S_8 S_9 S_10 S_11 at__2 s_12 s_13 s_14 s_15 s_16 s_17 now11_2 (IntKind.wrap .i64 (i12 + 1)))) (fun (Q_5 : Bool → Prop) => cond (!((((Addr__2 : Int) == Addr_) && (((Addr__3 : Int) == Addr__1) && true)) && (((ID_1 : Int) == ID) && ((Via_1 == Via) && true)))) (Q_5 true) (cond (!(x16 == y17)) (Q_5 true) (path_Walker_State_wp at__2 s_12 s_13 s_14 s_15 s_16 s_17 (fun (r_37 : Int) (r_38 : Int) (r_39 : Int) (r_40 : Int) (r_41 : Bool) (r_42 : Int) => Q_5 (!(((r_37 : Int) == S_6) && (((((r_38 : Int) == S_7) && (((r_39 : Int) == S_8) && true)) && (((r_40 : Int) == S_9) && ((r_41 == S_10) && true))) && (((r_42 : Int) == S_11) && true))))))))) (fun (Q_4 : Int → Int → Int → Bool → Int → Int → Int → Bool → Int → Int → Int → Int → Int → Bool → Int → Int → Int → Int → Int → Int → Bool → Int → Bool → Bool → Prop) => cond ((x_1.1 : Int) == 0) (path_Walker_Start_wp ways at__1 s_6 s_7 s_8 s_9 s_10 s_11 now11_2 (fun (r_3 : Int) (r_4 : Int) (r_5 : Int) (r_6 : Bool) (r_7 : Bool) (at__3 : Int) (s_18 : Int) (s_19 : Int) (s_20 : Int) (s_21 : Int) (s_22 : Bool) (s_23 : Int) => embrasureref29_Walker_Start_wp rs_1 At S S_1 S_2 S_3 S_4 S_5 now11_2 (fun (r_8 : Int) (r_9 : Int) (r_10 : Int) (r_11 : Bool) (r_12 : Bool) (At_2 : Int) (S_12 : Int) (S_13 : Int) (S_14 : Int) (S_15 : Int) (S_16 : Bool) (S_17 : Int) => Q_4 r_8 r_9 r_10 r_11 r_3 r_4 r_5 r_6 At_2 S_12 S_13 S_14 S_15 S_16 S_17 at__3 s_18 s_19 s_20 s_21 s_22 s_23 r_7 r_12))) (cond ((x_1.1 : Int) == 1) (path_Walker_Tick_wp ways at__1 s_6 s_7 s_8 s_9 s_10 s_11 now11_2 (fun (r_13 : Int) (r_14 : Int) (r_15 : Int) (r_16 : Bool) (r_17 : Bool) (at__4 : Int) (s_24 : Int) (s_25 : Int) (s_26 : Int) (s_27 : Int) (s_28 : Bool) (s_29 : Int) => embrasureref29_Walker_Tick_wp rs_1 At S S_1 S_2 S_3 S_4 S_5 now11_2 (fun (r_18 : Int) (r_19 : Int) (r_20 : Int) (r_21 : Bool) (r_22 : Bool) (At_3 : Int) (S_18 : Int) (S_19 : Int) (S_20 : Int) (S_21 : Int) (S_22 : Bool) (S_23 : Int) => Q_4 r_18 r_19 r_20 r_21 r_13 r_14 r_15 r_16 At_3 S_18 S_19 S_20 S_21 S_22 S_23 at__4 s_24 s_25 s_26 s_27 s_28 s_29 r_17 r_22))) (cond ((x_1.1 : Int) == 2) (path_Walker_Open_wp at__1 s_6 s_7 s_8 s_9 s_10 s_11 now11_2 (fun (r_23 : Bool) (s_30 : Int) (s_31 : Int) => embrasureref29_Walker_Open_wp At S S_1 S_2 S_3 S_4 S_5 now11_2 (fun (r_24 : Bool) (S_24 : Int) (S_25 : Int) => Q_4 0 0 0 false 0 0 0 false At S_24 S_1 S_2 S_3 S_4 S_25 at__1 s_30 s_7 s_8 s_9 s_10 s_31 r_23 r_24))) (cond ((x_1.1 : Int) == 3) (path_Walker_Punched_wp at__1 s_6 s_7 s_8 s_9 s_10 s_11 now11_2 x_1.2.2.1 x_1.2.2.2 (fun (r_25 : Bool) (s_32 : Int) (s_33 : Int) (s_34 : Int) (s_35 : Int) (s_36 : Bool) (s_37 : Int) => embrasureref29_Walker_Punched_wp At S S_1 S_2 S_3 S_4 S_5 now11_2 x_1.2.2.1 x_1.2.2.2 (fun (r_26 : Bool) (S_26 : Int) (S_27 : Int) (S_28 : Int) (S_29 : Int) (S_30 : Bool) (S_31 : Int) => Q_4 0 0 0 false 0 0 0 false At S_26 S_27 S_28 S_29 S_30 S_31 at__1 s_32 s_33 s_34 s_35 s_36 s_37 r_25 r_26))) (path_Walker_Lost_wp ways at__1 s_6 s_7 s_8 s_9 s_10 s_11 now11_2 (fun (r_27 : Int) (r_28 : Int) (r_29 : Int) (r_30 : Bool) (r_31 : Bool) (at__5 : Int) (s_38 : Int) (s_39 : Int) (s_40 : Int) (s_41 : Int) (s_42 : Bool) (s_43 : Int) => embrasureref29_Walker_Lost_wp rs_1 At S S_1 S_2 S_3 S_4 S_5 now11_2 (fun (r_32 : Int) (r_33 : Int) (r_34 : Int) (r_35 : Bool) (r_36 : Bool) (At_4 : Int) (S_32 : Int) (S_33 : Int) (S_34 : Int) (S_35 : Int) (S_36 : Bool) (S_37 : Int) => Q_4 r_32 r_33 r_34 r_35 r_27 r_28 r_29 r_30 At_4 S_32 S_33 S_34 S_35 S_36 S_37 at__5 s_38 s_39 s_40 s_41 s_42 s_43 r_31 r_36)))))))) (fun (Q_2 : Int → Prop) => joinP1 (fun (t79 : Bool) => cond t79 (Q_2 (IntKind.wrap .i64 (now11 + x_1.2.1))) (Q_2 now11)) (fun (Q_3 : Bool → Prop) => cond (decide ((x_1.2.1 : Int) > (-1000))) (cond (decide ((x_1.2.1 : Int) < 2199023255552)) (Q_3 (decide ((now11 : Int) < 4398046511104))) (Q_3 false)) (Q_3 false)))))) (K true)) (fun (Q_1 : Bool → Prop) => cond (decide ((i12 : Int) < ((script.length : Nat) : Int))) (Q_1 (decide ((i12 : Int) < 60))) (Q_1 false))))) (fun (Q : Bool → Prop) => embrasureref21_Places_wp rs rs_1 (fun (r_1 : Bool) => cond (!r_1) (Q true) (embrasureref21_Places_wp (([] : List (Int × Int × Int × Bool)) ++ places) places (fun (r_2 : Bool) => Q (!r_2))))))))))))
theorem embrasurelaw29_PathPlays_ok {p_1 : Option Addr} {n_1 : Nat} {c_1 : Nat} {p_2 : Option Addr} {n_2 : Nat} {c_2 : Nat} {own : Int} {places : List (Int × Int × Int × Bool)} {script : List (Int × Int × Int × Int)} {FL : List HP} {w : World} {K : Bool → Prop} {R : Value → World → Prop}
  (hF_places : ∀ w, Mem FL w → Rd w 4 p_1 enc31 places) (hl_places : n_1 = places.length) (hc_places : n_1 ≤ c_1)
  (hF_script : ∀ w, Mem FL w → Rd w 4 p_2 enc44 script) (hl_script : n_2 = script.length) (hc_script : n_2 ≤ c_2)
  (h : Mem (FL) w) (hp : embrasurelaw29_PathPlays_wp own places script K)
  (hR : ∀ (r : Bool) (w : World), Mem (FL) w → K r → R (Value.bool r) w) :
  CallV Try.prog 5 #[(Value.int .u32 own), (Value.slice p_1 n_1 c_1), (Value.slice p_2 n_2 c_2)] w R := by
  refine embrasurelaw29_PathPlays_call ?_
  unfold embrasurelaw29_PathPlays
  unfold embrasurelaw29_PathPlays_wp at hp
  subst hl_places
  subst hl_script
  refine embrasurelaw29_awake_ok h hp ?_
  intro r w h hp
  refine ⟨_, rfl, ?_⟩
  refine cond_both hp (fun hp => ?_) (fun hp => ?_)
  · exact hR false _ h hp
  refine cond_both hp (fun hp => ?_) (fun hp => ?_)
  · exact hR true _ h hp
  refine newL (o := []) h ?_
  intro b_1 w h
  have sr := (hF_places _ (h.drop 1))
  replace h := rowOfCel h 0 encL31 rfl ([] : List (Int × Int × Int × Bool)) rfl
  dsimp only [setH, setVs, setV] at h
  obtain ⟨hb, hp⟩ := hp
  refine appendL slt23 und23 encL31 encO31 h 0 rfl rfl sr rfl hb ?_
  intro p_3 c_3 w h
  dsimp only [setH, setVs, setV] at h
  have cpp_3 := rowCap h 0 rfl
  refine ⟨_, _, _, rfl, ?_⟩
  refine path_Ways_ok (FL := row enc31 31 4 p_3 c_3 (([] : List (Int × Int × Int × Bool)) ++ places) :: FL) (fun w h => (rowRd h 0 encL31 rfl)) rfl cpp_3 h hp ?_
  rintro rs p_4 n_3 c_4 w rfl h hp
  have cpp_4 := rowCap h 0 rfl
  refine ⟨_, _, _, rfl, ?_⟩
  refine path_New_ok (FL := row enc31 31 4 p_4 c_4 rs :: row enc31 31 4 p_3 c_3 (([] : List (Int × Int × Int × Bool)) ++ places) :: FL) (fun w h => (rowRd h 1 encL31 rfl)) rfl cpp_3 h hp ?_
  rintro ways at_ s s_1 s_2 s_3 s_4 s_5 b_2 p_5 n_4 c_5 w rfl h hp
  have cpp_5 := rowCap h 1 rfl
  refine ⟨_, rfl, ?_⟩
  refine embrasureref29_Ways_ok (FL := cel b_2 51 [(Value.slice p_5 ways.length c_5), (Value.int .i64 at_), (Value.int .i64 s), (Value.int .u32 s_1), (Value.int .i64 s_2), (Value.int .i64 s_3), (Value.bool s_4), (Value.int .i64 s_5)] :: row enc31 31 4 p_5 c_5 ways :: row enc31 31 4 p_4 c_4 rs :: row enc31 31 4 p_3 c_3 (([] : List (Int × Int × Int × Bool)) ++ places) :: FL) (fun w h => (hF_places _ (h.drop 4))) rfl hc_places h hp ?_
  rintro rs_1 p_6 n_5 c_6 w rfl h hp
  have cpp_6 := rowCap h 0 rfl
  refine ⟨_, _, _, rfl, ?_⟩
  refine newL (o := [(Value.slice p_6 rs_1.length c_6), (Value.int .i64 0), (Value.int .i64 0), (Value.int .u32 0), (Value.int .i64 0), (Value.int .i64 0), (Value.bool false), (Value.int .i64 0)]) h ?_
  intro b_3 w h
  obtain ⟨Q, hq, hp⟩ := hp
  refine ⟨fun script2p script2l script2c w9 r10 t53 w => p_2 = script2p ∧ script.length = script2l ∧ c_2 = script2c ∧ (some (Addr.mk b_2 0 none)) = w9 ∧ (Addr.mk b_3 0 none) = r10 ∧ Q t53 ∧ Mem (cel b_3 42 [(Value.slice p_6 rs_1.length c_6), (Value.int .i64 0), (Value.int .i64 0), (Value.int .u32 0), (Value.int .i64 0), (Value.int .i64 0), (Value.bool false), (Value.int .i64 0)] :: row enc31 31 4 p_6 c_6 rs_1 :: cel b_2 51 [(Value.slice p_5 ways.length c_5), (Value.int .i64 at_), (Value.int .i64 s), (Value.int .u32 s_1), (Value.int .i64 s_2), (Value.int .i64 s_3), (Value.bool s_4), (Value.int .i64 s_5)] :: row enc31 31 4 p_5 c_5 ways :: FL) w, ?_, ?_⟩
  · rintro script2p script2l script2c w9 r10 t53 w ⟨rfl, rfl, rfl, rfl, rfl, hp, h⟩
    replace hp := hq t53 hp
    unfold embrasurelaw29_PathPlays_j1
    refine cond_both hp (fun hp => ?_) (fun hp => ?_)
    · replace h := h.sel [] 4
      dsimp only [pickL, pickR, nthH, delH, dropH, List.cons_append, List.nil_append] at h
      exact hR false _ h hp
    obtain ⟨I, ⟨n_8, h0⟩, hq⟩ := hp
    refine ⟨fun n_6 script2_1p script2_1l script2_1c w9_1 r10_1 now11 i12 w => ∃ (At : Int), ∃ (S : Int), ∃ (S_1 : Int), ∃ (S_2 : Int), ∃ (S_3 : Int), ∃ (S_4 : Bool), ∃ (S_5 : Int), ∃ (at__1 : Int), ∃ (s_6 : Int), ∃ (s_7 : Int), ∃ (s_8 : Int), ∃ (s_9 : Int), ∃ (s_10 : Bool), ∃ (s_11 : Int), p_2 = script2_1p ∧ script.length = script2_1l ∧ c_2 = script2_1c ∧ (some (Addr.mk b_2 0 none)) = w9_1 ∧ (Addr.mk b_3 0 none) = r10_1 ∧ I n_6 At S S_1 S_2 S_3 S_4 S_5 at__1 s_6 s_7 s_8 s_9 s_10 s_11 now11 i12 ∧ Mem (cel b_3 42 [(Value.slice p_6 rs_1.length c_6), (Value.int .i64 At), (Value.int .i64 S), (Value.int .u32 S_1), (Value.int .i64 S_2), (Value.int .i64 S_3), (Value.bool S_4), (Value.int .i64 S_5)] :: row enc31 31 4 p_6 c_6 rs_1 :: cel b_2 51 [(Value.slice p_5 ways.length c_5), (Value.int .i64 at__1), (Value.int .i64 s_6), (Value.int .u32 s_7), (Value.int .i64 s_8), (Value.int .i64 s_9), (Value.bool s_10), (Value.int .i64 s_11)] :: row enc31 31 4 p_5 c_5 ways :: FL) w, ⟨n_8, 0, 0, 0, 0, 0, false, 0, at_, s, s_1, s_2, s_3, s_4, s_5, rfl, rfl, rfl, rfl, rfl, h0, h⟩, ?_⟩
    clear h0 h
    rintro n_6 script2_1p script2_1l script2_1c w9_1 r10_1 now11 i12 w ⟨At, S, S_1, S_2, S_3, S_4, S_5, at__1, s_6, s_7, s_8, s_9, s_10, s_11, rfl, rfl, rfl, rfl, rfl, hp, h⟩
    replace hp := hq n_6 At S S_1 S_2 S_3 S_4 S_5 at__1 s_6 s_7 s_8 s_9 s_10 s_11 now11 i12 hp
    clear hq
    unfold embrasurelaw29_PathPlays_l2
    obtain ⟨Q_1, hq, hp⟩ := hp
    refine ⟨fun script2_2p script2_2l script2_2c w9_2 r10_2 now11_1 i12_1 t61 w => p_2 = script2_2p ∧ script.length = script2_2l ∧ c_2 = script2_2c ∧ (some (Addr.mk b_2 0 none)) = w9_2 ∧ (Addr.mk b_3 0 none) = r10_2 ∧ now11 = now11_1 ∧ i12 = i12_1 ∧ Q_1 t61 ∧ Mem (cel b_3 42 [(Value.slice p_6 rs_1.length c_6), (Value.int .i64 At), (Value.int .i64 S), (Value.int .u32 S_1), (Value.int .i64 S_2), (Value.int .i64 S_3), (Value.bool S_4), (Value.int .i64 S_5)] :: row enc31 31 4 p_6 c_6 rs_1 :: cel b_2 51 [(Value.slice p_5 ways.length c_5), (Value.int .i64 at__1), (Value.int .i64 s_6), (Value.int .u32 s_7), (Value.int .i64 s_8), (Value.int .i64 s_9), (Value.bool s_10), (Value.int .i64 s_11)] :: row enc31 31 4 p_5 c_5 ways :: FL) w, ?_, ?_⟩
    · rintro script2_2p script2_2l script2_2c w9_2 r10_2 now11_1 i12_1 t61 w ⟨rfl, rfl, rfl, rfl, rfl, rfl, rfl, hp, h⟩
      replace hp := hq t61 hp
      unfold embrasurelaw29_PathPlays_j3
      refine cond_both' hp (fun hp => ?_) (fun hp => ?_)
      · replace h := h.sel [] 4
        dsimp only [pickL, pickR, nthH, delH, dropH, List.cons_append, List.nil_append] at h
        exact hR true _ h hp
      obtain ⟨ia_1, ja_1, hp⟩ := hp
      obtain ⟨a_1, ha_1⟩ := rdAddr (hF_script _ (h.drop 4)) rfl ia_1 ja_1
      refine ⟨a_1, ha_1, ia_1, ja_1, ?_⟩
      obtain ⟨x_1, hx_1, hc⟩ := rdCell (hF_script _ (h.drop 4)) ha_1 rfl ia_1 ja_1
      replace hp := hp x_1 hx_1
      refine ⟨_, hc 0 _ rfl, _, hc 1 _ rfl, _, hc 2 _ rfl, _, hc 3 _ rfl, ?_⟩
      refine newL (o := [(Value.int .i64 0), (Value.int .i64 0), (Value.int .u32 0), (Value.int .i64 0)]) h ?_
      intro b_4 w h
      refine storeL (ys := [(Value.int .i64 x_1.1), (Value.int .i64 x_1.2.1), (Value.int .u32 x_1.2.2.1), (Value.int .i64 x_1.2.2.2)]) h 0 0 rfl rfl rfl sz44 rfl rfl ?_
      intro w h
      dsimp only [setH, setVs, setV] at h
      obtain ⟨Q_2, hq, hp⟩ := hp
      refine ⟨fun script2_3p script2_3l script2_3c w9_3 r10_3 now11_2 i12_2 d13 w => p_2 = script2_3p ∧ script.length = script2_3l ∧ c_2 = script2_3c ∧ (some (Addr.mk b_2 0 none)) = w9_3 ∧ (Addr.mk b_3 0 none) = r10_3 ∧ i12 = i12_2 ∧ (Addr.mk b_4 0 none) = d13 ∧ Q_2 now11_2 ∧ Mem (cel b_4 44 [(Value.int .i64 x_1.1), (Value.int .i64 x_1.2.1), (Value.int .u32 x_1.2.2.1), (Value.int .i64 x_1.2.2.2)] :: cel b_3 42 [(Value.slice p_6 rs_1.length c_6), (Value.int .i64 At), (Value.int .i64 S), (Value.int .u32 S_1), (Value.int .i64 S_2), (Value.int .i64 S_3), (Value.bool S_4), (Value.int .i64 S_5)] :: row enc31 31 4 p_6 c_6 rs_1 :: cel b_2 51 [(Value.slice p_5 ways.length c_5), (Value.int .i64 at__1), (Value.int .i64 s_6), (Value.int .u32 s_7), (Value.int .i64 s_8), (Value.int .i64 s_9), (Value.bool s_10), (Value.int .i64 s_11)] :: row enc31 31 4 p_5 c_5 ways :: FL) w, ?_, ?_⟩
      · rintro script2_3p script2_3l script2_3c w9_3 r10_3 now11_2 i12_2 d13 w ⟨rfl, rfl, rfl, rfl, rfl, rfl, rfl, hp, h⟩
        replace hp := hq now11_2 hp
        unfold embrasurelaw29_PathPlays_j4
        refine newL (o := [(Value.int .u32 0), (Value.int .i64 0), (Value.int .i64 0), (Value.bool false)]) h ?_
        intro b_5 w h
        refine newL (o := [(Value.int .u32 0), (Value.int .i64 0), (Value.int .i64 0), (Value.bool false)]) h ?_
        intro b_6 w h
        obtain ⟨Q_4, hq, hp⟩ := hp
        refine ⟨fun script2_5p script2_5l script2_5c w9_5 r10_5 now11_4 i12_4 a14 b15 x16 y17 w => ∃ (Addr_ : Int), ∃ (Addr__1 : Int), ∃ (ID : Int), ∃ (Via : Bool), ∃ (Addr__2 : Int), ∃ (Addr__3 : Int), ∃ (ID_1 : Int), ∃ (Via_1 : Bool), ∃ (At_1 : Int), ∃ (S_6 : Int), ∃ (S_7 : Int), ∃ (S_8 : Int), ∃ (S_9 : Int), ∃ (S_10 : Bool), ∃ (S_11 : Int), ∃ (at__2 : Int), ∃ (s_12 : Int), ∃ (s_13 : Int), ∃ (s_14 : Int), ∃ (s_15 : Int), ∃ (s_16 : Bool), ∃ (s_17 : Int), p_2 = script2_5p ∧ script.length = script2_5l ∧ c_2 = script2_5c ∧ (some (Addr.mk b_2 0 none)) = w9_5 ∧ (Addr.mk b_3 0 none) = r10_5 ∧ now11_2 = now11_4 ∧ i12 = i12_4 ∧ (Addr.mk b_5 0 none) = a14 ∧ (Addr.mk b_6 0 none) = b15 ∧ Q_4 Addr_ Addr__1 ID Via Addr__2 Addr__3 ID_1 Via_1 At_1 S_6 S_7 S_8 S_9 S_10 S_11 at__2 s_12 s_13 s_14 s_15 s_16 s_17 x16 y17 ∧ Mem (cel b_6 31 [(Value.int .u32 Addr_), (Value.int .i64 Addr__1), (Value.int .i64 ID), (Value.bool Via)] :: cel b_5 31 [(Value.int .u32 Addr__2), (Value.int .i64 Addr__3), (Value.int .i64 ID_1), (Value.bool Via_1)] :: cel b_4 44 [(Value.int .i64 x_1.1), (Value.int .i64 x_1.2.1), (Value.int .u32 x_1.2.2.1), (Value.int .i64 x_1.2.2.2)] :: cel b_3 42 [(Value.slice p_6 rs_1.length c_6), (Value.int .i64 At_1), (Value.int .i64 S_6), (Value.int .u32 S_7), (Value.int .i64 S_8), (Value.int .i64 S_9), (Value.bool S_10), (Value.int .i64 S_11)] :: row enc31 31 4 p_6 c_6 rs_1 :: cel b_2 51 [(Value.slice p_5 ways.length c_5), (Value.int .i64 at__2), (Value.int .i64 s_12), (Value.int .u32 s_13), (Value.int .i64 s_14), (Value.int .i64 s_15), (Value.bool s_16), (Value.int .i64 s_17)] :: row enc31 31 4 p_5 c_5 ways :: FL) w, ?_, ?_⟩
        · rintro script2_5p script2_5l script2_5c w9_5 r10_5 now11_4 i12_4 a14 b15 x16 y17 w ⟨Addr_, Addr__1, ID, Via, Addr__2, Addr__3, ID_1, Via_1, At_1, S_6, S_7, S_8, S_9, S_10, S_11, at__2, s_12, s_13, s_14, s_15, s_16, s_17, rfl, rfl, rfl, rfl, rfl, rfl, rfl, rfl, rfl, hp, h⟩
          replace hp := hq Addr_ Addr__1 ID Via Addr__2 Addr__3 ID_1 Via_1 At_1 S_6 S_7 S_8 S_9 S_10 S_11 at__2 s_12 s_13 s_14 s_15 s_16 s_17 x16 y17 hp
          unfold embrasurelaw29_PathPlays_j5
          obtain ⟨Q_5, hq, hp⟩ := hp
          refine ⟨fun script2_6p script2_6l script2_6c w9_6 r10_6 now11_5 i12_5 t162 w => p_2 = script2_6p ∧ script.length = script2_6l ∧ c_2 = script2_6c ∧ (some (Addr.mk b_2 0 none)) = w9_6 ∧ (Addr.mk b_3 0 none) = r10_6 ∧ now11_2 = now11_5 ∧ i12 = i12_5 ∧ Q_5 t162 ∧ Mem (cel b_6 31 [(Value.int .u32 Addr_), (Value.int .i64 Addr__1), (Value.int .i64 ID), (Value.bool Via)] :: cel b_5 31 [(Value.int .u32 Addr__2), (Value.int .i64 Addr__3), (Value.int .i64 ID_1), (Value.bool Via_1)] :: cel b_4 44 [(Value.int .i64 x_1.1), (Value.int .i64 x_1.2.1), (Value.int .u32 x_1.2.2.1), (Value.int .i64 x_1.2.2.2)] :: cel b_3 42 [(Value.slice p_6 rs_1.length c_6), (Value.int .i64 At_1), (Value.int .i64 S_6), (Value.int .u32 S_7), (Value.int .i64 S_8), (Value.int .i64 S_9), (Value.bool S_10), (Value.int .i64 S_11)] :: row enc31 31 4 p_6 c_6 rs_1 :: cel b_2 51 [(Value.slice p_5 ways.length c_5), (Value.int .i64 at__2), (Value.int .i64 s_12), (Value.int .u32 s_13), (Value.int .i64 s_14), (Value.int .i64 s_15), (Value.bool s_16), (Value.int .i64 s_17)] :: row enc31 31 4 p_5 c_5 ways :: FL) w, ?_, ?_⟩
          · rintro script2_6p script2_6l script2_6c w9_6 r10_6 now11_5 i12_5 t162 w ⟨rfl, rfl, rfl, rfl, rfl, rfl, rfl, hp, h⟩
            replace hp := hq t162 hp
            unfold embrasurelaw29_PathPlays_j6
            refine cond_both hp (fun hp => ?_) (fun hp => ?_)
            · replace h := h.sel [] 7
              dsimp only [pickL, pickR, nthH, delH, dropH, List.cons_append, List.nil_append] at h
              exact hR false _ h hp
            replace h := h.sel [3, 3, 3, 3] 3
            dsimp only [pickL, pickR, nthH, delH, dropH, List.cons_append, List.nil_append] at h
            obtain ⟨n_7, hn, hp⟩ := hp
            exact ⟨n_7, hn, At_1, S_6, S_7, S_8, S_9, S_10, S_11, at__2, s_12, s_13, s_14, s_15, s_16, s_17, rfl, rfl, rfl, rfl, rfl, hp, h⟩
          clear hq
          replace h := h.drew
          refine ⟨fun w => Mem (cel b_3 42 [(Value.slice p_6 rs_1.length c_6), (Value.int .i64 At_1), (Value.int .i64 S_6), (Value.int .u32 S_7), (Value.int .i64 S_8), (Value.int .i64 S_9), (Value.bool S_10), (Value.int .i64 S_11)] :: FL) w, (h.sel [3] 6), ?_⟩
          refine ⟨_, cellL h 1 0 rfl rfl rfl, _, cellL h 1 1 rfl rfl rfl, _, cellL h 1 2 rfl rfl rfl, _, cellL h 1 3 rfl rfl rfl, ?_⟩
          refine ⟨_, cellL h 0 0 rfl rfl rfl, _, cellL h 0 1 rfl rfl rfl, _, cellL h 0 2 rfl rfl rfl, _, cellL h 0 3 rfl rfl rfl, ?_⟩
          refine neqAgg (xs := [(Value.int .u32 Addr__2), (Value.int .i64 Addr__3), (Value.int .i64 ID_1), (Value.bool Via_1)]) (ys := [(Value.int .u32 Addr_), (Value.int .i64 Addr__1), (Value.int .i64 ID), (Value.bool Via)]) eqG31 eqA31 (eqT31 Addr__2 Addr__3 ID_1 Via_1 Addr_ Addr__1 ID Via) ?_
          refine ⟨_, rfl, ?_⟩
          refine ⟨rfl, ?_⟩
          refine cond_both hp (fun hp => ?_) (fun hp => ?_)
          · exact ⟨rfl, rfl, rfl, rfl, rfl, rfl, rfl, hp, h⟩
          refine neqBool undB4 ?_
          refine ⟨_, rfl, ?_⟩
          refine ⟨rfl, ?_⟩
          refine cond_both hp (fun hp => ?_) (fun hp => ?_)
          · exact ⟨rfl, rfl, rfl, rfl, rfl, rfl, rfl, hp, h⟩
          refine ⟨_, rfl, ?_⟩
          refine ⟨_, cellL h 3 2 rfl rfl rfl, _, cellL h 3 3 rfl rfl rfl, _, cellL h 3 4 rfl rfl rfl, _, cellL h 3 5 rfl rfl rfl, _, cellL h 3 6 rfl rfl rfl, _, cellL h 3 7 rfl rfl rfl, ?_⟩
          refine ⟨?_, ?_⟩
          · intro w h
            change Mem _ _ at h
            refine ⟨_, cellL h 0 2 rfl rfl rfl, _, cellL h 0 3 rfl rfl rfl, _, cellL h 0 4 rfl rfl rfl, _, cellL h 0 5 rfl rfl rfl, _, cellL h 0 6 rfl rfl rfl, _, cellL h 0 7 rfl rfl rfl, ?_⟩
            exact ⟨rfl, rfl⟩
          replace h := h.pick [5]
          dsimp only [pickL, pickR, nthH, delH, dropH, List.cons_append, List.nil_append] at h
          refine path_Walker_State_ok h hp ?_
          intro r_37 r_38 r_39 r_40 r_41 r_42 w h hp
          refine ⟨_, _, _, _, _, _, rfl, ?_⟩
          refine ⟨(h.sel [4] 6), ?_⟩
          refine neqAgg (xs := [(Value.int .i64 r_37), (Value.int .u32 r_38), (Value.int .i64 r_39), (Value.int .i64 r_40), (Value.bool r_41), (Value.int .i64 r_42)]) (ys := [(Value.int .i64 S_6), (Value.int .u32 S_7), (Value.int .i64 S_8), (Value.int .i64 S_9), (Value.bool S_10), (Value.int .i64 S_11)]) eqG35 eqA35 (eqT35 r_37 r_38 r_39 r_40 r_41 r_42 S_6 S_7 S_8 S_9 S_10 S_11) ?_
          refine ⟨_, rfl, ?_⟩
          refine ⟨rfl, ?_⟩
          replace h := h.sel [1, 1, 1, 1, 1, 0, 0] 0
          dsimp only [pickL, pickR, nthH, delH, dropH, List.cons_append, List.nil_append] at h
          exact ⟨rfl, rfl, rfl, rfl, rfl, rfl, rfl, hp, h⟩
        clear hq
        refine ⟨_, cellL h 2 0 rfl rfl rfl, ?_⟩
        refine cond_both hp (fun hp => ?_) (fun hp => ?_)
        · replace h := h.pick [5, 5]
          dsimp only [pickL, pickR, nthH, delH, dropH, List.cons_append, List.nil_append] at h
          refine path_Walker_Start_ok h hp ?_
          intro r_3 r_4 r_5 r_6 r_7 at__3 s_18 s_19 s_20 s_21 s_22 s_23 w h hp
          have cpp_5 := rowCap h 1 rfl
          refine ⟨_, _, _, _, _, rfl, ?_⟩
          refine ⟨_, _, _, _, rfl, ?_⟩
          refine storeL (ys := [(Value.int .u32 r_3), (Value.int .i64 r_4), (Value.int .i64 r_5), (Value.bool r_6)]) h 3 0 rfl rfl rfl sz31 rfl rfl ?_
          intro w h
          dsimp only [setH, setVs, setV] at h
          replace h := h.pick [5, 5]
          dsimp only [pickL, pickR, nthH, delH, dropH, List.cons_append, List.nil_append] at h
          refine embrasureref29_Walker_Start_ok h hp ?_
          intro r_8 r_9 r_10 r_11 r_12 At_2 S_12 S_13 S_14 S_15 S_16 S_17 w h hp
          have cpp_6 := rowCap h 1 rfl
          refine ⟨_, _, _, _, _, rfl, ?_⟩
          refine ⟨_, _, _, _, rfl, ?_⟩
          refine storeL (ys := [(Value.int .u32 r_8), (Value.int .i64 r_9), (Value.int .i64 r_10), (Value.bool r_11)]) h 4 0 rfl rfl rfl sz31 rfl rfl ?_
          intro w h
          dsimp only [setH, setVs, setV] at h
          replace h := h.sel [4, 4, 4, 0, 0, 0, 0] 0
          dsimp only [pickL, pickR, nthH, delH, dropH, List.cons_append, List.nil_append] at h
          exact ⟨r_8, r_9, r_10, r_11, r_3, r_4, r_5, r_6, At_2, S_12, S_13, S_14, S_15, S_16, S_17, at__3, s_18, s_19, s_20, s_21, s_22, s_23, rfl, rfl, rfl, rfl, rfl, rfl, rfl, rfl, rfl, hp, h⟩
        refine cond_both hp (fun hp => ?_) (fun hp => ?_)
        · replace h := h.pick [5, 5]
          dsimp only [pickL, pickR, nthH, delH, dropH, List.cons_append, List.nil_append] at h
          refine path_Walker_Tick_ok h hp ?_
          intro r_13 r_14 r_15 r_16 r_17 at__4 s_24 s_25 s_26 s_27 s_28 s_29 w h hp
          have cpp_5 := rowCap h 1 rfl
          refine ⟨_, _, _, _, _, rfl, ?_⟩
          refine ⟨_, _, _, _, rfl, ?_⟩
          refine storeL (ys := [(Value.int .u32 r_13), (Value.int .i64 r_14), (Value.int .i64 r_15), (Value.bool r_16)]) h 3 0 rfl rfl rfl sz31 rfl rfl ?_
          intro w h
          dsimp only [setH, setVs, setV] at h
          replace h := h.pick [5, 5]
          dsimp only [pickL, pickR, nthH, delH, dropH, List.cons_append, List.nil_append] at h
          refine embrasureref29_Walker_Tick_ok h hp ?_
          intro r_18 r_19 r_20 r_21 r_22 At_3 S_18 S_19 S_20 S_21 S_22 S_23 w h hp
          have cpp_6 := rowCap h 1 rfl
          refine ⟨_, _, _, _, _, rfl, ?_⟩
          refine ⟨_, _, _, _, rfl, ?_⟩
          refine storeL (ys := [(Value.int .u32 r_18), (Value.int .i64 r_19), (Value.int .i64 r_20), (Value.bool r_21)]) h 4 0 rfl rfl rfl sz31 rfl rfl ?_
          intro w h
          dsimp only [setH, setVs, setV] at h
          replace h := h.sel [4, 4, 4, 0, 0, 0, 0] 0
          dsimp only [pickL, pickR, nthH, delH, dropH, List.cons_append, List.nil_append] at h
          exact ⟨r_18, r_19, r_20, r_21, r_13, r_14, r_15, r_16, At_3, S_18, S_19, S_20, S_21, S_22, S_23, at__4, s_24, s_25, s_26, s_27, s_28, s_29, rfl, rfl, rfl, rfl, rfl, rfl, rfl, rfl, rfl, hp, h⟩
        refine cond_both hp (fun hp => ?_) (fun hp => ?_)
        · replace h := h.pick [5]
          dsimp only [pickL, pickR, nthH, delH, dropH, List.cons_append, List.nil_append] at h
          refine path_Walker_Open_ok h hp ?_
          intro r_23 s_30 s_31 w h hp
          refine ⟨_, rfl, ?_⟩
          replace h := h.pick [4]
          dsimp only [pickL, pickR, nthH, delH, dropH, List.cons_append, List.nil_append] at h
          refine embrasureref29_Walker_Open_ok h hp ?_
          intro r_24 S_24 S_25 w h hp
          refine ⟨_, rfl, ?_⟩
          replace h := h.sel [2, 2, 2, 0, 1, 0, 0] 0
          dsimp only [pickL, pickR, nthH, delH, dropH, List.cons_append, List.nil_append] at h
          exact ⟨0, 0, 0, false, 0, 0, 0, false, At, S_24, S_1, S_2, S_3, S_4, S_25, at__1, s_30, s_7, s_8, s_9, s_10, s_31, rfl, rfl, rfl, rfl, rfl, rfl, rfl, rfl, rfl, hp, h⟩
        refine cond_both hp (fun hp => ?_) (fun hp => ?_)
        · refine ⟨_, cellL h 2 2 rfl rfl rfl, _, cellL h 2 3 rfl rfl rfl, ?_⟩
          replace h := h.pick [5]
          dsimp only [pickL, pickR, nthH, delH, dropH, List.cons_append, List.nil_append] at h
          refine path_Walker_Punched_ok h hp ?_
          intro r_25 s_32 s_33 s_34 s_35 s_36 s_37 w h hp
          refine ⟨_, rfl, ?_⟩
          refine ⟨_, cellL h 3 2 rfl rfl rfl, _, cellL h 3 3 rfl rfl rfl, ?_⟩
          replace h := h.pick [4]
          dsimp only [pickL, pickR, nthH, delH, dropH, List.cons_append, List.nil_append] at h
          refine embrasureref29_Walker_Punched_ok h hp ?_
          intro r_26 S_26 S_27 S_28 S_29 S_30 S_31 w h hp
          refine ⟨_, rfl, ?_⟩
          replace h := h.sel [2, 2, 2, 0, 1, 0, 0] 0
          dsimp only [pickL, pickR, nthH, delH, dropH, List.cons_append, List.nil_append] at h
          exact ⟨0, 0, 0, false, 0, 0, 0, false, At, S_26, S_27, S_28, S_29, S_30, S_31, at__1, s_32, s_33, s_34, s_35, s_36, s_37, rfl, rfl, rfl, rfl, rfl, rfl, rfl, rfl, rfl, hp, h⟩
        replace h := h.pick [5, 5]
        dsimp only [pickL, pickR, nthH, delH, dropH, List.cons_append, List.nil_append] at h
        refine path_Walker_Lost_ok h hp ?_
        intro r_27 r_28 r_29 r_30 r_31 at__5 s_38 s_39 s_40 s_41 s_42 s_43 w h hp
        have cpp_5 := rowCap h 1 rfl
        refine ⟨_, _, _, _, _, rfl, ?_⟩
        refine ⟨_, _, _, _, rfl, ?_⟩
        refine storeL (ys := [(Value.int .u32 r_27), (Value.int .i64 r_28), (Value.int .i64 r_29), (Value.bool r_30)]) h 3 0 rfl rfl rfl sz31 rfl rfl ?_
        intro w h
        dsimp only [setH, setVs, setV] at h
        replace h := h.pick [5, 5]
        dsimp only [pickL, pickR, nthH, delH, dropH, List.cons_append, List.nil_append] at h
        refine embrasureref29_Walker_Lost_ok h hp ?_
        intro r_32 r_33 r_34 r_35 r_36 At_4 S_32 S_33 S_34 S_35 S_36 S_37 w h hp
        have cpp_6 := rowCap h 1 rfl
        refine ⟨_, _, _, _, _, rfl, ?_⟩
        refine ⟨_, _, _, _, rfl, ?_⟩
        refine storeL (ys := [(Value.int .u32 r_32), (Value.int .i64 r_33), (Value.int .i64 r_34), (Value.bool r_35)]) h 4 0 rfl rfl rfl sz31 rfl rfl ?_
        intro w h
        dsimp only [setH, setVs, setV] at h
        replace h := h.sel [4, 4, 4, 0, 0, 0, 0] 0
        dsimp only [pickL, pickR, nthH, delH, dropH, List.cons_append, List.nil_append] at h
        exact ⟨r_32, r_33, r_34, r_35, r_27, r_28, r_29, r_30, At_4, S_32, S_33, S_34, S_35, S_36, S_37, at__5, s_38, s_39, s_40, s_41, s_42, s_43, rfl, rfl, rfl, rfl, rfl, rfl, rfl, rfl, rfl, hp, h⟩
      clear hq
      obtain ⟨Q_3, hq, hp⟩ := hp
      refine ⟨fun script2_4p script2_4l script2_4c w9_4 r10_4 now11_3 i12_3 d13_1 t79 w => p_2 = script2_4p ∧ script.length = script2_4l ∧ c_2 = script2_4c ∧ (some (Addr.mk b_2 0 none)) = w9_4 ∧ (Addr.mk b_3 0 none) = r10_4 ∧ now11 = now11_3 ∧ i12 = i12_3 ∧ (Addr.mk b_4 0 none) = d13_1 ∧ Q_3 t79 ∧ Mem (cel b_4 44 [(Value.int .i64 x_1.1), (Value.int .i64 x_1.2.1), (Value.int .u32 x_1.2.2.1), (Value.int .i64 x_1.2.2.2)] :: cel b_3 42 [(Value.slice p_6 rs_1.length c_6), (Value.int .i64 At), (Value.int .i64 S), (Value.int .u32 S_1), (Value.int .i64 S_2), (Value.int .i64 S_3), (Value.bool S_4), (Value.int .i64 S_5)] :: row enc31 31 4 p_6 c_6 rs_1 :: cel b_2 51 [(Value.slice p_5 ways.length c_5), (Value.int .i64 at__1), (Value.int .i64 s_6), (Value.int .u32 s_7), (Value.int .i64 s_8), (Value.int .i64 s_9), (Value.bool s_10), (Value.int .i64 s_11)] :: row enc31 31 4 p_5 c_5 ways :: FL) w, ?_, ?_⟩
      · rintro script2_4p script2_4l script2_4c w9_4 r10_4 now11_3 i12_3 d13_1 t79 w ⟨rfl, rfl, rfl, rfl, rfl, rfl, rfl, rfl, hp, h⟩
        replace hp := hq t79 hp
        unfold embrasurelaw29_PathPlays_j7
        refine cond_both' hp (fun hp => ?_) (fun hp => ?_)
        · exact ⟨rfl, rfl, rfl, rfl, rfl, rfl, rfl, hp, h⟩
        refine ⟨_, cellL h 0 1 rfl rfl rfl, ?_⟩
        exact ⟨rfl, rfl, rfl, rfl, rfl, rfl, rfl, hp, h⟩
      clear hq
      refine ⟨_, cellL h 0 1 rfl rfl rfl, ?_⟩
      refine cond_both' hp (fun hp => ?_) (fun hp => ?_)
      · exact ⟨rfl, rfl, rfl, rfl, rfl, rfl, rfl, rfl, hp, h⟩
      refine ⟨_, cellL h 0 1 rfl rfl rfl, ?_⟩
      refine cond_both hp (fun hp => ?_) (fun hp => ?_)
      · exact ⟨rfl, rfl, rfl, rfl, rfl, rfl, rfl, rfl, hp, h⟩
      exact ⟨rfl, rfl, rfl, rfl, rfl, rfl, rfl, rfl, hp, h⟩
    clear hq
    refine cond_both hp (fun hp => ?_) (fun hp => ?_)
    · exact ⟨rfl, rfl, rfl, rfl, rfl, rfl, rfl, hp, h⟩
    exact ⟨rfl, rfl, rfl, rfl, rfl, rfl, rfl, hp, h⟩
  clear hq
  refine eqlPtrNil undP25 ?_
  refine ⟨_, rfl, ?_⟩
  refine cond_ff ?_
  refine ⟨_, rfl, ?_⟩
  refine ⟨_, _, _, cellL h 0 0 rfl rfl rfl, ?_⟩
  refine embrasureref21_Places_ok (FL := cel b_3 42 [(Value.slice p_6 rs_1.length c_6), (Value.int .i64 0), (Value.int .i64 0), (Value.int .u32 0), (Value.int .i64 0), (Value.int .i64 0), (Value.bool false), (Value.int .i64 0)] :: row enc31 31 4 p_6 c_6 rs_1 :: cel b_2 51 [(Value.slice p_5 ways.length c_5), (Value.int .i64 at_), (Value.int .i64 s), (Value.int .u32 s_1), (Value.int .i64 s_2), (Value.int .i64 s_3), (Value.bool s_4), (Value.int .i64 s_5)] :: row enc31 31 4 p_5 c_5 ways :: row enc31 31 4 p_4 c_4 rs :: row enc31 31 4 p_3 c_3 (([] : List (Int × Int × Int × Bool)) ++ places) :: FL) (fun w h => (rowRd h 4 encL31 rfl)) rfl cpp_4 (fun w h => (rowRd h 1 encL31 rfl)) rfl cpp_6 h hp ?_
  intro r_1 w h hp
  refine ⟨_, rfl, ?_⟩
  refine cond_both hp (fun hp => ?_) (fun hp => ?_)
  · replace h := h.sel [0, 0, 0, 0] 2
    dsimp only [pickL, pickR, nthH, delH, dropH, List.cons_append, List.nil_append] at h
    exact ⟨rfl, rfl, rfl, rfl, rfl, hp, h⟩
  refine embrasureref21_Places_ok (FL := cel b_3 42 [(Value.slice p_6 rs_1.length c_6), (Value.int .i64 0), (Value.int .i64 0), (Value.int .u32 0), (Value.int .i64 0), (Value.int .i64 0), (Value.bool false), (Value.int .i64 0)] :: row enc31 31 4 p_6 c_6 rs_1 :: cel b_2 51 [(Value.slice p_5 ways.length c_5), (Value.int .i64 at_), (Value.int .i64 s), (Value.int .u32 s_1), (Value.int .i64 s_2), (Value.int .i64 s_3), (Value.bool s_4), (Value.int .i64 s_5)] :: row enc31 31 4 p_5 c_5 ways :: row enc31 31 4 p_4 c_4 rs :: row enc31 31 4 p_3 c_3 (([] : List (Int × Int × Int × Bool)) ++ places) :: FL) (fun w h => (rowRd h 5 encL31 rfl)) rfl cpp_3 (fun w h => (hF_places _ (h.drop 6))) rfl hc_places h hp ?_
  intro r_2 w h hp
  refine ⟨_, rfl, ?_⟩
  replace h := h.sel [0, 0, 0, 0] 2
  dsimp only [pickL, pickR, nthH, delH, dropH, List.cons_append, List.nil_append] at h
  exact ⟨rfl, rfl, rfl, rfl, rfl, hp, h⟩

end Go.Proofs.Ytjlmpfoaiaolhaa
