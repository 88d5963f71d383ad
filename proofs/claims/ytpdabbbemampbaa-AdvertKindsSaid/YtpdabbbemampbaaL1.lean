/- Each function over plain data (printed by a program of this claim's author). -/
import Derived.Test.YtpdabbbemampbaaD
import Derived.Test.YtpdabbbemampbaaEngZ
import Derived.Test.YtpdabbbemampbaaS41
import Derived.Test.YtpdabbbemampbaaEngU
namespace Go.Proofs.Ytpdabbbemampbaa
open Go Go.Eng Go.Proofs
set_option maxRecDepth 100000
set_option maxHeartbeats 2000000

def enc3 (x : Int) : List Value := [(Value.int .i64 x)]
theorem encL3 : ∀ x, (enc3 x).length = 1 := fun _ => rfl
theorem encO3 : ∀ x, ∀ v ∈ enc3 x, v.oneCell' = true := by intro x v hv; simp only [enc3, List.mem_cons, List.not_mem_nil, or_false] at hv; rcases hv with rfl <;> rfl
def enc34 (x : Int × Int) : List Value := [(Value.int .u32 x.1), (Value.int .i64 x.2)]
theorem encL34 : ∀ x, (enc34 x).length = 2 := fun _ => rfl
theorem encO34 : ∀ x, ∀ v ∈ enc34 x, v.oneCell' = true := by intro x v hv; simp only [enc34, List.mem_cons, List.not_mem_nil, or_false] at hv; rcases hv with rfl | rfl <;> rfl
def enc36 (x : Int × Int × Int × Bool) : List Value := [(Value.int .u32 x.1), (Value.int .i64 x.2.1), (Value.int .i64 x.2.2.1), (Value.bool x.2.2.2)]
theorem encL36 : ∀ x, (enc36 x).length = 4 := fun _ => rfl
theorem encO36 : ∀ x, ∀ v ∈ enc36 x, v.oneCell' = true := by intro x v hv; simp only [enc36, List.mem_cons, List.not_mem_nil, or_false] at hv; rcases hv with rfl | rfl | rfl | rfl <;> rfl
def enc63 (x : Int × Int × Int × Bool × Int) : List Value := [(Value.int .u32 x.1), (Value.int .i64 x.2.1), (Value.int .i64 x.2.2.1), (Value.bool x.2.2.2.1), (Value.int .i64 x.2.2.2.2)]
theorem encL63 : ∀ x, (enc63 x).length = 5 := fun _ => rfl
theorem encO63 : ∀ x, ∀ v ∈ enc63 x, v.oneCell' = true := by intro x v hv; simp only [enc63, List.mem_cons, List.not_mem_nil, or_false] at hv; rcases hv with rfl | rfl | rfl | rfl | rfl <;> rfl
def va3 (x : Int) : Value := (Value.int .i64 x)
def va34 (x : Int × Int) : Value := (Value.agg #[(Value.int .u32 x.1), (Value.int .i64 x.2)])
def va36 (x : Int × Int × Int × Bool) : Value := (Value.agg #[(Value.int .u32 x.1), (Value.int .i64 x.2.1), (Value.int .i64 x.2.2.1), (Value.bool x.2.2.2)])
theorem sz4 : sizeT Try.prog 4 = some 1 := by kernel_rfl
theorem sz26 : sizeT Try.prog 26 = some 1 := by kernel_rfl
theorem sz30 : sizeT Try.prog 30 = some 1 := by kernel_rfl
theorem sz34 : sizeT Try.prog 34 = some 2 := by kernel_rfl
theorem sz36 : sizeT Try.prog 36 = some 4 := by kernel_rfl
theorem sz38 : sizeT Try.prog 38 = some 7 := by kernel_rfl
theorem sz48 : sizeT Try.prog 48 = some 1 := by kernel_rfl
def encR38 (FL : List HP) (x : Int × (List (Int × Int)) × Int × Int × Int × Bool × Int) (cs : List Value) : Prop := ∃ (p1 : Option Addr) (n1 c1 : Nat), cs = [(Value.int .i64 x.1), (Value.slice p1 n1 c1), (Value.int .u32 x.2.2.1), (Value.int .i64 x.2.2.2.1), (Value.int .i64 x.2.2.2.2.1), (Value.bool x.2.2.2.2.2.1), (Value.int .i64 x.2.2.2.2.2.2)] ∧ n1 = x.2.1.length ∧ n1 ≤ c1 ∧ (∀ w, Mem FL w → Rd w 2 p1 enc34 x.2.1)
theorem encRm38 {FL FL2 : List HP} (hx : ∀ w, Mem FL2 w → Mem FL w) (x : Int × (List (Int × Int)) × Int × Int × Int × Bool × Int) (cs : List Value) : encR38 FL x cs → encR38 FL2 x cs := by
  rintro ⟨p1, n1, c1, rfl, l1, k1, F1⟩
  exact ⟨p1, n1, c1, rfl, l1, k1, (fun w h => F1 w (hx w h))⟩
theorem eqG34 : Try.prog.eqGuardType Try.prog.depth 34 = false := by kernel_rfl
theorem eqA34 : isAggB Try.prog 34 = true := by kernel_rfl
theorem eqT34 (a0 : Int) (a1 : Int) (b0 : Int) (b1 : Int) : eqT Try.prog 20 34 [(Value.int .u32 a0), (Value.int .i64 a1)] [(Value.int .u32 b0), (Value.int .i64 b1)] = some (((a0 : Int) == b0) && (((a1 : Int) == b1) && true)) := by kernel_rfl
theorem eqG36 : Try.prog.eqGuardType Try.prog.depth 36 = false := by kernel_rfl
theorem eqA36 : isAggB Try.prog 36 = true := by kernel_rfl
theorem eqT36 (a0 : Int) (a1 : Int) (a2 : Int) (a3 : Bool) (b0 : Int) (b1 : Int) (b2 : Int) (b3 : Bool) : eqT Try.prog 20 36 [(Value.int .u32 a0), (Value.int .i64 a1), (Value.int .i64 a2), (Value.bool a3)] [(Value.int .u32 b0), (Value.int .i64 b1), (Value.int .i64 b2), (Value.bool b3)] = some ((((a0 : Int) == b0) && (((a1 : Int) == b1) && true)) && (((a2 : Int) == b2) && ((a3 == b3) && true))) := by kernel_rfl
theorem zr3 : zeroOf Try.prog 3 = some (Value.int .i64 0) := by kernel_rfl
theorem mu55 : Try.prog.underlying 55 = some (.map 34 3) := by kernel_rfl
theorem mu56 : Try.prog.underlying 56 = some (.map 36 3) := by kernel_rfl
theorem eqD34 : ∀ a b : Int × Int, (((a.1 : Int) == b.1) && (((a.2 : Int) == b.2) && true)) = decide (a = b) := by
  rintro ⟨a0, a1⟩ ⟨b0, b1⟩
  rw [Bool.eq_iff_iff]
  simp [Prod.ext_iff, and_assoc]
theorem chk34 (e : Bool) (k : Int × Int) (w : World) : (Instr.checkKey e 10000 34 (va34 k)).run Try.prog w = .ok () w := by kernel_rfl
theorem kt34 : KeyT Try.prog 34 va34 := keyStruct (enc := fun k => [(Value.int .u32 k.1), (Value.int .i64 k.2)]) (fun _ => rfl) (by kernel_rfl) eqA34 (fun a b => (eqT34 a.1 a.2 b.1 b.2).trans (congrArg some (eqD34 a b))) chk34 (fun k v hv => by
  simp only [List.mem_cons, List.not_mem_nil, or_false] at hv
  rcases hv with rfl | rfl <;> first | exact sameInt _ _ _ | exact sameBool _ _ | exact sameStr _ _)
theorem eqD36 : ∀ a b : Int × Int × Int × Bool, ((((a.1 : Int) == b.1) && (((a.2.1 : Int) == b.2.1) && true)) && (((a.2.2.1 : Int) == b.2.2.1) && ((a.2.2.2 == b.2.2.2) && true))) = decide (a = b) := by
  rintro ⟨a0, a1, a2, a3⟩ ⟨b0, b1, b2, b3⟩
  rw [Bool.eq_iff_iff]
  simp [Prod.ext_iff, and_assoc]
theorem chk36 (e : Bool) (k : Int × Int × Int × Bool) (w : World) : (Instr.checkKey e 10000 36 (va36 k)).run Try.prog w = .ok () w := by kernel_rfl
theorem kt36 : KeyT Try.prog 36 va36 := keyStruct (enc := fun k => [(Value.int .u32 k.1), (Value.int .i64 k.2.1), (Value.int .i64 k.2.2.1), (Value.bool k.2.2.2)]) (fun _ => rfl) (by kernel_rfl) eqA36 (fun a b => (eqT36 a.1 a.2.1 a.2.2.1 a.2.2.2 b.1 b.2.1 b.2.2.1 b.2.2.2).trans (congrArg some (eqD36 a b))) chk36 (fun k v hv => by
  simp only [List.mem_cons, List.not_mem_nil, or_false] at hv
  rcases hv with rfl | rfl | rfl | rfl <;> first | exact sameInt _ _ _ | exact sameBool _ _ | exact sameStr _ _)
theorem slt26 : SlT Try.prog 26 34 (Value.agg #[(Value.int .u32 0), (Value.int .i64 0)]) 2 16 := ⟨by kernel_rfl, by kernel_rfl, by kernel_rfl, by decide⟩
theorem slt30 : SlT Try.prog 30 63 (Value.agg #[(Value.int .u32 0), (Value.int .i64 0), (Value.int .i64 0), (Value.bool false), (Value.int .i64 0)]) 5 40 := ⟨by kernel_rfl, by kernel_rfl, by kernel_rfl, by decide⟩
theorem slt48 : SlT Try.prog 48 36 (Value.agg #[(Value.int .u32 0), (Value.int .i64 0), (Value.int .i64 0), (Value.bool false)]) 4 32 := ⟨by kernel_rfl, by kernel_rfl, by kernel_rfl, by decide⟩
theorem undP27 : Try.prog.underlying 27 = some (.pointer (Try.prog.pointee 27)) := by kernel_rfl
theorem undB4 : Try.prog.underlying 4 = some .bool := by kernel_rfl
theorem und26 : Try.prog.underlying 26 = some (.slice 34) := by kernel_rfl
theorem und30 : Try.prog.underlying 30 = some (.slice 63) := by kernel_rfl
theorem und48 : Try.prog.underlying 48 = some (.slice 36) := by kernel_rfl


/-! embrasure/advert.New (11) -/
def advert_New_wp  (K : List (Int × Int) → List ((Int × Int) × Int) → List ((Int × Int × Int × Bool) × Int) → Prop) : Prop :=
  K ([] : List (Int × Int)) ([] : List ((Int × Int) × Int)) ([] : List ((Int × Int × Int × Bool) × Int))
theorem advert_New_ok  {FL : List HP} {w : World} {K : List (Int × Int) → List ((Int × Int) × Int) → List ((Int × Int × Int × Bool) × Int) → Prop} {R : Value → World → Prop}
  (h : Mem (FL) w) (hp : advert_New_wp  K)
  (hR : ∀ (own : List (Int × Int)) (mapped : List ((Int × Int) × Int)) (relays : List ((Int × Int × Int × Bool) × Int)) (b_1 : Nat) (p_1 : Option Addr) (n_1 : Nat) (c_1 : Nat) (b_2 : Nat) (p_2 : List MapEntry × Nat) (b_3 : Nat) (p_3 : List MapEntry × Nat) (w : World), n_1 = own.length → Mem (cel b_1 58 [(Value.slice p_1 n_1 c_1), (Value.map (some b_2)), (Value.map (some b_3))] :: row enc34 34 2 p_1 c_1 own :: mapQ b_2 va34 va3 p_2 mapped :: mapQ b_3 va36 va3 p_3 relays :: FL) w → K own mapped relays → R (Value.pointer (some (Addr.mk b_1 0 none))) w) :
  CallV Try.prog 11 #[] w R := by
  refine advert_New_call ?_
  unfold advert_New
  unfold advert_New_wp at hp
  refine makeMapL (ek := va34) (ev := va3) h ?_
  intro b_1 p_1 w h
  refine ⟨_, rfl, ?_⟩
  refine makeMapL (ek := va36) (ev := va3) h ?_
  intro b_2 p_2 w h
  refine ⟨_, rfl, ?_⟩
  refine newL (o := [(Value.slice none 0 0), (Value.map (some b_1)), (Value.map (some b_2))]) h ?_
  intro b_3 w h
  replace h := rowNil enc34 34 2 h
  replace h := h.sel [1, 0, 1, 0] 0
  dsimp only [pickL, pickR, nthH, delH, dropH, List.cons_append, List.nil_append] at h
  exact hR ([] : List (Int × Int)) ([] : List ((Int × Int) × Int)) ([] : List ((Int × Int × Int × Bool) × Int)) b_3 (none ) 0 0 b_1 p_1 b_2 p_2 _ rfl h hp

/-! slices.IndexFunc[[]embrasure/api.Addr,embrasure/api.Addr] (38) -/
def slices_IndexFunc_sl_api_Addr_api_Addr_wp {σ1 : Type} (s : List (Int × Int)) (s_1 : σ1) (Y1 : (Int × Int) → σ1 → (Bool → σ1 → Prop) → Prop) (K : Int → σ1 → Prop) : Prop :=
  ∃ (I : Nat → Int → σ1 → Prop), (∃ (n_4 : Nat), I n_4 0 s_1) ∧ ∀ (n_2 : Nat) (t8 : Int) (s_3 : σ1), I n_2 t8 s_3 → (cond (decide ((t8 : Int) < ((s.length : Nat) : Int))) (0 ≤ (t8 : Int) ∧ (t8 : Int) < ((s.length : Nat) : Int) ∧ (∀ (x_1 : Int × Int), s[Int.toNat t8]? = some x_1 → (Y1 x_1 s_3 (fun (t16 : Bool) (s_4 : σ1) => cond t16 (K t8 s_4) (∃ (n_3 : Nat), n_3 < n_2 ∧ I n_3 (IntKind.wrap .i64 (t8 + 1)) s_4))))) (K (-1) s_3))
theorem slices_IndexFunc_sl_api_Addr_api_Addr_ok {σ1 : Type} {A1 : σ1 → HP} {p_1 : Option Addr} {n_1 : Nat} {c_1 : Nat} {ff1 : Fn} {fa1 : Array Value} {fc1 : Array Value} {s : List (Int × Int)} {s_1 : σ1} {Y1 : (Int × Int) → σ1 → (Bool → σ1 → Prop) → Prop} {FL : List HP} {w : World} {K : Int → σ1 → Prop} {R : Value → World → Prop}
  (hY1 : ∀ (x0 : Int × Int) (s : σ1) (K : Bool → σ1 → Prop) (FL2 : List HP) (w : World) (R : Value → World → Prop), (∀ w, Mem FL2 w → Mem FL w) → Mem (A1 s :: FL2) w → Y1 x0 s K → (∀ (r : Bool) (s : σ1) (w : World), Mem (A1 s :: FL2) w → K r s → R (Value.bool r) w) → CalleeV Try.prog (Value.func ff1 fa1 fc1) #[(Value.agg #[(Value.int .u32 x0.1), (Value.int .i64 x0.2)])] w R)
  (hF_s : ∀ w, Mem FL w → Rd w 2 p_1 enc34 s) (hl_s : n_1 = s.length) (hc_s : n_1 ≤ c_1)
  (h : Mem (A1 s_1 :: FL) w) (hp : slices_IndexFunc_sl_api_Addr_api_Addr_wp s s_1 Y1 K)
  (hR : ∀ (r : Int) (s_2 : σ1) (w : World), Mem (A1 s_2 :: FL) w → K r s_2 → R (Value.int .i64 r) w) :
  CallV Try.prog 38 #[(Value.slice p_1 n_1 c_1), (Value.func ff1 fa1 fc1)] w R := by
  refine slices_IndexFunc_sl_api_Addr_api_Addr_call ?_
  unfold slices_IndexFunc_sl_api_Addr_api_Addr
  unfold slices_IndexFunc_sl_api_Addr_api_Addr_wp at hp
  subst hl_s
  obtain ⟨I, ⟨n_4, h0⟩, hq⟩ := hp
  refine ⟨fun n_2 s0p s0l s0c f1 t7 t8 w => ∃ (s_3 : σ1), p_1 = s0p ∧ s.length = s0l ∧ c_1 = s0c ∧ (Value.func ff1 fa1 fc1) = f1 ∧ ((s.length : Nat) : Int) = t7 ∧ I n_2 t8 s_3 ∧ Mem (A1 s_3 :: FL) w, ⟨n_4, s_1, rfl, rfl, rfl, rfl, rfl, h0, h⟩, ?_⟩
  clear h0 h
  rintro n_2 s0p s0l s0c f1 t7 t8 w ⟨s_3, rfl, rfl, rfl, rfl, rfl, hp, h⟩
  replace hp := hq n_2 t8 s_3 hp
  clear hq
  unfold slices_IndexFunc_sl_api_Addr_api_Addr_l1
  refine cond_both' hp (fun hp => ?_) (fun hp => ?_)
  · exact hR (-1) s_3 _ h hp
  obtain ⟨ia_1, ja_1, hp⟩ := hp
  obtain ⟨a_1, ha_1⟩ := rdAddr (hF_s _ (h.drop 1)) rfl ia_1 ja_1
  refine ⟨a_1, ha_1, ia_1, ja_1, ?_⟩
  obtain ⟨x_1, hx_1, hc⟩ := rdCell (hF_s _ (h.drop 1)) ha_1 rfl ia_1 ja_1
  replace hp := hp x_1 hx_1
  refine ⟨_, hc 0 _ rfl, _, hc 1 _ rfl, ?_⟩
  refine hY1 x_1 _ _ (FL) _ _ (fun _ h => Mem.drop 0 h) h hp ?_
  intro t16 s_4 w h hp
  refine ⟨_, rfl, ?_⟩
  refine cond_both hp (fun hp => ?_) (fun hp => ?_)
  · exact hR t8 s_4 _ h hp
  obtain ⟨n_3, hn, hp⟩ := hp
  exact ⟨n_3, hn, s_4, rfl, rfl, rfl, rfl, rfl, hp, h⟩

/-! slices.ContainsFunc[[]embrasure/api.Addr,embrasure/api.Addr] (23) -/
def slices_ContainsFunc_sl_api_Addr_api_Addr_wp {σ1 : Type} (s : List (Int × Int)) (s_1 : σ1) (Y1 : (Int × Int) → σ1 → (Bool → σ1 → Prop) → Prop) (K : Bool → σ1 → Prop) : Prop :=
  slices_IndexFunc_sl_api_Addr_api_Addr_wp s s_1 Y1 (fun (r : Int) (s_3 : σ1) => K (decide ((r : Int) ≥ 0)) s_3)
theorem slices_ContainsFunc_sl_api_Addr_api_Addr_ok {σ1 : Type} {A1 : σ1 → HP} {p_1 : Option Addr} {n_1 : Nat} {c_1 : Nat} {ff1 : Fn} {fa1 : Array Value} {fc1 : Array Value} {s : List (Int × Int)} {s_1 : σ1} {Y1 : (Int × Int) → σ1 → (Bool → σ1 → Prop) → Prop} {FL : List HP} {w : World} {K : Bool → σ1 → Prop} {R : Value → World → Prop}
  (hY1 : ∀ (x0 : Int × Int) (s : σ1) (K : Bool → σ1 → Prop) (FL2 : List HP) (w : World) (R : Value → World → Prop), (∀ w, Mem FL2 w → Mem FL w) → Mem (A1 s :: FL2) w → Y1 x0 s K → (∀ (r : Bool) (s : σ1) (w : World), Mem (A1 s :: FL2) w → K r s → R (Value.bool r) w) → CalleeV Try.prog (Value.func ff1 fa1 fc1) #[(Value.agg #[(Value.int .u32 x0.1), (Value.int .i64 x0.2)])] w R)
  (hF_s : ∀ w, Mem FL w → Rd w 2 p_1 enc34 s) (hl_s : n_1 = s.length) (hc_s : n_1 ≤ c_1)
  (h : Mem (A1 s_1 :: FL) w) (hp : slices_ContainsFunc_sl_api_Addr_api_Addr_wp s s_1 Y1 K)
  (hR : ∀ (r : Bool) (s_2 : σ1) (w : World), Mem (A1 s_2 :: FL) w → K r s_2 → R (Value.bool r) w) :
  CallV Try.prog 23 #[(Value.slice p_1 n_1 c_1), (Value.func ff1 fa1 fc1)] w R := by
  refine slices_ContainsFunc_sl_api_Addr_api_Addr_call ?_
  unfold slices_ContainsFunc_sl_api_Addr_api_Addr
  unfold slices_ContainsFunc_sl_api_Addr_api_Addr_wp at hp
  subst hl_s
  refine slices_IndexFunc_sl_api_Addr_api_Addr_ok (FL := FL) (A1 := A1) (Y1 := Y1) (σ1 := σ1) (s_1 := s_1) (fun _ _ _ FL2 w R hx => hY1 _ _ _ FL2 w R (fun w h => (Mem.drop 0 (hx w h)))) (fun w h => (hF_s _ (h.drop 0))) rfl hc_s h hp ?_
  intro r s_3 w h hp
  refine ⟨_, rfl, ?_⟩
  exact hR (decide ((r : Int) ≥ 0)) s_3 _ h hp

/-! embrasure/addr.May (25) -/
def addr_May_wp (a_Host : Int) (a_Port : Int) (K : Bool → Prop) : Prop :=
  cond ((a_Host : Int) != 0) (cond (decide ((a_Port : Int) ≥ 1)) (K (decide ((a_Port : Int) ≤ 65535))) (K false)) (K false)
theorem addr_May_ok {a_Host : Int} {a_Port : Int} {FL : List HP} {w : World} {K : Bool → Prop} {R : Value → World → Prop}
  (h : Mem (FL) w) (hp : addr_May_wp a_Host a_Port K)
  (hR : ∀ (r : Bool) (w : World), Mem (FL) w → K r → R (Value.bool r) w) :
  CallV Try.prog 25 #[(Value.agg #[(Value.int .u32 a_Host), (Value.int .i64 a_Port)])] w R := by
  refine addr_May_call ?_
  unfold addr_May
  unfold addr_May_wp at hp
  refine newL (o := [(Value.int .u32 a_Host), (Value.int .i64 a_Port)]) h ?_
  intro b_1 w h
  refine ⟨_, cellL h 0 0 rfl rfl rfl, ?_⟩
  refine cond_both' hp (fun hp => ?_) (fun hp => ?_)
  · replace h := h.sel [] 1
    dsimp only [pickL, pickR, nthH, delH, dropH, List.cons_append, List.nil_append] at h
    exact hR false _ h hp
  refine ⟨_, cellL h 0 1 rfl rfl rfl, ?_⟩
  refine cond_both' hp (fun hp => ?_) (fun hp => ?_)
  · replace h := h.sel [] 1
    dsimp only [pickL, pickR, nthH, delH, dropH, List.cons_append, List.nil_append] at h
    exact hR false _ h hp
  refine ⟨_, cellL h 0 1 rfl rfl rfl, ?_⟩
  replace h := h.sel [] 1
  dsimp only [pickL, pickR, nthH, delH, dropH, List.cons_append, List.nil_append] at h
  exact hR (decide ((a_Port : Int) ≤ 65535)) _ h hp

/-! (*embrasure/advert.Advert).Own$1 (24) -/
def advert_Advert_Own_c1_wp (x_Host : Int) (x_Port : Int) (K : Bool → Prop) : Prop :=
  addr_May_wp x_Host x_Port (fun (r : Bool) => K (!r))
theorem advert_Advert_Own_c1_ok {x_Host : Int} {x_Port : Int} {FL : List HP} {w : World} {K : Bool → Prop} {R : Value → World → Prop}
  (h : Mem (FL) w) (hp : advert_Advert_Own_c1_wp x_Host x_Port K)
  (hR : ∀ (r : Bool) (w : World), Mem (FL) w → K r → R (Value.bool r) w) :
  CallV Try.prog 24 #[(Value.agg #[(Value.int .u32 x_Host), (Value.int .i64 x_Port)])] w R := by
  refine advert_Advert_Own_c1_call ?_
  unfold advert_Advert_Own_c1
  unfold advert_Advert_Own_c1_wp at hp
  refine newL (o := [(Value.int .u32 x_Host), (Value.int .i64 x_Port)]) h ?_
  intro b_1 w h
  refine ⟨_, cellL h 0 0 rfl rfl rfl, _, cellL h 0 1 rfl rfl rfl, ?_⟩
  refine addr_May_ok h hp ?_
  intro r w h hp
  refine ⟨_, rfl, ?_⟩
  replace h := h.sel [] 1
  dsimp only [pickL, pickR, nthH, delH, dropH, List.cons_append, List.nil_append] at h
  exact hR (!r) _ h hp

/-! slices.Clone[[]embrasure/api.Addr,embrasure/api.Addr] (26) -/
def slices_Clone_sl_api_Addr_api_Addr_wp (s : List (Int × Int)) (K : List (Int × Int) → Prop) : Prop :=
  ∀ (nil : Bool), (nil = true → s = []) → (cond nil (K ([] : List (Int × Int))) ((([] : List (Int × Int)).length + s.length) * 16 ≤ 140737488355328 ∧ (K (([] : List (Int × Int)) ++ s))))
theorem slices_Clone_sl_api_Addr_api_Addr_ok {p_1 : Option Addr} {n_1 : Nat} {c_1 : Nat} {s : List (Int × Int)} {FL : List HP} {w : World} {K : List (Int × Int) → Prop} {R : Value → World → Prop}
  (hF_s : ∀ w, Mem FL w → Rd w 2 p_1 enc34 s) (hl_s : n_1 = s.length) (hc_s : n_1 ≤ c_1)
  (h : Mem (FL) w) (hp : slices_Clone_sl_api_Addr_api_Addr_wp s K)
  (hR : ∀ (rs : List (Int × Int)) (p_2 : Option Addr) (n_2 : Nat) (c_2 : Nat) (w : World), n_2 = rs.length → Mem (row enc34 34 2 p_2 c_2 rs :: FL) w → K rs → R (Value.slice p_2 n_2 c_2) w) :
  CallV Try.prog 26 #[(Value.slice p_1 n_1 c_1)] w R := by
  refine slices_Clone_sl_api_Addr_api_Addr_call ?_
  unfold slices_Clone_sl_api_Addr_api_Addr
  unfold slices_Clone_sl_api_Addr_api_Addr_wp at hp
  subst hl_s
  obtain ⟨nil, hnil⟩ : ∃ b : Bool, Option.isNone p_1 = b := ⟨_, rfl⟩
  replace hp := hp nil (nilEmpty (hF_s _ (h.drop 0)) hnil)
  refine eqlSlNil und26 hnil ?_
  refine ⟨_, rfl, ?_⟩
  refine cond_both hp (fun hp => ?_) (fun hp => ?_)
  · replace h := rowNil enc34 34 2 h
    exact hR ([] : List (Int × Int)) (none ) 0 0 _ rfl h hp
  refine newL (o := []) h ?_
  intro b_1 w h
  have sr := (hF_s _ (h.drop 1))
  replace h := rowOfCel h 0 encL34 rfl ([] : List (Int × Int)) rfl
  dsimp only [setH, setVs, setV] at h
  obtain ⟨hb, hp⟩ := hp
  refine appendL slt26 und26 encL34 encO34 h 0 rfl rfl sr rfl hb ?_
  intro p_3 c_2 w h
  dsimp only [setH, setVs, setV] at h
  have cpp_3 := rowCap h 0 rfl
  refine ⟨_, _, _, rfl, ?_⟩
  exact hR (([] : List (Int × Int)) ++ s) p_3 ((([] : List (Int × Int)) ++ s).length) c_2 _ rfl h hp

/-! (*embrasure/advert.Advert).Own (12) -/
def advert_Advert_Own_wp (own : List (Int × Int)) (mapped : List ((Int × Int) × Int)) (relays : List ((Int × Int × Int × Bool) × Int)) (list : List (Int × Int)) (K : Int → List (Int × Int) → Prop) : Prop :=
  joinP1 (fun (t11 : Bool) => cond t11 (K 1 own) (slices_Clone_sl_api_Addr_api_Addr_wp list (fun (rs : List (Int × Int)) => K 0 rs))) (fun (Q : Bool → Prop) => cond (decide ((((list.length : Nat) : Int) : Int) > 8)) (Q true) (slices_ContainsFunc_sl_api_Addr_api_Addr_wp list () (fun x_1 s K_1 => advert_Advert_Own_c1_wp x_1.1 x_1.2 (fun (r : Bool) => K_1 r s)) (fun (r : Bool) (s_1 : (Unit)) => Q r)))
theorem advert_Advert_Own_ok {b_1 : Nat} {p_1 : Option Addr} {c_1 : Nat} {b_2 : Nat} {p_2 : List MapEntry × Nat} {b_3 : Nat} {p_3 : List MapEntry × Nat} {p_4 : Option Addr} {n_1 : Nat} {c_2 : Nat} {own : List (Int × Int)} {mapped : List ((Int × Int) × Int)} {relays : List ((Int × Int × Int × Bool) × Int)} {list : List (Int × Int)} {FL : List HP} {w : World} {K : Int → List (Int × Int) → Prop} {R : Value → World → Prop}
  (hF_list : ∀ w, Mem FL w → Rd w 2 p_4 enc34 list) (hl_list : n_1 = list.length) (hc_list : n_1 ≤ c_2)
  (hM_mapped : RoM FL b_2 va34 va3 p_2 mapped)
  (hM_relays : RoM FL b_3 va36 va3 p_3 relays)
  (h : Mem (cel b_1 58 [(Value.slice p_1 own.length c_1), (Value.map (some b_2)), (Value.map (some b_3))] :: row enc34 34 2 p_1 c_1 own :: FL) w) (hp : advert_Advert_Own_wp own mapped relays list K)
  (hR : ∀ (r : Int) (own_1 : List (Int × Int)) (p_5 : Option Addr) (n_2 : Nat) (c_3 : Nat) (w : World), n_2 = own_1.length → Mem (cel b_1 58 [(Value.slice p_5 n_2 c_3), (Value.map (some b_2)), (Value.map (some b_3))] :: row enc34 34 2 p_5 c_3 own_1 :: FL) w → K r own_1 → R (Value.int .i64 r) w) :
  CallV Try.prog 12 #[(Value.pointer (some (Addr.mk b_1 0 none))), (Value.slice p_4 n_1 c_2)] w R := by
  refine advert_Advert_Own_call ?_
  unfold advert_Advert_Own
  unfold advert_Advert_Own_wp at hp
  subst hl_list
  have cpp_1 := rowCap h 1 rfl
  obtain ⟨Q, hq, hp⟩ := hp
  refine ⟨fun a0 list1p list1l list1c t11 w => (some (Addr.mk b_1 0 none)) = a0 ∧ p_4 = list1p ∧ list.length = list1l ∧ c_2 = list1c ∧ Q t11 ∧ Mem (cel b_1 58 [(Value.slice p_1 own.length c_1), (Value.map (some b_2)), (Value.map (some b_3))] :: row enc34 34 2 p_1 c_1 own :: FL) w, ?_, ?_⟩
  · rintro a0 list1p list1l list1c t11 w ⟨rfl, rfl, rfl, rfl, hp, h⟩
    replace hp := hq t11 hp
    unfold advert_Advert_Own_j1
    refine cond_both hp (fun hp => ?_) (fun hp => ?_)
    · exact hR 1 own p_1 own.length c_1 _ rfl h hp
    refine slices_Clone_sl_api_Addr_api_Addr_ok (FL := cel b_1 58 [(Value.slice p_1 own.length c_1), (Value.map (some b_2)), (Value.map (some b_3))] :: row enc34 34 2 p_1 c_1 own :: FL) (fun w h => (hF_list _ (h.drop 2))) rfl hc_list h hp ?_
    rintro rs p_6 n_3 c_4 w rfl h hp
    have cpp_6 := rowCap h 0 rfl
    refine ⟨_, _, _, rfl, ?_⟩
    refine ⟨_, rfl, ?_⟩
    refine storeL (ys := [(Value.slice p_6 rs.length c_4)]) h 1 0 rfl rfl rfl sz26 rfl rfl ?_
    intro w h
    dsimp only [setH, setVs, setV] at h
    replace h := h.sel [1, 0] 1
    dsimp only [pickL, pickR, nthH, delH, dropH, List.cons_append, List.nil_append] at h
    exact hR 0 rs p_6 rs.length c_4 _ rfl h hp
  clear hq
  refine cond_both hp (fun hp => ?_) (fun hp => ?_)
  · exact ⟨rfl, rfl, rfl, rfl, hp, h⟩
  replace h : Mem ((fun (_ : Unit) => HL []) () :: cel b_1 58 [(Value.slice p_1 own.length c_1), (Value.map (some b_2)), (Value.map (some b_3))] :: row enc34 34 2 p_1 c_1 own :: FL) _ := h.pack 0 [] rfl
  refine slices_ContainsFunc_sl_api_Addr_api_Addr_ok (FL := cel b_1 58 [(Value.slice p_1 own.length c_1), (Value.map (some b_2)), (Value.map (some b_3))] :: row enc34 34 2 p_1 c_1 own :: FL) (A1 := (fun (_ : Unit) => HL [])) (Y1 := (fun x_1 s K_1 => advert_Advert_Own_c1_wp x_1.1 x_1.2 (fun (r : Bool) => K_1 r s))) (σ1 := Unit) (s_1 := ()) ?_ (fun w h => (hF_list _ (h.drop 2))) rfl hc_list h hp ?_
  · intro x_1 s K FL2 w R hx h hp hR
    replace h := h.unpack
    dsimp only [pickL, pickR, nthH, delH, dropH, List.cons_append, List.nil_append] at h
    refine calleeFn (by kernel_rfl) ?_
    refine advert_Advert_Own_c1_ok h hp ?_
    intro r w h hp
    exact hR r s _ (h.pack 0 [] rfl) hp
  intro r s_1 w h hp
  replace h := h.unpack
  dsimp only [pickL, pickR, nthH, delH, dropH, List.cons_append, List.nil_append] at h
  refine ⟨_, rfl, ?_⟩
  exact ⟨rfl, rfl, rfl, rfl, hp, h⟩

/-! embrasure/advert.set[embrasure/api.Addr] (27) -/
def advert_set_api_Addr_wp (all : List ((Int × Int) × Int)) (x_Host : Int) (x_Port : Int) (until_ : Int) (K : Int → List ((Int × Int) × Int) → Prop) : Prop :=
  cond (decide ((until_ : Int) ≤ 0)) (K 0 (mapDel all (x_Host, x_Port))) (joinP1 (fun (t23 : Bool) => cond t23 (K 10 all) (K 0 (mapPut all (x_Host, x_Port) until_))) (fun (Q : Bool → Prop) => cond (!(mapHas all (x_Host, x_Port))) (Q (decide ((((all.length : Nat) : Int) : Int) ≥ 20))) (Q false)))
theorem advert_set_api_Addr_ok {b_1 : Nat} {p_1 : List MapEntry × Nat} {all : List ((Int × Int) × Int)} {x_Host : Int} {x_Port : Int} {until_ : Int} {FL : List HP} {w : World} {K : Int → List ((Int × Int) × Int) → Prop} {R : Value → World → Prop}
  (h : Mem (mapQ b_1 va34 va3 p_1 all :: FL) w) (hp : advert_set_api_Addr_wp all x_Host x_Port until_ K)
  (hR : ∀ (r : Int) (m_1 : List ((Int × Int) × Int)) (p_2 : List MapEntry × Nat) (w : World), Mem (mapQ b_1 va34 va3 p_2 m_1 :: FL) w → K r m_1 → R (Value.int .i64 r) w) :
  CallV Try.prog 27 #[(Value.map (some b_1)), (Value.agg #[(Value.int .u32 x_Host), (Value.int .i64 x_Port)]), (Value.int .i64 until_)] w R := by
  refine advert_set_api_Addr_call ?_
  unfold advert_set_api_Addr
  unfold advert_set_api_Addr_wp at hp
  refine newL (o := [(Value.int .u32 x_Host), (Value.int .i64 x_Port)]) h ?_
  intro b_2 w h
  refine ⟨_, cellL h 0 0 rfl rfl rfl, _, cellL h 0 1 rfl rfl rfl, ?_⟩
  refine lookW2 (k := (x_Host, x_Port)) (d := 0) (mapAt h 1 rfl) mu55 kt34 (fun w => run_zeroValue zr3) ?_
  refine ⟨_, _, rfl, ?_⟩
  refine ⟨_, rfl, ?_⟩
  refine cond_both hp (fun hp => ?_) (fun hp => ?_)
  · refine ⟨_, cellL h 0 0 rfl rfl rfl, _, cellL h 0 1 rfl rfl rfl, ?_⟩
    refine mapDelG (k := (x_Host, x_Port)) h 1 rfl mu55 kt34 ?_
    intro p_3 w h
    dsimp only [setH, setVs, setV] at h
    refine ⟨rfl, ?_⟩
    replace h := h.sel [1] 1
    dsimp only [pickL, pickR, nthH, delH, dropH, List.cons_append, List.nil_append] at h
    exact hR 0 (mapDel all (x_Host, x_Port)) p_3 _ h hp
  obtain ⟨Q, hq, hp⟩ := hp
  refine ⟨fun all0 until2 x4 t23 w => (some b_1) = all0 ∧ until_ = until2 ∧ (Addr.mk b_2 0 none) = x4 ∧ Q t23 ∧ Mem (cel b_2 34 [(Value.int .u32 x_Host), (Value.int .i64 x_Port)] :: mapQ b_1 va34 va3 p_1 all :: FL) w, ?_, ?_⟩
  · rintro all0 until2 x4 t23 w ⟨rfl, rfl, rfl, hp, h⟩
    replace hp := hq t23 hp
    unfold advert_set_api_Addr_j1
    refine cond_both hp (fun hp => ?_) (fun hp => ?_)
    · replace h := h.sel [1] 1
      dsimp only [pickL, pickR, nthH, delH, dropH, List.cons_append, List.nil_append] at h
      exact hR 10 all p_1 _ h hp
    refine ⟨_, cellL h 0 0 rfl rfl rfl, _, cellL h 0 1 rfl rfl rfl, ?_⟩
    refine mapPutG (k := (x_Host, x_Port)) (v := until_) h 1 rfl mu55 kt34 ?_
    intro p_4 w h
    dsimp only [setH, setVs, setV] at h
    replace h := h.sel [1] 1
    dsimp only [pickL, pickR, nthH, delH, dropH, List.cons_append, List.nil_append] at h
    exact hR 0 (mapPut all (x_Host, x_Port) until_) p_4 _ h hp
  clear hq
  refine cond_both' hp (fun hp => ?_) (fun hp => ?_)
  · exact ⟨rfl, rfl, rfl, hp, h⟩
  refine lenMapW (mapAt h 1 rfl) mu55 ?_
  refine ⟨_, rfl, ?_⟩
  exact ⟨rfl, rfl, rfl, hp, h⟩

/-! (*embrasure/advert.Advert).Mapped (14) -/
def advert_Advert_Mapped_wp (mapped : List ((Int × Int) × Int)) (relays : List ((Int × Int × Int × Bool) × Int)) (x_Host : Int) (x_Port : Int) (until_ : Int) (K : Int → List ((Int × Int) × Int) → Prop) : Prop :=
  joinP1 (fun (t13 : Bool) => cond t13 (K 1 mapped) (advert_set_api_Addr_wp mapped x_Host x_Port until_ (fun (r_1 : Int) (m_2 : List ((Int × Int) × Int)) => K r_1 m_2))) (fun (Q : Bool → Prop) => addr_May_wp x_Host x_Port (fun (r : Bool) => cond (!r) (Q true) (Q (decide ((until_ : Int) > 1099511627776)))))
theorem advert_Advert_Mapped_ok {b_1 : Nat} {p_1 : Option Addr} {n_1 : Nat} {c_1 : Nat} {b_2 : Nat} {p_2 : List MapEntry × Nat} {b_3 : Nat} {p_3 : List MapEntry × Nat} {mapped : List ((Int × Int) × Int)} {relays : List ((Int × Int × Int × Bool) × Int)} {x_Host : Int} {x_Port : Int} {until_ : Int} {FL : List HP} {w : World} {K : Int → List ((Int × Int) × Int) → Prop} {R : Value → World → Prop}
  (hM_relays : RoM FL b_3 va36 va3 p_3 relays)
  (h : Mem (cel b_1 58 [(Value.slice p_1 n_1 c_1), (Value.map (some b_2)), (Value.map (some b_3))] :: mapQ b_2 va34 va3 p_2 mapped :: FL) w) (hp : advert_Advert_Mapped_wp mapped relays x_Host x_Port until_ K)
  (hR : ∀ (r : Int) (m_1 : List ((Int × Int) × Int)) (p_4 : List MapEntry × Nat) (w : World), Mem (cel b_1 58 [(Value.slice p_1 n_1 c_1), (Value.map (some b_2)), (Value.map (some b_3))] :: mapQ b_2 va34 va3 p_4 m_1 :: FL) w → K r m_1 → R (Value.int .i64 r) w) :
  CallV Try.prog 14 #[(Value.pointer (some (Addr.mk b_1 0 none))), (Value.agg #[(Value.int .u32 x_Host), (Value.int .i64 x_Port)]), (Value.int .i64 until_)] w R := by
  refine advert_Advert_Mapped_call ?_
  unfold advert_Advert_Mapped
  unfold advert_Advert_Mapped_wp at hp
  refine newL (o := [(Value.int .u32 x_Host), (Value.int .i64 x_Port)]) h ?_
  intro b_4 w h
  obtain ⟨Q, hq, hp⟩ := hp
  refine ⟨fun a0 until2 x4 t13 w => (some (Addr.mk b_1 0 none)) = a0 ∧ until_ = until2 ∧ (Addr.mk b_4 0 none) = x4 ∧ Q t13 ∧ Mem (cel b_4 34 [(Value.int .u32 x_Host), (Value.int .i64 x_Port)] :: cel b_1 58 [(Value.slice p_1 n_1 c_1), (Value.map (some b_2)), (Value.map (some b_3))] :: mapQ b_2 va34 va3 p_2 mapped :: FL) w, ?_, ?_⟩
  · rintro a0 until2 x4 t13 w ⟨rfl, rfl, rfl, hp, h⟩
    replace hp := hq t13 hp
    unfold advert_Advert_Mapped_j1
    refine cond_both hp (fun hp => ?_) (fun hp => ?_)
    · replace h := h.sel [1, 1] 1
      dsimp only [pickL, pickR, nthH, delH, dropH, List.cons_append, List.nil_append] at h
      exact hR 1 mapped p_2 _ h hp
    replace h := h.drew
    refine ⟨_, rfl, ?_⟩
    refine ⟨_, cellL h 1 1 rfl rfl rfl, ?_⟩
    refine ⟨_, cellL h 0 0 rfl rfl rfl, _, cellL h 0 1 rfl rfl rfl, ?_⟩
    replace h := h.pick [2]
    dsimp only [pickL, pickR, nthH, delH, dropH, List.cons_append, List.nil_append] at h
    refine advert_set_api_Addr_ok h hp ?_
    intro r_1 m_2 p_5 w h hp
    refine ⟨_, rfl, ?_⟩
    replace h := h.sel [2, 0] 1
    dsimp only [pickL, pickR, nthH, delH, dropH, List.cons_append, List.nil_append] at h
    exact hR r_1 m_2 p_5 _ h hp
  clear hq
  refine ⟨_, cellL h 0 0 rfl rfl rfl, _, cellL h 0 1 rfl rfl rfl, ?_⟩
  refine addr_May_ok h hp ?_
  intro r w h hp
  refine ⟨_, rfl, ?_⟩
  refine cond_both hp (fun hp => ?_) (fun hp => ?_)
  · exact ⟨rfl, rfl, rfl, hp, h⟩
  exact ⟨rfl, rfl, rfl, hp, h⟩

/-! embrasure/advert.Inside (9) -/
def advert_Inside_wp (host : Int) (K : Bool → Prop) : Prop :=
  cond (((Int.fdiv host (2 ^ (min (Int.toNat 24) (IntKind.bits .u32)))) : Int) == 10) (K true) (cond (((Int.fdiv host (2 ^ (min (Int.toNat 20) (IntKind.bits .u32)))) : Int) == 2753) (K true) (K (((Int.fdiv host (2 ^ (min (Int.toNat 16) (IntKind.bits .u32)))) : Int) == 49320)))
theorem advert_Inside_ok {host : Int} {FL : List HP} {w : World} {K : Bool → Prop} {R : Value → World → Prop}
  (h : Mem (FL) w) (hp : advert_Inside_wp host K)
  (hR : ∀ (r : Bool) (w : World), Mem (FL) w → K r → R (Value.bool r) w) :
  CallV Try.prog 9 #[(Value.int .u32 host)] w R := by
  refine advert_Inside_call ?_
  unfold advert_Inside
  unfold advert_Inside_wp at hp
  refine ⟨by decide, ?_⟩
  refine cond_both hp (fun hp => ?_) (fun hp => ?_)
  · exact hR true _ h hp
  refine ⟨by decide, ?_⟩
  refine cond_both hp (fun hp => ?_) (fun hp => ?_)
  · exact hR true _ h hp
  refine ⟨by decide, ?_⟩
  exact hR (((Int.fdiv host (2 ^ (min (Int.toNat 16) (IntKind.bits .u32)))) : Int) == 49320) _ h hp

/-! (*embrasure/advert.Advert).owned$1 (39) -/
def advert_Advert_owned_c1_wp {σ0 : Type} (s : σ0) (Y0 : (Int × Int × Int × Bool) → σ0 → (Bool → σ0 → Prop) → Prop) (own : List (Int × Int)) (mapped : List ((Int × Int) × Int)) (relays : List ((Int × Int × Int × Bool) × Int)) (K : σ0 → Prop) : Prop :=
  ∃ (I : Nat → Int → σ0 → Prop), (∃ (n_3 : Nat), I n_3 0 s) ∧ ∀ (n_1 : Nat) (t10 : Int) (s_2 : σ0), I n_1 t10 s_2 → (cond (decide ((t10 : Int) < ((own.length : Nat) : Int))) (0 ≤ (t10 : Int) ∧ (t10 : Int) < ((own.length : Nat) : Int) ∧ (∀ (x_1 : Int × Int), own[Int.toNat t10]? = some x_1 → (joinP2 (fun (t24 : Bool) (s_3 : σ0) => cond t24 (K s_3) (∃ (n_2 : Nat), n_2 < n_1 ∧ I n_2 (IntKind.wrap .i64 (t10 + 1)) s_3)) (fun (Q : Bool → σ0 → Prop) => advert_Inside_wp x_1.1 (fun (r : Bool) => cond (!r) (Y0 (x_1.1, x_1.2, 0, false) s_2 (fun (t22 : Bool) (s_4 : σ0) => Q (!t22) s_4)) (Q false s_2)))))) (K s_2))
theorem advert_Advert_owned_c1_ok {σ0 : Type} {A0 : σ0 → HP} {ff0 : Fn} {fa0 : Array Value} {fc0 : Array Value} {b_1 : Nat} {b_2 : Nat} {p_1 : Option Addr} {c_1 : Nat} {b_3 : Nat} {p_2 : List MapEntry × Nat} {b_4 : Nat} {p_3 : List MapEntry × Nat} {s : σ0} {Y0 : (Int × Int × Int × Bool) → σ0 → (Bool → σ0 → Prop) → Prop} {own : List (Int × Int)} {mapped : List ((Int × Int) × Int)} {relays : List ((Int × Int × Int × Bool) × Int)} {FL : List HP} {w : World} {K : σ0 → Prop} {R : Value → World → Prop}
  (hY0 : ∀ (x0 : Int × Int × Int × Bool) (s : σ0) (K : Bool → σ0 → Prop) (FL2 : List HP) (w : World) (R : Value → World → Prop), (∀ w, Mem FL2 w → Mem FL w) → Mem (A0 s :: FL2) w → Y0 x0 s K → (∀ (r : Bool) (s : σ0) (w : World), Mem (A0 s :: FL2) w → K r s → R (Value.bool r) w) → CalleeV Try.prog (Value.func ff0 fa0 fc0) #[(Value.agg #[(Value.int .u32 x0.1), (Value.int .i64 x0.2.1), (Value.int .i64 x0.2.2.1), (Value.bool x0.2.2.2)])] w R)
  (hM_mapped : RoM FL b_3 va34 va3 p_2 mapped)
  (hM_relays : RoM FL b_4 va36 va3 p_3 relays)
  (h : Mem (cel b_1 27 [(Value.pointer (some (Addr.mk b_2 0 none)))] :: cel b_2 58 [(Value.slice p_1 own.length c_1), (Value.map (some b_3)), (Value.map (some b_4))] :: row enc34 34 2 p_1 c_1 own :: A0 s :: FL) w) (hp : advert_Advert_owned_c1_wp s Y0 own mapped relays K)
  (hR : ∀ (s_1 : σ0) (w : World), Mem (cel b_1 27 [(Value.pointer (some (Addr.mk b_2 0 none)))] :: cel b_2 58 [(Value.slice p_1 own.length c_1), (Value.map (some b_3)), (Value.map (some b_4))] :: row enc34 34 2 p_1 c_1 own :: A0 s_1 :: FL) w → K s_1 → R undef w) :
  CallV Try.prog 39 #[(Value.func ff0 fa0 fc0), (Value.pointer (some (Addr.mk b_1 0 none)))] w R := by
  refine advert_Advert_owned_c1_call ?_
  unfold advert_Advert_owned_c1
  unfold advert_Advert_owned_c1_wp at hp
  have cpp_1 := rowCap h 2 rfl
  refine ⟨_, cellL h 0 0 rfl rfl rfl, ?_⟩
  refine ⟨_, rfl, ?_⟩
  refine ⟨_, _, _, cellL h 1 0 rfl rfl rfl, ?_⟩
  obtain ⟨I, ⟨n_3, h0⟩, hq⟩ := hp
  refine ⟨fun n_1 yield0 t8p t8l t8c t9 t10 w => ∃ (s_2 : σ0), (Value.func ff0 fa0 fc0) = yield0 ∧ p_1 = t8p ∧ own.length = t8l ∧ c_1 = t8c ∧ ((own.length : Nat) : Int) = t9 ∧ I n_1 t10 s_2 ∧ Mem (cel b_1 27 [(Value.pointer (some (Addr.mk b_2 0 none)))] :: cel b_2 58 [(Value.slice p_1 own.length c_1), (Value.map (some b_3)), (Value.map (some b_4))] :: row enc34 34 2 p_1 c_1 own :: A0 s_2 :: FL) w, ⟨n_3, s, rfl, rfl, rfl, rfl, rfl, h0, h⟩, ?_⟩
  clear h0 h
  rintro n_1 yield0 t8p t8l t8c t9 t10 w ⟨s_2, rfl, rfl, rfl, rfl, rfl, hp, h⟩
  replace hp := hq n_1 t10 s_2 hp
  clear hq
  unfold advert_Advert_owned_c1_l1
  refine cond_both' hp (fun hp => ?_) (fun hp => ?_)
  · exact hR s_2 _ h hp
  obtain ⟨ia_1, ja_1, hp⟩ := hp
  obtain ⟨a_1, ha_1⟩ := rdAddr (rowRd h 2 encL34 rfl) rfl ia_1 ja_1
  refine ⟨a_1, ha_1, ia_1, ja_1, ?_⟩
  obtain ⟨x_1, hx_1, hc⟩ := rdCell (rowRd h 2 encL34 rfl) ha_1 rfl ia_1 ja_1
  replace hp := hp x_1 hx_1
  refine ⟨_, hc 0 _ rfl, _, hc 1 _ rfl, ?_⟩
  refine newL (o := [(Value.int .u32 0), (Value.int .i64 0)]) h ?_
  intro b_5 w h
  refine storeL (ys := [(Value.int .u32 x_1.1), (Value.int .i64 x_1.2)]) h 0 0 rfl rfl rfl sz34 rfl rfl ?_
  intro w h
  dsimp only [setH, setVs, setV] at h
  obtain ⟨Q, hq, hp⟩ := hp
  refine ⟨fun yield0_1 t8_1p t8_1l t8_1c t9_1 t10_1 t24 w => ∃ (s_3 : σ0), (Value.func ff0 fa0 fc0) = yield0_1 ∧ p_1 = t8_1p ∧ own.length = t8_1l ∧ c_1 = t8_1c ∧ ((own.length : Nat) : Int) = t9_1 ∧ t10 = t10_1 ∧ Q t24 s_3 ∧ Mem (cel b_5 34 [(Value.int .u32 x_1.1), (Value.int .i64 x_1.2)] :: cel b_1 27 [(Value.pointer (some (Addr.mk b_2 0 none)))] :: cel b_2 58 [(Value.slice p_1 own.length c_1), (Value.map (some b_3)), (Value.map (some b_4))] :: row enc34 34 2 p_1 c_1 own :: A0 s_3 :: FL) w, ?_, ?_⟩
  · rintro yield0_1 t8_1p t8_1l t8_1c t9_1 t10_1 t24 w ⟨s_3, rfl, rfl, rfl, rfl, rfl, rfl, hp, h⟩
    replace hp := hq t24 s_3 hp
    unfold advert_Advert_owned_c1_j2
    refine cond_both hp (fun hp => ?_) (fun hp => ?_)
    · replace h := h.sel [1, 1, 1, 1] 1
      dsimp only [pickL, pickR, nthH, delH, dropH, List.cons_append, List.nil_append] at h
      exact hR s_3 _ h hp
    replace h := h.sel [1, 1, 1, 1] 1
    dsimp only [pickL, pickR, nthH, delH, dropH, List.cons_append, List.nil_append] at h
    obtain ⟨n_2, hn, hp⟩ := hp
    exact ⟨n_2, hn, s_3, rfl, rfl, rfl, rfl, rfl, hp, h⟩
  clear hq
  refine ⟨_, cellL h 0 0 rfl rfl rfl, ?_⟩
  refine advert_Inside_ok h hp ?_
  intro r w h hp
  refine ⟨_, rfl, ?_⟩
  refine cond_both' hp (fun hp => ?_) (fun hp => ?_)
  · exact ⟨s_2, rfl, rfl, rfl, rfl, rfl, rfl, hp, h⟩
  refine ⟨_, cellL h 0 0 rfl rfl rfl, _, cellL h 0 1 rfl rfl rfl, ?_⟩
  replace h := h.pick [4]
  dsimp only [pickL, pickR, nthH, delH, dropH, List.cons_append, List.nil_append] at h
  refine hY0 (x_1.1, x_1.2, 0, false) _ _ (cel b_5 34 [(Value.int .u32 x_1.1), (Value.int .i64 x_1.2)] :: cel b_1 27 [(Value.pointer (some (Addr.mk b_2 0 none)))] :: cel b_2 58 [(Value.slice p_1 own.length c_1), (Value.map (some b_3)), (Value.map (some b_4))] :: row enc34 34 2 p_1 c_1 own :: FL) _ _ (fun _ h => Mem.drop 4 h) h hp ?_
  intro t22 s_4 w h hp
  refine ⟨_, rfl, ?_⟩
  replace h := h.sel [1, 1, 1, 1, 0] 0
  dsimp only [pickL, pickR, nthH, delH, dropH, List.cons_append, List.nil_append] at h
  exact ⟨s_4, rfl, rfl, rfl, rfl, rfl, rfl, hp, h⟩

/-! (*embrasure/advert.Advert).owned (31) -/
def advert_Advert_owned_wp (mapped : List ((Int × Int) × Int)) (relays : List ((Int × Int × Int × Bool) × Int)) (K : Prop) : Prop :=
  K 
theorem advert_Advert_owned_ok {b_1 : Nat} {p_1 : Option Addr} {n_1 : Nat} {c_1 : Nat} {b_2 : Nat} {p_2 : List MapEntry × Nat} {b_3 : Nat} {p_3 : List MapEntry × Nat} {mapped : List ((Int × Int) × Int)} {relays : List ((Int × Int × Int × Bool) × Int)} {FL : List HP} {w : World} {K : Prop} {R : Value → World → Prop}
  (hM_mapped : RoM FL b_2 va34 va3 p_2 mapped)
  (hM_relays : RoM FL b_3 va36 va3 p_3 relays)
  (h : Mem (cel b_1 58 [(Value.slice p_1 n_1 c_1), (Value.map (some b_2)), (Value.map (some b_3))] :: FL) w) (hp : advert_Advert_owned_wp mapped relays K)
  (hR : ∀ (b_4 : Nat) (w : World), Mem (cel b_4 27 [(Value.pointer (some (Addr.mk b_1 0 none)))] :: cel b_1 58 [(Value.slice p_1 n_1 c_1), (Value.map (some b_2)), (Value.map (some b_3))] :: FL) w → K  → R (Value.func (Fn.func 39) #[] #[(Value.pointer (some (Addr.mk b_4 0 none)))]) w) :
  CallV Try.prog 31 #[(Value.pointer (some (Addr.mk b_1 0 none)))] w R := by
  refine advert_Advert_owned_call ?_
  unfold advert_Advert_owned
  unfold advert_Advert_owned_wp at hp
  refine newL (o := [(Value.pointer (some (Addr.mk b_1 0 none)))]) h ?_
  intro b_4 w h
  exact hR b_4 _ h hp

/-! maps.Keys[map[embrasure/api.Addr]int,embrasure/api.Addr,int]$1 (47) -/
def maps_Keys_map_api_Addr_int_api_Addr_int__c1_wp {σ0 : Type} (s : σ0) (Y0 : (Int × Int) → σ0 → (Bool → σ0 → Prop) → Prop) (t : List ((Int × Int) × Int)) (K : σ0 → Prop) : Prop :=
  ∃ (I : Nat → List ((Int × Int) × Int) → σ0 → Prop), (∃ (n_3 : Nat), I n_3 t s) ∧ ∀ (n_1 : Nat) (lf : List ((Int × Int) × Int)) (s_2 : σ0), I n_1 lf s_2 → ((lf = [] → (K s_2)) ∧ (∀ (i : Nat) (x_1 : (Int × Int) × Int), lf[i]? = some x_1 → (Y0 (x_1.1.1, x_1.1.2) s_2 (fun (t12 : Bool) (s_3 : σ0) => cond (!t12) (K s_3) (∃ (n_2 : Nat), n_2 < n_1 ∧ I n_2 (lf.eraseIdx i) s_3)))))
theorem maps_Keys_map_api_Addr_int_api_Addr_int__c1_ok {σ0 : Type} {A0 : σ0 → HP} {ff0 : Fn} {fa0 : Array Value} {fc0 : Array Value} {b_1 : Nat} {b_2 : Nat} {p_1 : List MapEntry × Nat} {s : σ0} {Y0 : (Int × Int) → σ0 → (Bool → σ0 → Prop) → Prop} {t : List ((Int × Int) × Int)} {FL : List HP} {w : World} {K : σ0 → Prop} {R : Value → World → Prop}
  (hY0 : ∀ (x0 : Int × Int) (s : σ0) (K : Bool → σ0 → Prop) (FL2 : List HP) (w : World) (R : Value → World → Prop), (∀ w, Mem FL2 w → Mem FL w) → Mem (A0 s :: FL2) w → Y0 x0 s K → (∀ (r : Bool) (s : σ0) (w : World), Mem (A0 s :: FL2) w → K r s → R (Value.bool r) w) → CalleeV Try.prog (Value.func ff0 fa0 fc0) #[(Value.agg #[(Value.int .u32 x0.1), (Value.int .i64 x0.2)])] w R)
  (hM_t : RoM FL b_2 va34 va3 p_1 t)
  (h : Mem (cel b_1 55 [(Value.map (some b_2))] :: A0 s :: FL) w) (hp : maps_Keys_map_api_Addr_int_api_Addr_int__c1_wp s Y0 t K)
  (hR : ∀ (s_1 : σ0) (w : World), Mem (cel b_1 55 [(Value.map (some b_2))] :: A0 s_1 :: FL) w → K s_1 → R undef w) :
  CallV Try.prog 47 #[(Value.func ff0 fa0 fc0), (Value.pointer (some (Addr.mk b_1 0 none)))] w R := by
  refine maps_Keys_map_api_Addr_int_api_Addr_int__c1_call ?_
  unfold maps_Keys_map_api_Addr_int_api_Addr_int__c1
  unfold maps_Keys_map_api_Addr_int_api_Addr_int__c1_wp at hp
  refine ⟨_, cellL h 0 0 rfl rfl rfl, ?_⟩
  refine rangeW h (hM_t.map (h.drop 2)) mu55 ?_
  intro l_1 w h
  refine ⟨_, rfl, ?_⟩
  obtain ⟨I, ⟨n_3, h0⟩, hq⟩ := hp
  replace h := h.sel [1, 0, 0] 0
  dsimp only [pickL, pickR, nthH, delH, dropH, List.cons_append, List.nil_append] at h
  refine ⟨fun n_1 yield0 t5 w => ∃ (lf : List ((Int × Int) × Int)), ∃ (s_2 : σ0), (Value.func ff0 fa0 fc0) = yield0 ∧ (Value.pointer (some (Addr.mk l_1 0 none))) = t5 ∧ I n_1 lf s_2 ∧ Mem (cel b_1 55 [(Value.map (some b_2))] :: itQ l_1 b_2 va34 va3 p_1 none lf :: A0 s_2 :: FL) w, ⟨n_3, t, s, rfl, rfl, h0, h⟩, ?_⟩
  clear h0 h
  rintro n_1 yield0 t5 w ⟨lf, s_2, rfl, rfl, hp, h⟩
  replace hp := hq n_1 lf s_2 hp
  clear hq
  unfold maps_Keys_map_api_Addr_int_api_Addr_int__c1_l1
  refine nextG h 1 rfl (hM_t.map (h.drop 3)) ?_ ?_
  · intro he_
    replace hp := hp.1 he_
    skip
    replace h := h.sel [0, 1] 1
    dsimp only [pickL, pickR, nthH, delH, dropH, List.cons_append, List.nil_append] at h
    exact hR s_2 _ h hp
  intro i x_1 w hx_1 h
  dsimp only [setH, setVs, setV] at h
  replace hp := hp.2 i x_1 hx_1
  refine entryG h 1 rfl (hM_t.map (h.drop 3)) ?_
  replace h := itForget h 1 rfl
  dsimp only [setH, setVs, setV] at h
  refine ⟨_, _, rfl, ?_⟩
  refine newL (o := [(Value.int .u32 0), (Value.int .i64 0)]) h ?_
  intro b_3 w h
  refine storeL (ys := [(Value.int .u32 x_1.1.1), (Value.int .i64 x_1.1.2)]) h 0 0 rfl rfl rfl sz34 rfl rfl ?_
  intro w h
  dsimp only [setH, setVs, setV] at h
  refine ⟨_, cellL h 0 0 rfl rfl rfl, _, cellL h 0 1 rfl rfl rfl, ?_⟩
  replace h := h.pick [3]
  dsimp only [pickL, pickR, nthH, delH, dropH, List.cons_append, List.nil_append] at h
  refine hY0 (x_1.1.1, x_1.1.2) _ _ (cel b_3 34 [(Value.int .u32 x_1.1.1), (Value.int .i64 x_1.1.2)] :: cel b_1 55 [(Value.map (some b_2))] :: itQ l_1 b_2 va34 va3 p_1 none (lf.eraseIdx i) :: FL) _ _ (fun _ h => Mem.drop 3 h) h hp ?_
  intro t12 s_3 w h hp
  refine ⟨_, rfl, ?_⟩
  refine cond_both hp (fun hp => ?_) (fun hp => ?_)
  · replace h := h.sel [2, 0] 2
    dsimp only [pickL, pickR, nthH, delH, dropH, List.cons_append, List.nil_append] at h
    exact hR s_3 _ h hp
  replace h := h.sel [2, 2, 0] 1
  dsimp only [pickL, pickR, nthH, delH, dropH, List.cons_append, List.nil_append] at h
  obtain ⟨n_2, hn, hp⟩ := hp
  exact ⟨n_2, hn, (lf.eraseIdx i), s_3, rfl, rfl, hp, h⟩

/-! maps.Keys[map[embrasure/api.Addr]int,embrasure/api.Addr,int] (40) -/
def maps_Keys_map_api_Addr_int_api_Addr_int_wp (m_1 : List ((Int × Int) × Int)) (K : Prop) : Prop :=
  K 
theorem maps_Keys_map_api_Addr_int_api_Addr_int_ok {b_1 : Nat} {p_1 : List MapEntry × Nat} {m_1 : List ((Int × Int) × Int)} {FL : List HP} {w : World} {K : Prop} {R : Value → World → Prop}
  (hM_m_1 : RoM FL b_1 va34 va3 p_1 m_1)
  (h : Mem (FL) w) (hp : maps_Keys_map_api_Addr_int_api_Addr_int_wp m_1 K)
  (hR : ∀ (b_2 : Nat) (w : World), Mem (cel b_2 55 [(Value.map (some b_1))] :: FL) w → K  → R (Value.func (Fn.func 47) #[] #[(Value.pointer (some (Addr.mk b_2 0 none)))]) w) :
  CallV Try.prog 40 #[(Value.map (some b_1))] w R := by
  refine maps_Keys_map_api_Addr_int_api_Addr_int_call ?_
  unfold maps_Keys_map_api_Addr_int_api_Addr_int
  unfold maps_Keys_map_api_Addr_int_api_Addr_int_wp at hp
  refine newL (o := [(Value.map (some b_1))]) h ?_
  intro b_2 w h
  exact hR b_2 _ h hp

/-! slices.SortFunc[[]embrasure/api.Place,embrasure/api.Place] (41) -/
def slices_SortFunc_sl_api_Place_api_Place_wp {σ1 : Type} (xs : List (Int × Int × Int × Bool)) (s : σ1) (Y1 : (Int × Int × Int × Bool) → (Int × Int × Int × Bool) → σ1 → (Int → σ1 → Prop) → Prop) (K : List (Int × Int × Int × Bool) → σ1 → Prop) : Prop := sortW xs s Y1 K
theorem slices_SortFunc_sl_api_Place_api_Place_ok {σ1 : Type} {A1 : σ1 → HP} {p_1 : Option Addr} {c_1 : Nat} {n_1 : Nat} {g1 : Nat} {fc1 : Array Value} {xs : List (Int × Int × Int × Bool)} {s : σ1} {Y1 : (Int × Int × Int × Bool) → (Int × Int × Int × Bool) → σ1 → (Int → σ1 → Prop) → Prop} {FL : List HP} {w : World} {K : List (Int × Int × Int × Bool) → σ1 → Prop} {R : Value → World → Prop}
  (hY1 : ∀ (x0 : (Int × Int × Int × Bool)) (x1 : (Int × Int × Int × Bool)) (s : σ1) (K : Int → σ1 → Prop) (FL2 : List HP) (w : World) (R : Value → World → Prop), (∀ w, Mem FL2 w → Mem FL w) → Mem (A1 s :: FL2) w → Y1 x0 x1 s K → (∀ (r : Int) (s : σ1) (w : World), Mem (A1 s :: FL2) w → K r s → R (Value.int .i64 r) w) → CalleeV Try.prog (Value.func (.func g1) #[] fc1) #[(Value.agg #[(Value.int .u32 x0.1), (Value.int .i64 x0.2.1), (Value.int .i64 x0.2.2.1), (Value.bool x0.2.2.2)]), (Value.agg #[(Value.int .u32 x1.1), (Value.int .i64 x1.2.1), (Value.int .i64 x1.2.2.1), (Value.bool x1.2.2.2)])] w R)
  (hn : n_1 = xs.length) (hg : hasBody Try.prog g1 = true) (he : ∀ args w, (callFunc g1 args).run Try.prog w = .ok (.enter g1 args) w) (hx : Exact (A1 s))
  (h : Mem (row enc36 36 4 p_1 c_1 xs :: A1 s :: FL) w) (hp : slices_SortFunc_sl_api_Place_api_Place_wp xs s Y1 K)
  (hR : ∀ (rs : List (Int × Int × Int × Bool)) (s_1 : σ1) (w : World), xs.length = rs.length → Mem (row enc36 36 4 p_1 c_1 rs :: A1 s_1 :: FL) w → K rs s_1 → R (Value.tuple #[]) w) :
  CallV Try.prog 41 #[(Value.slice p_1 n_1 c_1), (Value.func (.func g1) #[] fc1)] w R :=
  sortL (ρ := lays41_ren) lays41 Try.isAgg36 Try.sizeOf36 encL36 (fun x v hv => by simp only [enc36, List.mem_cons, List.not_mem_nil, or_false] at hv; rcases hv with rfl | rfl | rfl | rfl <;> rfl) hg he hx hY1 hn h hp (fun rs s w hl => hR rs s w hl.symm)

/-! cmp.isNaN[uint32] (72) -/
def cmp_isNaN_uint32_wp (x_1 : Int) (K : Bool → Prop) : Prop :=
  K ((x_1 : Int) != x_1)
theorem cmp_isNaN_uint32_ok {x_1 : Int} {FL : List HP} {w : World} {K : Bool → Prop} {R : Value → World → Prop}
  (h : Mem (FL) w) (hp : cmp_isNaN_uint32_wp x_1 K)
  (hR : ∀ (r : Bool) (w : World), Mem (FL) w → K r → R (Value.bool r) w) :
  CallV Try.prog 72 #[(Value.int .u32 x_1)] w R := by
  refine cmp_isNaN_uint32_call ?_
  unfold cmp_isNaN_uint32
  unfold cmp_isNaN_uint32_wp at hp
  exact hR ((x_1 : Int) != x_1) _ h hp

/-! cmp.Compare[uint32] (65) -/
def cmp_Compare_uint32_wp (x_1 : Int) (y : Int) (K : Int → Prop) : Prop :=
  cmp_isNaN_uint32_wp x_1 (fun (r : Bool) => cmp_isNaN_uint32_wp y (fun (r_1 : Bool) => cond r (cond r_1 (K 0) (K (-1))) (cond r_1 (K 1) (cond (decide ((x_1 : Int) < y)) (K (-1)) (cond (decide ((x_1 : Int) > y)) (K 1) (K 0))))))
theorem cmp_Compare_uint32_ok {x_1 : Int} {y : Int} {FL : List HP} {w : World} {K : Int → Prop} {R : Value → World → Prop}
  (h : Mem (FL) w) (hp : cmp_Compare_uint32_wp x_1 y K)
  (hR : ∀ (r : Int) (w : World), Mem (FL) w → K r → R (Value.int .i64 r) w) :
  CallV Try.prog 65 #[(Value.int .u32 x_1), (Value.int .u32 y)] w R := by
  refine cmp_Compare_uint32_call ?_
  unfold cmp_Compare_uint32
  unfold cmp_Compare_uint32_wp at hp
  refine cmp_isNaN_uint32_ok h hp ?_
  intro r w h hp
  refine ⟨_, rfl, ?_⟩
  refine cmp_isNaN_uint32_ok h hp ?_
  intro r_1 w h hp
  refine ⟨_, rfl, ?_⟩
  refine cond_both hp (fun hp => ?_) (fun hp => ?_)
  · refine cond_both hp (fun hp => ?_) (fun hp => ?_)
    · exact hR 0 _ h hp
    exact hR (-1) _ h hp
  refine cond_both hp (fun hp => ?_) (fun hp => ?_)
  · exact hR 1 _ h hp
  refine cond_both hp (fun hp => ?_) (fun hp => ?_)
  · exact hR (-1) _ h hp
  refine cond_both hp (fun hp => ?_) (fun hp => ?_)
  · exact hR 1 _ h hp
  exact hR 0 _ h hp

/-! cmp.isNaN[int] (66) -/
def cmp_isNaN_int_wp (x_1 : Int) (K : Bool → Prop) : Prop :=
  K ((x_1 : Int) != x_1)
theorem cmp_isNaN_int_ok {x_1 : Int} {FL : List HP} {w : World} {K : Bool → Prop} {R : Value → World → Prop}
  (h : Mem (FL) w) (hp : cmp_isNaN_int_wp x_1 K)
  (hR : ∀ (r : Bool) (w : World), Mem (FL) w → K r → R (Value.bool r) w) :
  CallV Try.prog 66 #[(Value.int .i64 x_1)] w R := by
  refine cmp_isNaN_int_call ?_
  unfold cmp_isNaN_int
  unfold cmp_isNaN_int_wp at hp
  exact hR ((x_1 : Int) != x_1) _ h hp

/-! cmp.Compare[int] (52) -/
def cmp_Compare_int_wp (x_1 : Int) (y : Int) (K : Int → Prop) : Prop :=
  cmp_isNaN_int_wp x_1 (fun (r : Bool) => cmp_isNaN_int_wp y (fun (r_1 : Bool) => cond r (cond r_1 (K 0) (K (-1))) (cond r_1 (K 1) (cond (decide ((x_1 : Int) < y)) (K (-1)) (cond (decide ((x_1 : Int) > y)) (K 1) (K 0))))))
theorem cmp_Compare_int_ok {x_1 : Int} {y : Int} {FL : List HP} {w : World} {K : Int → Prop} {R : Value → World → Prop}
  (h : Mem (FL) w) (hp : cmp_Compare_int_wp x_1 y K)
  (hR : ∀ (r : Int) (w : World), Mem (FL) w → K r → R (Value.int .i64 r) w) :
  CallV Try.prog 52 #[(Value.int .i64 x_1), (Value.int .i64 y)] w R := by
  refine cmp_Compare_int_call ?_
  unfold cmp_Compare_int
  unfold cmp_Compare_int_wp at hp
  refine cmp_isNaN_int_ok h hp ?_
  intro r w h hp
  refine ⟨_, rfl, ?_⟩
  refine cmp_isNaN_int_ok h hp ?_
  intro r_1 w h hp
  refine ⟨_, rfl, ?_⟩
  refine cond_both hp (fun hp => ?_) (fun hp => ?_)
  · refine cond_both hp (fun hp => ?_) (fun hp => ?_)
    · exact hR 0 _ h hp
    exact hR (-1) _ h hp
  refine cond_both hp (fun hp => ?_) (fun hp => ?_)
  · exact hR 1 _ h hp
  refine cond_both hp (fun hp => ?_) (fun hp => ?_)
  · exact hR (-1) _ h hp
  refine cond_both hp (fun hp => ?_) (fun hp => ?_)
  · exact hR 1 _ h hp
  exact hR 0 _ h hp

/-! cmp.Or[int] (50) -/
def cmp_Or_int_wp (vals : List (Int)) (K : Int → Prop) : Prop :=
  ∃ (I : Nat → Int → Prop), (∃ (n_4 : Nat), I n_4 0) ∧ ∀ (n_2 : Nat) (t8 : Int), I n_2 t8 → (cond (decide ((t8 : Int) < ((vals.length : Nat) : Int))) (0 ≤ (t8 : Int) ∧ (t8 : Int) < ((vals.length : Nat) : Int) ∧ (∀ (x_1 : Int), vals[Int.toNat t8]? = some x_1 → (cond ((x_1 : Int) != 0) (K x_1) (∃ (n_3 : Nat), n_3 < n_2 ∧ I n_3 (IntKind.wrap .i64 (t8 + 1)))))) (K 0))
theorem cmp_Or_int_ok {p_1 : Option Addr} {n_1 : Nat} {c_1 : Nat} {vals : List (Int)} {FL : List HP} {w : World} {K : Int → Prop} {R : Value → World → Prop}
  (hF_vals : ∀ w, Mem FL w → Rd w 1 p_1 enc3 vals) (hl_vals : n_1 = vals.length) (hc_vals : n_1 ≤ c_1)
  (h : Mem (FL) w) (hp : cmp_Or_int_wp vals K)
  (hR : ∀ (r : Int) (w : World), Mem (FL) w → K r → R (Value.int .i64 r) w) :
  CallV Try.prog 50 #[(Value.slice p_1 n_1 c_1)] w R := by
  refine cmp_Or_int_call ?_
  unfold cmp_Or_int
  unfold cmp_Or_int_wp at hp
  subst hl_vals
  obtain ⟨I, ⟨n_4, h0⟩, hq⟩ := hp
  refine ⟨fun n_2 zero3 t6p t6l t6c t7 t8 w => 0 = zero3 ∧ p_1 = t6p ∧ vals.length = t6l ∧ c_1 = t6c ∧ ((vals.length : Nat) : Int) = t7 ∧ I n_2 t8 ∧ Mem (FL) w, ⟨n_4, rfl, rfl, rfl, rfl, rfl, h0, h⟩, ?_⟩
  clear h0 h
  rintro n_2 zero3 t6p t6l t6c t7 t8 w ⟨rfl, rfl, rfl, rfl, rfl, hp, h⟩
  replace hp := hq n_2 t8 hp
  clear hq
  unfold cmp_Or_int_l1
  refine cond_both' hp (fun hp => ?_) (fun hp => ?_)
  · exact hR 0 _ h hp
  obtain ⟨ia_1, ja_1, hp⟩ := hp
  obtain ⟨a_1, ha_1⟩ := rdAddr (hF_vals _ (h.drop 0)) rfl ia_1 ja_1
  refine ⟨a_1, ha_1, ia_1, ja_1, ?_⟩
  obtain ⟨x_1, hx_1, hc⟩ := rdCell0 (hF_vals _ (h.drop 0)) ha_1 rfl ia_1 ja_1
  replace hp := hp x_1 hx_1
  refine ⟨_, hc _ rfl, ?_⟩
  refine cond_both hp (fun hp => ?_) (fun hp => ?_)
  · exact hR x_1 _ h hp
  obtain ⟨n_3, hn, hp⟩ := hp
  exact ⟨n_3, hn, rfl, rfl, rfl, rfl, rfl, hp, h⟩

/-! embrasure/addr.Compare (51) -/
def addr_Compare_wp (a_Host : Int) (a_Port : Int) (b_Host : Int) (b_Port : Int) (K : Int → Prop) : Prop :=
  cmp_Compare_uint32_wp a_Host b_Host (fun (r : Int) => cmp_Compare_int_wp a_Port b_Port (fun (r_1 : Int) => cmp_Or_int_wp [r, r_1] (fun (r_2 : Int) => K r_2)))
theorem addr_Compare_ok {a_Host : Int} {a_Port : Int} {b_Host : Int} {b_Port : Int} {FL : List HP} {w : World} {K : Int → Prop} {R : Value → World → Prop}
  (h : Mem (FL) w) (hp : addr_Compare_wp a_Host a_Port b_Host b_Port K)
  (hR : ∀ (r : Int) (w : World), Mem (FL) w → K r → R (Value.int .i64 r) w) :
  CallV Try.prog 51 #[(Value.agg #[(Value.int .u32 a_Host), (Value.int .i64 a_Port)]), (Value.agg #[(Value.int .u32 b_Host), (Value.int .i64 b_Port)])] w R := by
  refine addr_Compare_call ?_
  unfold addr_Compare
  unfold addr_Compare_wp at hp
  refine newL (o := [(Value.int .u32 a_Host), (Value.int .i64 a_Port)]) h ?_
  intro b_1 w h
  refine newL (o := [(Value.int .u32 b_Host), (Value.int .i64 b_Port)]) h ?_
  intro b_2 w h
  replace h := h.drew
  refine ⟨fun w => Mem (cel b_1 34 [(Value.int .u32 a_Host), (Value.int .i64 a_Port)] :: cel b_2 34 [(Value.int .u32 b_Host), (Value.int .i64 b_Port)] :: FL) w, (h.sel [1, 0] 0), ?_⟩
  refine ⟨_, cellL h 1 0 rfl rfl rfl, ?_⟩
  refine ⟨_, cellL h 0 0 rfl rfl rfl, ?_⟩
  refine ⟨_, cellL h 1 1 rfl rfl rfl, ?_⟩
  refine ⟨?_, ?_⟩
  · intro w h
    change Mem _ _ at h
    refine ⟨_, cellL h 0 1 rfl rfl rfl, ?_⟩
    exact ⟨rfl, rfl⟩
  refine ⟨_, cellL h 0 1 rfl rfl rfl, ?_⟩
  refine ⟨?_, ?_⟩
  · intro w h
    change Mem _ _ at h
    refine ⟨_, cellL h 1 1 rfl rfl rfl, ?_⟩
    exact ⟨rfl, rfl⟩
  refine cmp_Compare_uint32_ok h hp ?_
  intro r w h hp
  refine ⟨_, rfl, ?_⟩
  refine ⟨(h.sel [1, 0] 0), ?_⟩
  refine cmp_Compare_int_ok h hp ?_
  intro r_1 w h hp
  refine ⟨_, rfl, ?_⟩
  refine newL (o := [(Value.int .i64 r), (Value.int .i64 r_1)]) h ?_
  intro b_3 w h
  refine cmp_Or_int_ok (FL := cel b_3 3 [(Value.int .i64 r), (Value.int .i64 r_1)] :: cel b_2 34 [(Value.int .u32 b_Host), (Value.int .i64 b_Port)] :: cel b_1 34 [(Value.int .u32 a_Host), (Value.int .i64 a_Port)] :: FL) (fun w h => (celRd h 0 encL3 rfl [r, r_1] rfl)) rfl (Nat.le_refl _) h hp ?_
  intro r_2 w h hp
  refine ⟨_, rfl, ?_⟩
  replace h := h.sel [] 3
  dsimp only [pickL, pickR, nthH, delH, dropH, List.cons_append, List.nil_append] at h
  exact hR r_2 _ h hp

/-! embrasure/advert.compare (42) -/
def advert_compare_wp (a_Addr : Int) (a_Addr_1 : Int) (a_ID : Int) (a_Via : Bool) (b_Addr : Int) (b_Addr_1 : Int) (b_ID : Int) (b_Via : Bool) (K : Int → Prop) : Prop :=
  addr_Compare_wp a_Addr a_Addr_1 b_Addr b_Addr_1 (fun (r : Int) => cmp_Compare_int_wp a_ID b_ID (fun (r_1 : Int) => cmp_Or_int_wp [r, r_1] (fun (r_2 : Int) => K r_2)))
theorem advert_compare_ok {a_Addr : Int} {a_Addr_1 : Int} {a_ID : Int} {a_Via : Bool} {b_Addr : Int} {b_Addr_1 : Int} {b_ID : Int} {b_Via : Bool} {FL : List HP} {w : World} {K : Int → Prop} {R : Value → World → Prop}
  (h : Mem (FL) w) (hp : advert_compare_wp a_Addr a_Addr_1 a_ID a_Via b_Addr b_Addr_1 b_ID b_Via K)
  (hR : ∀ (r : Int) (w : World), Mem (FL) w → K r → R (Value.int .i64 r) w) :
  CallV Try.prog 42 #[(Value.agg #[(Value.int .u32 a_Addr), (Value.int .i64 a_Addr_1), (Value.int .i64 a_ID), (Value.bool a_Via)]), (Value.agg #[(Value.int .u32 b_Addr), (Value.int .i64 b_Addr_1), (Value.int .i64 b_ID), (Value.bool b_Via)])] w R := by
  refine advert_compare_call ?_
  unfold advert_compare
  unfold advert_compare_wp at hp
  refine newL (o := [(Value.int .u32 a_Addr), (Value.int .i64 a_Addr_1), (Value.int .i64 a_ID), (Value.bool a_Via)]) h ?_
  intro b_1 w h
  refine newL (o := [(Value.int .u32 b_Addr), (Value.int .i64 b_Addr_1), (Value.int .i64 b_ID), (Value.bool b_Via)]) h ?_
  intro b_2 w h
  replace h := h.drew
  refine ⟨fun w => Mem (cel b_1 36 [(Value.int .u32 a_Addr), (Value.int .i64 a_Addr_1), (Value.int .i64 a_ID), (Value.bool a_Via)] :: cel b_2 36 [(Value.int .u32 b_Addr), (Value.int .i64 b_Addr_1), (Value.int .i64 b_ID), (Value.bool b_Via)] :: FL) w, (h.sel [1, 0] 0), ?_⟩
  refine ⟨_, cellL h 1 0 rfl rfl rfl, _, cellL h 1 1 rfl rfl rfl, ?_⟩
  refine ⟨_, cellL h 0 0 rfl rfl rfl, _, cellL h 0 1 rfl rfl rfl, ?_⟩
  refine ⟨_, cellL h 1 2 rfl rfl rfl, ?_⟩
  refine ⟨?_, ?_⟩
  · intro w h
    change Mem _ _ at h
    refine ⟨_, cellL h 0 2 rfl rfl rfl, ?_⟩
    exact ⟨rfl, rfl⟩
  refine ⟨_, cellL h 0 2 rfl rfl rfl, ?_⟩
  refine ⟨?_, ?_⟩
  · intro w h
    change Mem _ _ at h
    refine ⟨_, cellL h 1 2 rfl rfl rfl, ?_⟩
    exact ⟨rfl, rfl⟩
  refine addr_Compare_ok h hp ?_
  intro r w h hp
  refine ⟨_, rfl, ?_⟩
  refine ⟨(h.sel [1, 0] 0), ?_⟩
  refine cmp_Compare_int_ok h hp ?_
  intro r_1 w h hp
  refine ⟨_, rfl, ?_⟩
  refine newL (o := [(Value.int .i64 r), (Value.int .i64 r_1)]) h ?_
  intro b_3 w h
  refine cmp_Or_int_ok (FL := cel b_3 3 [(Value.int .i64 r), (Value.int .i64 r_1)] :: cel b_2 36 [(Value.int .u32 b_Addr), (Value.int .i64 b_Addr_1), (Value.int .i64 b_ID), (Value.bool b_Via)] :: cel b_1 36 [(Value.int .u32 a_Addr), (Value.int .i64 a_Addr_1), (Value.int .i64 a_ID), (Value.bool a_Via)] :: FL) (fun w h => (celRd h 0 encL3 rfl [r, r_1] rfl)) rfl (Nat.le_refl _) h hp ?_
  intro r_2 w h hp
  refine ⟨_, rfl, ?_⟩
  replace h := h.sel [] 3
  dsimp only [pickL, pickR, nthH, delH, dropH, List.cons_append, List.nil_append] at h
  exact hR r_2 _ h hp

/-! slices.Values[[]embrasure/api.Place,embrasure/api.Place]$1 (53) -/
def slices_Values_sl_api_Place_api_Place__c1_wp {σ0 : Type} (s : σ0) (Y0 : (Int × Int × Int × Bool) → σ0 → (Bool → σ0 → Prop) → Prop) (t : List (Int × Int × Int × Bool)) (K : σ0 → Prop) : Prop :=
  ∃ (I : Nat → Int → σ0 → Prop), (∃ (n_4 : Nat), I n_4 0 s) ∧ ∀ (n_2 : Nat) (t7 : Int) (s_2 : σ0), I n_2 t7 s_2 → (cond (decide ((t7 : Int) < ((t.length : Nat) : Int))) (0 ≤ (t7 : Int) ∧ (t7 : Int) < ((t.length : Nat) : Int) ∧ (∀ (x_1 : Int × Int × Int × Bool), t[Int.toNat t7]? = some x_1 → (Y0 x_1 s_2 (fun (t13 : Bool) (s_3 : σ0) => cond (!t13) (K s_3) (∃ (n_3 : Nat), n_3 < n_2 ∧ I n_3 (IntKind.wrap .i64 (t7 + 1)) s_3))))) (K s_2))
theorem slices_Values_sl_api_Place_api_Place__c1_ok {σ0 : Type} {A0 : σ0 → HP} {ff0 : Fn} {fa0 : Array Value} {fc0 : Array Value} {b_1 : Nat} {p_1 : Option Addr} {n_1 : Nat} {c_1 : Nat} {s : σ0} {Y0 : (Int × Int × Int × Bool) → σ0 → (Bool → σ0 → Prop) → Prop} {t : List (Int × Int × Int × Bool)} {FL : List HP} {w : World} {K : σ0 → Prop} {R : Value → World → Prop}
  (hY0 : ∀ (x0 : Int × Int × Int × Bool) (s : σ0) (K : Bool → σ0 → Prop) (FL2 : List HP) (w : World) (R : Value → World → Prop), (∀ w, Mem FL2 w → Mem FL w) → Mem (A0 s :: FL2) w → Y0 x0 s K → (∀ (r : Bool) (s : σ0) (w : World), Mem (A0 s :: FL2) w → K r s → R (Value.bool r) w) → CalleeV Try.prog (Value.func ff0 fa0 fc0) #[(Value.agg #[(Value.int .u32 x0.1), (Value.int .i64 x0.2.1), (Value.int .i64 x0.2.2.1), (Value.bool x0.2.2.2)])] w R)
  (hF_t : ∀ w, Mem FL w → Rd w 4 p_1 enc36 t) (hl_t : n_1 = t.length) (hc_t : n_1 ≤ c_1)
  (h : Mem (cel b_1 48 [(Value.slice p_1 n_1 c_1)] :: A0 s :: FL) w) (hp : slices_Values_sl_api_Place_api_Place__c1_wp s Y0 t K)
  (hR : ∀ (s_1 : σ0) (w : World), Mem (cel b_1 48 [(Value.slice p_1 t.length c_1)] :: A0 s_1 :: FL) w → K s_1 → R undef w) :
  CallV Try.prog 53 #[(Value.func ff0 fa0 fc0), (Value.pointer (some (Addr.mk b_1 0 none)))] w R := by
  refine slices_Values_sl_api_Place_api_Place__c1_call ?_
  unfold slices_Values_sl_api_Place_api_Place__c1
  unfold slices_Values_sl_api_Place_api_Place__c1_wp at hp
  subst hl_t
  refine ⟨_, _, _, cellL h 0 0 rfl rfl rfl, ?_⟩
  obtain ⟨I, ⟨n_4, h0⟩, hq⟩ := hp
  refine ⟨fun n_2 yield0 t5p t5l t5c t6 t7 w => ∃ (s_2 : σ0), (Value.func ff0 fa0 fc0) = yield0 ∧ p_1 = t5p ∧ t.length = t5l ∧ c_1 = t5c ∧ ((t.length : Nat) : Int) = t6 ∧ I n_2 t7 s_2 ∧ Mem (cel b_1 48 [(Value.slice p_1 t.length c_1)] :: A0 s_2 :: FL) w, ⟨n_4, s, rfl, rfl, rfl, rfl, rfl, h0, h⟩, ?_⟩
  clear h0 h
  rintro n_2 yield0 t5p t5l t5c t6 t7 w ⟨s_2, rfl, rfl, rfl, rfl, rfl, hp, h⟩
  replace hp := hq n_2 t7 s_2 hp
  clear hq
  unfold slices_Values_sl_api_Place_api_Place__c1_l1
  refine cond_both' hp (fun hp => ?_) (fun hp => ?_)
  · exact hR s_2 _ h hp
  obtain ⟨ia_1, ja_1, hp⟩ := hp
  obtain ⟨a_1, ha_1⟩ := rdAddr (hF_t _ (h.drop 2)) rfl ia_1 ja_1
  refine ⟨a_1, ha_1, ia_1, ja_1, ?_⟩
  obtain ⟨x_1, hx_1, hc⟩ := rdCell (hF_t _ (h.drop 2)) ha_1 rfl ia_1 ja_1
  replace hp := hp x_1 hx_1
  refine ⟨_, hc 0 _ rfl, _, hc 1 _ rfl, _, hc 2 _ rfl, _, hc 3 _ rfl, ?_⟩
  refine newL (o := [(Value.int .u32 0), (Value.int .i64 0), (Value.int .i64 0), (Value.bool false)]) h ?_
  intro b_2 w h
  refine storeL (ys := [(Value.int .u32 x_1.1), (Value.int .i64 x_1.2.1), (Value.int .i64 x_1.2.2.1), (Value.bool x_1.2.2.2)]) h 0 0 rfl rfl rfl sz36 rfl rfl ?_
  intro w h
  dsimp only [setH, setVs, setV] at h
  refine ⟨_, cellL h 0 0 rfl rfl rfl, _, cellL h 0 1 rfl rfl rfl, _, cellL h 0 2 rfl rfl rfl, _, cellL h 0 3 rfl rfl rfl, ?_⟩
  replace h := h.pick [2]
  dsimp only [pickL, pickR, nthH, delH, dropH, List.cons_append, List.nil_append] at h
  refine hY0 x_1 _ _ (cel b_2 36 [(Value.int .u32 x_1.1), (Value.int .i64 x_1.2.1), (Value.int .i64 x_1.2.2.1), (Value.bool x_1.2.2.2)] :: cel b_1 48 [(Value.slice p_1 t.length c_1)] :: FL) _ _ (fun _ h => Mem.drop 2 h) h hp ?_
  intro t13 s_3 w h hp
  refine ⟨_, rfl, ?_⟩
  refine cond_both hp (fun hp => ?_) (fun hp => ?_)
  · replace h := h.sel [2, 0] 1
    dsimp only [pickL, pickR, nthH, delH, dropH, List.cons_append, List.nil_append] at h
    exact hR s_3 _ h hp
  replace h := h.sel [2, 0] 1
  dsimp only [pickL, pickR, nthH, delH, dropH, List.cons_append, List.nil_append] at h
  obtain ⟨n_3, hn, hp⟩ := hp
  exact ⟨n_3, hn, s_3, rfl, rfl, rfl, rfl, rfl, hp, h⟩

/-! slices.Values[[]embrasure/api.Place,embrasure/api.Place] (43) -/
def slices_Values_sl_api_Place_api_Place_wp (s : List (Int × Int × Int × Bool)) (K : Prop) : Prop :=
  K 
theorem slices_Values_sl_api_Place_api_Place_ok {p_1 : Option Addr} {n_1 : Nat} {c_1 : Nat} {s : List (Int × Int × Int × Bool)} {FL : List HP} {w : World} {K : Prop} {R : Value → World → Prop}
  (hF_s : ∀ w, Mem FL w → Rd w 4 p_1 enc36 s) (hl_s : n_1 = s.length) (hc_s : n_1 ≤ c_1)
  (h : Mem (FL) w) (hp : slices_Values_sl_api_Place_api_Place_wp s K)
  (hR : ∀ (b_1 : Nat) (w : World), Mem (cel b_1 48 [(Value.slice p_1 n_1 c_1)] :: FL) w → K  → R (Value.func (Fn.func 53) #[] #[(Value.pointer (some (Addr.mk b_1 0 none)))]) w) :
  CallV Try.prog 43 #[(Value.slice p_1 n_1 c_1)] w R := by
  refine slices_Values_sl_api_Place_api_Place_call ?_
  unfold slices_Values_sl_api_Place_api_Place
  unfold slices_Values_sl_api_Place_api_Place_wp at hp
  subst hl_s
  refine newL (o := [(Value.slice p_1 s.length c_1)]) h ?_
  intro b_1 w h
  exact hR b_1 _ h hp

/-! embrasure/advert.lasting[embrasure/api.Addr] (32) -/
def advert_lasting_api_Addr_wp {σ2 : Type} (all : List ((Int × Int) × Int)) (now : Int) (s : σ2) (Y2 : (Int × Int) → σ2 → (Int → Int → Int → Bool → σ2 → Prop) → Prop) (K : List (Int × Int × Int × Bool) → σ2 → Prop) : Prop :=
  joinP2 (fun (x_1 : List (Int × Int × Int × Bool)) (s_2 : σ2) => slices_SortFunc_sl_api_Place_api_Place_wp x_1 () (fun x_4 x_5 s_7 K_2 => advert_compare_wp x_4.1 x_4.2.1 x_4.2.2.1 x_4.2.2.2 x_5.1 x_5.2.1 x_5.2.2.1 x_5.2.2.2 (fun (r : Int) => K_2 r s_7)) (fun (rs : List (Int × Int × Int × Bool)) (s_8 : (Unit)) => slices_Values_sl_api_Place_api_Place_wp rs (K rs s_2))) (fun (Q : List (Int × Int × Int × Bool) → σ2 → Prop) => maps_Keys_map_api_Addr_int_api_Addr_int_wp all (maps_Keys_map_api_Addr_int_api_Addr_int__c1_wp (0, ([] : List (Int × Int × Int × Bool)), s) (fun x_3 (s_3 : Nat × (List (Int × Int × Int × Bool)) × σ2) K_1 => s_3.1 = 0 ∧ (cond (decide (((mapGet all x_3 0) : Int) > now)) (Y2 x_3 s_3.2.2 (fun (t20_0 : Int) (t20_1 : Int) (t20_2 : Int) (t20_3 : Bool) (s_5 : σ2) => (s_3.2.1.length + [(t20_0, t20_1, t20_2, t20_3)].length) * 32 ≤ 140737488355328 ∧ (K_1 true (0, (s_3.2.1 ++ [(t20_0, t20_1, t20_2, t20_3)]), s_5)))) (K_1 true (0, s_3.2.1, s_3.2.2)))) all (fun (s_6 : (Nat × (List (Int × Int × Int × Bool)) × σ2)) => (s_6.1 = 0 ∧ (Q s_6.2.1 s_6.2.2)))))
theorem advert_lasting_api_Addr_ok {σ2 : Type} {A2 : σ2 → HP} {b_1 : Nat} {p_1 : List MapEntry × Nat} {ff2 : Fn} {fa2 : Array Value} {fc2 : Array Value} {all : List ((Int × Int) × Int)} {now : Int} {s : σ2} {Y2 : (Int × Int) → σ2 → (Int → Int → Int → Bool → σ2 → Prop) → Prop} {FL : List HP} {w : World} {K : List (Int × Int × Int × Bool) → σ2 → Prop} {R : Value → World → Prop}
  (hY2 : ∀ (x0 : Int × Int) (s : σ2) (K : Int → Int → Int → Bool → σ2 → Prop) (FL2 : List HP) (w : World) (R : Value → World → Prop), (∀ w, Mem FL2 w → Mem FL w) → Mem (A2 s :: FL2) w → Y2 x0 s K → (∀ (r0 : Int) (r1 : Int) (r2 : Int) (r3 : Bool) (s : σ2) (w : World), Mem (A2 s :: FL2) w → K r0 r1 r2 r3 s → R (Value.agg #[(Value.int .u32 r0), (Value.int .i64 r1), (Value.int .i64 r2), (Value.bool r3)]) w) → CalleeV Try.prog (Value.func ff2 fa2 fc2) #[(Value.agg #[(Value.int .u32 x0.1), (Value.int .i64 x0.2)])] w R)
  (hM_all : RoM FL b_1 va34 va3 p_1 all)
  (h : Mem (A2 s :: FL) w) (hp : advert_lasting_api_Addr_wp all now s Y2 K)
  (hR : ∀ (x_1 : List (Int × Int × Int × Bool)) (s_1 : σ2) (b_2 : Nat) (p_2 : Option Addr) (n_1 : Nat) (c_1 : Nat) (w : World), n_1 = x_1.length → Mem (cel b_2 48 [(Value.slice p_2 n_1 c_1)] :: row enc36 36 4 p_2 c_1 x_1 :: A2 s_1 :: FL) w → K x_1 s_1 → R (Value.func (Fn.func 53) #[] #[(Value.pointer (some (Addr.mk b_2 0 none)))]) w) :
  CallV Try.prog 32 #[(Value.map (some b_1)), (Value.int .i64 now), (Value.func ff2 fa2 fc2)] w R := by
  refine advert_lasting_api_Addr_call ?_
  unfold advert_lasting_api_Addr
  unfold advert_lasting_api_Addr_wp at hp
  replace h := marksNil h
  refine newL (o := [(Value.map (some b_1))]) h ?_
  intro b_2 w h
  refine newL (o := [(Value.int .i64 now)]) h ?_
  intro b_3 w h
  refine newL (o := [(Value.func ff2 fa2 fc2)]) h ?_
  intro b_4 w h
  refine newL (o := [(Value.slice none 0 0)]) h ?_
  intro b_5 w h
  obtain ⟨Q, hq, hp⟩ := hp
  refine ⟨fun out7 m_1 w => ∃ (x_1 : List (Int × Int × Int × Bool)), ∃ (p_2 : Option Addr), ∃ (n_1 : Nat), ∃ (c_1 : Nat), ∃ (s_2 : σ2), (Addr.mk b_5 0 none) = out7 ∧ n_1 = x_1.length ∧ Q x_1 s_2 ∧ Mem (cel b_5 48 [(Value.slice p_2 n_1 c_1)] :: row enc36 36 4 p_2 c_1 x_1 :: cel b_4 70 [(Value.func ff2 fa2 fc2)] :: cel b_3 3 [(Value.int .i64 now)] :: cel b_2 55 [(Value.map (some b_1))] :: marksP m_1 :: A2 s_2 :: FL) w, ?_, ?_⟩
  · rintro out7 m_1 w ⟨x_1, p_2, n_1, c_1, s_2, rfl, rfl, hp, h⟩
    replace hp := hq x_1 s_2 hp
    unfold advert_lasting_api_Addr_j1
    have cpp_2 := rowCap h 1 rfl
    refine ⟨_, _, _, cellL h 0 0 rfl rfl rfl, ?_⟩
    replace h : Mem ((fun (_ : Unit) => HL []) () :: cel b_5 48 [(Value.slice p_2 x_1.length c_1)] :: row enc36 36 4 p_2 c_1 x_1 :: cel b_4 70 [(Value.func ff2 fa2 fc2)] :: cel b_3 3 [(Value.int .i64 now)] :: cel b_2 55 [(Value.map (some b_1))] :: marksP m_1 :: A2 s_2 :: FL) _ := h.pack 0 [] rfl
    replace h := h.pick [2, 0]
    dsimp only [pickL, pickR, nthH, delH, dropH, List.cons_append, List.nil_append] at h
    refine slices_SortFunc_sl_api_Place_api_Place_ok (FL := cel b_5 48 [(Value.slice p_2 x_1.length c_1)] :: cel b_4 70 [(Value.func ff2 fa2 fc2)] :: cel b_3 3 [(Value.int .i64 now)] :: cel b_2 55 [(Value.map (some b_1))] :: marksP m_1 :: A2 s_2 :: FL) (A1 := (fun (_ : Unit) => HL [])) (Y1 := (fun x_4 x_5 s_7 K_2 => advert_compare_wp x_4.1 x_4.2.1 x_4.2.2.1 x_4.2.2.2 x_5.1 x_5.2.1 x_5.2.2.1 x_5.2.2.2 (fun (r : Int) => K_2 r s_7))) (σ1 := Unit) (s := ()) ?_ rfl (by kernel_rfl) (enters_of Try.func42 (by kernel_rfl) rfl) (by repeat (first | exact exact_nil | refine exact_cons (exact_cel _ _ _) ?_)) h hp ?_
    · intro x_4 x_5 s_7 K FL2 w R hx h hp hR
      replace h := h.unpack
      dsimp only [pickL, pickR, nthH, delH, dropH, List.cons_append, List.nil_append] at h
      refine calleeFn (by kernel_rfl) ?_
      refine advert_compare_ok h hp ?_
      intro r w h hp
      exact hR r s_7 _ (h.pack 0 [] rfl) hp
    rintro rs s_8 w hl_rs h hp
    replace h := h.pick [1]
    dsimp only [pickL, pickR, nthH, delH, dropH, List.cons_append, List.nil_append] at h
    replace h := h.unpack
    dsimp only [pickL, pickR, nthH, delH, dropH, List.cons_append, List.nil_append] at h
    refine ⟨rfl, ?_⟩
    refine ⟨_, _, _, cellL h 1 0 rfl rfl rfl, ?_⟩
    refine slices_Values_sl_api_Place_api_Place_ok (FL := row enc36 36 4 p_2 c_1 rs :: cel b_5 48 [(Value.slice p_2 x_1.length c_1)] :: cel b_4 70 [(Value.func ff2 fa2 fc2)] :: cel b_3 3 [(Value.int .i64 now)] :: cel b_2 55 [(Value.map (some b_1))] :: marksP m_1 :: A2 s_2 :: FL) (fun w h => (rowRd h 0 encL36 rfl)) hl_rs cpp_2 h hp ?_
    intro b_9 w h hp
    refine ⟨_, _, _, rfl, ?_⟩
    replace h := h.pick [6]
    dsimp only [pickL, pickR, nthH, delH, dropH, List.cons_append, List.nil_append] at h
    refine finishMarks _ h ?_
    intro w h
    replace h := h.sel [0, 0, 4] 4
    dsimp only [pickL, pickR, nthH, delH, dropH, List.cons_append, List.nil_append] at h
    exact hR rs s_2 b_9 p_2 x_1.length c_1 _ hl_rs h hp
  clear hq
  refine ⟨_, cellL h 3 0 rfl rfl rfl, ?_⟩
  refine maps_Keys_map_api_Addr_int_api_Addr_int_ok (FL := cel b_5 48 [(Value.slice none 0 0)] :: cel b_4 70 [(Value.func ff2 fa2 fc2)] :: cel b_3 3 [(Value.int .i64 now)] :: cel b_2 55 [(Value.map (some b_1))] :: marksP [] :: A2 s :: FL) (hM_all.mono (fun w h => (h.drop 6))) h hp ?_
  intro b_6 w h hp
  refine ⟨_, _, _, rfl, ?_⟩
  intro e_1 fn_e_1 he_e_1 hr_e_1
  refine newO h ?_
  intro d w h
  refine newO h ?_
  intro l_1 w h
  replace h := h.pick [1, 6]
  dsimp only [pickL, pickR, nthH, delH, dropH, List.cons_append, List.nil_append] at h
  replace h := marksPush h
  show rangeCallW _ (Value.func (Fn.func 47) _ _) _ _ _
  refine rangeCallFn (by kernel_rfl) ?_
  replace h := rowNil enc36 36 4 h
  replace h := h.pick [2, 0, 2, 2, 2, 2, 2]
  dsimp only [pickL, pickR, nthH, delH, dropH, List.cons_append, List.nil_append] at h
  replace h := h.pick [0, 1, 0, 0, 0, 0, 0]
  dsimp only [pickL, pickR, nthH, delH, dropH, List.cons_append, List.nil_append] at h
  replace h : Mem ((fun (s_3 : Nat × (List (Int × Int × Int × Bool)) × σ2) => exH fun (p_4 : Option Addr) => exH fun (c_2 : Nat) => HL [pt l_1 (loopS (advert_lasting_api_Addr_lo1 fn_e_1 e_1 d) s_3.1 (fun (n : Nat) => (none : Option Code))), cel b_5 48 [(Value.slice p_4 s_3.2.1.length c_2)], row enc36 36 4 p_4 c_2 s_3.2.1, cel b_4 70 [(Value.func ff2 fa2 fc2)], cel b_3 3 [(Value.int .i64 now)], cel b_2 55 [(Value.map (some b_1))], A2 s_3.2.2]) (0, ([] : List (Int × Int × Int × Bool)), s) :: marksP (d :: []) :: cel b_6 55 [(Value.map (some b_1))] :: FL) _ := Mem.exsI (none ) (Mem.exsI 0 (h.pack 7 [pt l_1 (loopS (advert_lasting_api_Addr_lo1 fn_e_1 e_1 d) 0 (fun (n : Nat) => (none : Option Code))), cel b_5 48 [(Value.slice none  0 0)], row enc36 36 4 (none ) 0 ([] : List (Int × Int × Int × Bool)), cel b_4 70 [(Value.func ff2 fa2 fc2)], cel b_3 3 [(Value.int .i64 now)], cel b_2 55 [(Value.map (some b_1))], A2 s] rfl))
  replace h := h.pick [2, 0]
  dsimp only [pickL, pickR, nthH, delH, dropH, List.cons_append, List.nil_append] at h
  refine maps_Keys_map_api_Addr_int_api_Addr_int__c1_ok (FL := marksP (d :: []) :: FL) (A0 := (fun (s_3 : Nat × (List (Int × Int × Int × Bool)) × σ2) => exH fun (p_4 : Option Addr) => exH fun (c_2 : Nat) => HL [pt l_1 (loopS (advert_lasting_api_Addr_lo1 fn_e_1 e_1 d) s_3.1 (fun (n : Nat) => (none : Option Code))), cel b_5 48 [(Value.slice p_4 s_3.2.1.length c_2)], row enc36 36 4 p_4 c_2 s_3.2.1, cel b_4 70 [(Value.func ff2 fa2 fc2)], cel b_3 3 [(Value.int .i64 now)], cel b_2 55 [(Value.map (some b_1))], A2 s_3.2.2])) (Y0 := (fun x_3 (s_3 : Nat × (List (Int × Int × Int × Bool)) × σ2) K_1 => s_3.1 = 0 ∧ (cond (decide (((mapGet all x_3 0) : Int) > now)) (Y2 x_3 s_3.2.2 (fun (t20_0 : Int) (t20_1 : Int) (t20_2 : Int) (t20_3 : Bool) (s_5 : σ2) => (s_3.2.1.length + [(t20_0, t20_1, t20_2, t20_3)].length) * 32 ≤ 140737488355328 ∧ (K_1 true (0, (s_3.2.1 ++ [(t20_0, t20_1, t20_2, t20_3)]), s_5)))) (K_1 true (0, s_3.2.1, s_3.2.2))))) (σ0 := Nat × (List (Int × Int × Int × Bool)) × σ2) (s := (0, ([] : List (Int × Int × Int × Bool)), s)) ?_ (hM_all.mono (fun w h => (h.drop 1))) h hp ?_
  · intro x_3 s_3 K_1 FL2 w R hx h hp hR
    obtain ⟨p_4, h⟩ := Mem.exs h
    obtain ⟨c_2, h⟩ := Mem.exs h
    replace h := h.unpack
    dsimp only [pickL, pickR, nthH, delH, dropH, List.cons_append, List.nil_append] at h
    obtain ⟨hst, hp⟩ := hp
    refine advert_lasting_api_Addr_r1_yield (by have := objAt h 0 rfl; rw [hst] at this; exact this) he_e_1 hr_e_1 ?_
    unfold advert_lasting_api_Addr_r1
    have hMx_MP_0 := RoM.mono hM_all (fun w h_ => (by first | exact hx w h_ | exact Mem.drop 1 (hx w h_) | exact Mem.drop 2 (hx w h_) | exact Mem.drop 3 (hx w h_) | exact Mem.drop 4 (hx w h_) | exact Mem.drop 5 (hx w h_) | exact Mem.drop 6 (hx w h_) | exact Mem.drop 7 (hx w h_) | exact Mem.drop 8 (hx w h_) | exact Mem.drop 9 (hx w h_) | exact Mem.drop 10 (hx w h_) | exact Mem.drop 11 (hx w h_) | exact Mem.drop 12 (hx w h_) | exact Mem.drop 13 (hx w h_)))
    have cpp_4 := rowCap h 2 rfl
    refine newL (o := [(Value.int .u32 0), (Value.int .i64 0)]) h ?_
    intro b_7 w h
    refine storeL (ys := [(Value.int .u32 x_3.1), (Value.int .i64 x_3.2)]) h 0 0 rfl rfl rfl sz34 rfl rfl ?_
    intro w h
    dsimp only [setH, setVs, setV] at h
    refine ⟨_, (by have := objAt h 1 rfl; rw [hst] at this; exact this : _ = some (Obj.loop (advert_lasting_api_Addr_lo1 fn_e_1 e_1 d))), rfl, ?_⟩
    replace h := h.putK 1 rfl (.loop { advert_lasting_api_Addr_lo1 fn_e_1 e_1 d with state := .busy })
    dsimp only [setH] at h
    replace h := h.drew
    refine ⟨_, cellL h 6 0 rfl rfl rfl, ?_⟩
    refine ⟨_, cellL h 0 0 rfl rfl rfl, _, cellL h 0 1 rfl rfl rfl, ?_⟩
    refine lookW (k := x_3) (d := 0) (hMx_MP_0.map (h.drop 8)) mu55 kt34 (fun w => run_zeroValue zr3) ?_
    refine ⟨_, rfl, ?_⟩
    refine ⟨rfl, ?_⟩
    refine ⟨_, cellL h 5 0 rfl rfl rfl, ?_⟩
    refine cond_both' hp (fun hp => ?_) (fun hp => ?_)
    · refine ⟨_, objAt h 1 rfl, ?_⟩
      replace h := h.putK 1 rfl (loopS (advert_lasting_api_Addr_lo1 fn_e_1 e_1 d) 0 (fun (n : Nat) => (none : Option Code)))
      dsimp only [setH] at h
      replace h := h.pick [1]
      dsimp only [pickL, pickR, nthH, delH, dropH, List.cons_append, List.nil_append] at h
      replace h := h.sel [0, 1, 1, 1, 1, 1, 1] 1
      dsimp only [pickL, pickR, nthH, delH, dropH, List.cons_append, List.nil_append] at h
      exact hR true (0, s_3.2.1, s_3.2.2) _ (Mem.exsI p_4 (Mem.exsI c_2 (h.pack 7 [pt l_1 (loopS (advert_lasting_api_Addr_lo1 fn_e_1 e_1 d) 0 (fun (n : Nat) => (none : Option Code))), cel b_5 48 [(Value.slice p_4 s_3.2.1.length c_2)], row enc36 36 4 p_4 c_2 s_3.2.1, cel b_4 70 [(Value.func ff2 fa2 fc2)], cel b_3 3 [(Value.int .i64 now)], cel b_2 55 [(Value.map (some b_1))], A2 s_3.2.2] rfl))) hp
    replace h := h.drew
    refine ⟨fun w => Mem (cel b_5 48 [(Value.slice p_4 s_3.2.1.length c_2)] :: FL2) w, (h.sel [2] 7), ?_⟩
    refine ⟨_, _, _, cellL h 2 0 rfl rfl rfl, ?_⟩
    refine ⟨?_, ?_⟩
    · intro w h
      change Mem _ _ at h
      refine ⟨_, _, _, cellL h 0 0 rfl rfl rfl, ?_⟩
      exact ⟨rfl, rfl⟩
    refine ⟨_, cellL h 4 0 rfl rfl rfl, ?_⟩
    refine ⟨_, cellL h 0 0 rfl rfl rfl, _, cellL h 0 1 rfl rfl rfl, ?_⟩
    replace h := h.pick [7]
    dsimp only [pickL, pickR, nthH, delH, dropH, List.cons_append, List.nil_append] at h
    refine hY2 x_3 _ _ (cel b_7 34 [(Value.int .u32 x_3.1), (Value.int .i64 x_3.2)] :: pt l_1 (.loop { advert_lasting_api_Addr_lo1 fn_e_1 e_1 d with state := .busy }) :: cel b_5 48 [(Value.slice p_4 s_3.2.1.length c_2)] :: row enc36 36 4 p_4 c_2 s_3.2.1 :: cel b_4 70 [(Value.func ff2 fa2 fc2)] :: cel b_3 3 [(Value.int .i64 now)] :: cel b_2 55 [(Value.map (some b_1))] :: FL2) _ _ (fun _ h => (by first | exact hx _ (h.drop 7) | exact Mem.drop 1 (hx _ (h.drop 7)) | exact Mem.drop 2 (hx _ (h.drop 7)) | exact Mem.drop 3 (hx _ (h.drop 7)) | exact Mem.drop 4 (hx _ (h.drop 7)) | exact Mem.drop 5 (hx _ (h.drop 7)) | exact Mem.drop 6 (hx _ (h.drop 7)) | exact Mem.drop 7 (hx _ (h.drop 7)) | exact Mem.drop 8 (hx _ (h.drop 7)))) h hp ?_
    intro t20_0 t20_1 t20_2 t20_3 s_5 w h hp
    refine ⟨_, _, _, _, rfl, ?_⟩
    refine ⟨(h.sel [3] 7), ?_⟩
    refine newL (o := [(Value.int .u32 t20_0), (Value.int .i64 t20_1), (Value.int .i64 t20_2), (Value.bool t20_3)]) h ?_
    intro b_8 w h
    refine ⟨(h.sel [4] 8), ?_⟩
    have sr := (celRd h 0 encL36 rfl [(t20_0, t20_1, t20_2, t20_3)] rfl)
    obtain ⟨hb, hp⟩ := hp
    refine appendL slt48 und48 encL36 encO36 h 5 rfl rfl sr rfl hb ?_
    intro p_5 c_3 w h
    dsimp only [setH, setVs, setV] at h
    have cpp_5 := rowCap h 5 rfl
    refine ⟨_, _, _, rfl, ?_⟩
    refine storeL (ys := [(Value.slice p_5 (s_3.2.1 ++ [(t20_0, t20_1, t20_2, t20_3)]).length c_3)]) h 4 0 rfl rfl rfl sz48 rfl rfl ?_
    intro w h
    dsimp only [setH, setVs, setV] at h
    refine ⟨_, objAt h 3 rfl, ?_⟩
    replace h := h.putK 3 rfl (loopS (advert_lasting_api_Addr_lo1 fn_e_1 e_1 d) 0 (fun (n : Nat) => (none : Option Code)))
    dsimp only [setH] at h
    replace h := h.pick [3]
    dsimp only [pickL, pickR, nthH, delH, dropH, List.cons_append, List.nil_append] at h
    replace h := h.sel [0, 3, 3, 3, 3, 3, 1] 2
    dsimp only [pickL, pickR, nthH, delH, dropH, List.cons_append, List.nil_append] at h
    exact hR true (0, (s_3.2.1 ++ [(t20_0, t20_1, t20_2, t20_3)]), s_5) _ (Mem.exsI p_5 (Mem.exsI c_3 (h.pack 7 [pt l_1 (loopS (advert_lasting_api_Addr_lo1 fn_e_1 e_1 d) 0 (fun (n : Nat) => (none : Option Code))), cel b_5 48 [(Value.slice p_5 (s_3.2.1 ++ [(t20_0, t20_1, t20_2, t20_3)]).length c_3)], row enc36 36 4 p_5 c_3 (s_3.2.1 ++ [(t20_0, t20_1, t20_2, t20_3)]), cel b_4 70 [(Value.func ff2 fa2 fc2)], cel b_3 3 [(Value.int .i64 now)], cel b_2 55 [(Value.map (some b_1))], A2 s_5] rfl))) hp
  intro s_6 w h hp
  replace h := h.pick [1]
  dsimp only [pickL, pickR, nthH, delH, dropH, List.cons_append, List.nil_append] at h
  obtain ⟨p_6, h⟩ := Mem.exs h
  obtain ⟨c_4, h⟩ := Mem.exs h
  replace h := h.unpack
  dsimp only [pickL, pickR, nthH, delH, dropH, List.cons_append, List.nil_append] at h
  have cpp_6 := rowCap h 2 rfl
  refine ⟨_, objAt h 0 rfl, loopS_ns _, ?_⟩
  replace h := h.putK 0 rfl (.loop { advert_lasting_api_Addr_lo1 fn_e_1 e_1 d with state := .exhausted, pending := (fun (n : Nat) => (none : Option Code)) s_6.1 })
  dsimp only [setH] at h
  obtain ⟨hst, hp⟩ := hp
  refine ⟨congrArg (fun (n : Nat) => (none : Option Code)) hst, ?_⟩
  replace h := h.sel [1, 1, 1, 1, 1, 3, 1] 2
  dsimp only [pickL, pickR, nthH, delH, dropH, List.cons_append, List.nil_append] at h
  exact ⟨s_6.2.1, p_6, s_6.2.1.length, c_4, s_6.2.2, rfl, rfl, hp, h⟩

/-! (*embrasure/advert.Advert).Told$1 (33) -/
def advert_Advert_Told_c1_wp (x_Host : Int) (x_Port : Int) (K : Int → Int → Int → Bool → Prop) : Prop :=
  K x_Host x_Port 0 (false)
theorem advert_Advert_Told_c1_ok {x_Host : Int} {x_Port : Int} {FL : List HP} {w : World} {K : Int → Int → Int → Bool → Prop} {R : Value → World → Prop}
  (h : Mem (FL) w) (hp : advert_Advert_Told_c1_wp x_Host x_Port K)
  (hR : ∀ (r : Int) (r_1 : Int) (r_2 : Int) (r_3 : Bool) (w : World), Mem (FL) w → K r r_1 r_2 r_3 → R (Value.agg #[(Value.int .u32 r), (Value.int .i64 r_1), (Value.int .i64 r_2), (Value.bool r_3)]) w) :
  CallV Try.prog 33 #[(Value.agg #[(Value.int .u32 x_Host), (Value.int .i64 x_Port)])] w R := by
  refine advert_Advert_Told_c1_call ?_
  unfold advert_Advert_Told_c1
  unfold advert_Advert_Told_c1_wp at hp
  refine newL (o := [(Value.int .u32 x_Host), (Value.int .i64 x_Port)]) h ?_
  intro b_1 w h
  refine newL (o := [(Value.int .u32 0), (Value.int .i64 0), (Value.int .i64 0), (Value.bool false)]) h ?_
  intro b_2 w h
  refine ⟨_, cellL h 1 0 rfl rfl rfl, _, cellL h 1 1 rfl rfl rfl, ?_⟩
  refine storeL (ys := [(Value.int .u32 x_Host), (Value.int .i64 x_Port), (Value.int .i64 0), (Value.bool false)]) h 0 0 rfl rfl rfl sz36 rfl rfl ?_
  intro w h
  dsimp only [setH, setVs, setV] at h
  refine ⟨_, cellL h 0 0 rfl rfl rfl, _, cellL h 0 1 rfl rfl rfl, _, cellL h 0 2 rfl rfl rfl, _, cellL h 0 3 rfl rfl rfl, ?_⟩
  replace h := h.sel [] 2
  dsimp only [pickL, pickR, nthH, delH, dropH, List.cons_append, List.nil_append] at h
  exact hR x_Host x_Port 0 (false) _ h hp

/-! embrasure/advert.observed$1 (44) -/
def advert_observed_c1_wp {σ0 : Type} (s : σ0) (Y0 : (Int × Int × Int × Bool) → σ0 → (Bool → σ0 → Prop) → Prop) (t : List (Int × Int)) (t_1 : Bool) (K : σ0 → Prop) : Prop :=
  0 ≤ ((if (8 : Int) < ((t.length : Nat) : Int) then 8 else ((t.length : Nat) : Int)) : Int) ∧ ((if (8 : Int) < ((t.length : Nat) : Int) then 8 else ((t.length : Nat) : Int)) : Int) ≤ ((t.length : Nat) : Int) ∧ (∃ (I : Nat → Int → σ0 → Prop), (∃ (n_4 : Nat), I n_4 0 s) ∧ ∀ (n_2 : Nat) (t12 : Int) (s_2 : σ0), I n_2 t12 s_2 → (cond (decide ((t12 : Int) < ((((Int.toNat (if (8 : Int) < ((t.length : Nat) : Int) then 8 else ((t.length : Nat) : Int))) - 0) : Nat) : Int))) (0 ≤ (t12 : Int) ∧ (t12 : Int) < ((((Int.toNat (if (8 : Int) < ((t.length : Nat) : Int) then 8 else ((t.length : Nat) : Int))) - 0) : Nat) : Int) ∧ (∀ (x_1 : Int × Int), ((t.take (Int.toNat (if (8 : Int) < ((t.length : Nat) : Int) then 8 else ((t.length : Nat) : Int)))).drop 0)[Int.toNat t12]? = some x_1 → (joinP2 (fun (t27 : Bool) (s_3 : σ0) => cond t27 (K s_3) (∃ (n_3 : Nat), n_3 < n_2 ∧ I n_3 (IntKind.wrap .i64 (t12 + 1)) s_3)) (fun (Q : Bool → σ0 → Prop) => cond t_1 (addr_May_wp x_1.1 x_1.2 (fun (r : Bool) => cond r (Y0 (x_1.1, x_1.2, 0, false) s_2 (fun (t25 : Bool) (s_4 : σ0) => Q (!t25) s_4)) (Q false s_2))) (Q false s_2))))) (K s_2)))
theorem advert_observed_c1_ok {σ0 : Type} {A0 : σ0 → HP} {ff0 : Fn} {fa0 : Array Value} {fc0 : Array Value} {b_1 : Nat} {p_1 : Option Addr} {n_1 : Nat} {c_1 : Nat} {b_2 : Nat} {s : σ0} {Y0 : (Int × Int × Int × Bool) → σ0 → (Bool → σ0 → Prop) → Prop} {t : List (Int × Int)} {t_1 : Bool} {FL : List HP} {w : World} {K : σ0 → Prop} {R : Value → World → Prop}
  (hY0 : ∀ (x0 : Int × Int × Int × Bool) (s : σ0) (K : Bool → σ0 → Prop) (FL2 : List HP) (w : World) (R : Value → World → Prop), (∀ w, Mem FL2 w → Mem FL w) → Mem (A0 s :: FL2) w → Y0 x0 s K → (∀ (r : Bool) (s : σ0) (w : World), Mem (A0 s :: FL2) w → K r s → R (Value.bool r) w) → CalleeV Try.prog (Value.func ff0 fa0 fc0) #[(Value.agg #[(Value.int .u32 x0.1), (Value.int .i64 x0.2.1), (Value.int .i64 x0.2.2.1), (Value.bool x0.2.2.2)])] w R)
  (hF_t : ∀ w, Mem FL w → Rd w 2 p_1 enc34 t) (hl_t : n_1 = t.length) (hc_t : n_1 ≤ c_1)
  (h : Mem (cel b_1 26 [(Value.slice p_1 n_1 c_1)] :: cel b_2 4 [(Value.bool t_1)] :: A0 s :: FL) w) (hp : advert_observed_c1_wp s Y0 t t_1 K)
  (hR : ∀ (s_1 : σ0) (w : World), Mem (cel b_1 26 [(Value.slice p_1 t.length c_1)] :: cel b_2 4 [(Value.bool t_1)] :: A0 s_1 :: FL) w → K s_1 → R undef w) :
  CallV Try.prog 44 #[(Value.func ff0 fa0 fc0), (Value.pointer (some (Addr.mk b_1 0 none))), (Value.pointer (some (Addr.mk b_2 0 none)))] w R := by
  refine advert_observed_c1_call ?_
  unfold advert_observed_c1
  unfold advert_observed_c1_wp at hp
  subst hl_t
  refine ⟨_, _, _, cellL h 0 0 rfl rfl rfl, ?_⟩
  refine ⟨_, _, _, cellL h 0 0 rfl rfl rfl, ?_⟩
  obtain ⟨g_1ha, g_1hb, hp⟩ := hp
  have vg_1_lh : 0 ≤ (Int.toNat (if (8 : Int) < ((t.length : Nat) : Int) then 8 else ((t.length : Nat) : Int))) := (Nat.zero_le _)
  have vg_1_hm : (Int.toNat (if (8 : Int) < ((t.length : Nat) : Int) then 8 else ((t.length : Nat) : Int))) ≤ c_1 := (Nat.le_trans (natLe g_1ha g_1hb) hc_t)
  have vg_1_mc : c_1 ≤ c_1 := (Nat.le_refl _)
  have vg_1_hl : (Int.toNat (if (8 : Int) < ((t.length : Nat) : Int) then 8 else ((t.length : Nat) : Int))) ≤ t.length := (leLen g_1ha g_1hb rfl)
  refine ⟨g_1ha, (leCap g_1hb hc_t), ?_⟩
  obtain ⟨I, ⟨n_4, h0⟩, hq⟩ := hp
  refine ⟨fun n_2 yield0 t2 t10p t10l t10c t11 t12 w => ∃ (s_2 : σ0), (Value.func ff0 fa0 fc0) = yield0 ∧ (Addr.mk b_2 0 none) = t2 ∧ (slAddr p_1 2 0 c_1) = t10p ∧ ((Int.toNat (if (8 : Int) < ((t.length : Nat) : Int) then 8 else ((t.length : Nat) : Int))) - 0) = t10l ∧ (c_1 - 0) = t10c ∧ ((((Int.toNat (if (8 : Int) < ((t.length : Nat) : Int) then 8 else ((t.length : Nat) : Int))) - 0) : Nat) : Int) = t11 ∧ I n_2 t12 s_2 ∧ Mem (cel b_1 26 [(Value.slice p_1 t.length c_1)] :: cel b_2 4 [(Value.bool t_1)] :: A0 s_2 :: FL) w, ⟨n_4, s, rfl, rfl, rfl, rfl, rfl, rfl, h0, h⟩, ?_⟩
  clear h0 h
  rintro n_2 yield0 t2 t10p t10l t10c t11 t12 w ⟨s_2, rfl, rfl, rfl, rfl, rfl, rfl, hp, h⟩
  replace hp := hq n_2 t12 s_2 hp
  clear hq
  unfold advert_observed_c1_l1
  refine cond_both' hp (fun hp => ?_) (fun hp => ?_)
  · exact hR s_2 _ h hp
  obtain ⟨ia_1, ja_1, hp⟩ := hp
  obtain ⟨a_1, ha_1⟩ := rdAddr (Rd.view (hF_t _ (h.drop 3)) (l := 0) (h := (Int.toNat (if (8 : Int) < ((t.length : Nat) : Int) then 8 else ((t.length : Nat) : Int)))) (m := c_1) vg_1_hm) (viewLen vg_1_hl) ia_1 ja_1
  refine ⟨a_1, ha_1, ia_1, ja_1, ?_⟩
  obtain ⟨x_1, hx_1, hc⟩ := rdCell (Rd.view (hF_t _ (h.drop 3)) (l := 0) (h := (Int.toNat (if (8 : Int) < ((t.length : Nat) : Int) then 8 else ((t.length : Nat) : Int)))) (m := c_1) vg_1_hm) ha_1 (viewLen vg_1_hl) ia_1 ja_1
  replace hp := hp x_1 hx_1
  refine ⟨_, hc 0 _ rfl, _, hc 1 _ rfl, ?_⟩
  refine newL (o := [(Value.int .u32 0), (Value.int .i64 0)]) h ?_
  intro b_3 w h
  refine storeL (ys := [(Value.int .u32 x_1.1), (Value.int .i64 x_1.2)]) h 0 0 rfl rfl rfl sz34 rfl rfl ?_
  intro w h
  dsimp only [setH, setVs, setV] at h
  obtain ⟨Q, hq, hp⟩ := hp
  refine ⟨fun yield0_1 t2_1 t10_1p t10_1l t10_1c t11_1 t12_1 t27 w => ∃ (s_3 : σ0), (Value.func ff0 fa0 fc0) = yield0_1 ∧ (Addr.mk b_2 0 none) = t2_1 ∧ (slAddr p_1 2 0 c_1) = t10_1p ∧ ((Int.toNat (if (8 : Int) < ((t.length : Nat) : Int) then 8 else ((t.length : Nat) : Int))) - 0) = t10_1l ∧ (c_1 - 0) = t10_1c ∧ ((((Int.toNat (if (8 : Int) < ((t.length : Nat) : Int) then 8 else ((t.length : Nat) : Int))) - 0) : Nat) : Int) = t11_1 ∧ t12 = t12_1 ∧ Q t27 s_3 ∧ Mem (cel b_3 34 [(Value.int .u32 x_1.1), (Value.int .i64 x_1.2)] :: cel b_1 26 [(Value.slice p_1 t.length c_1)] :: cel b_2 4 [(Value.bool t_1)] :: A0 s_3 :: FL) w, ?_, ?_⟩
  · rintro yield0_1 t2_1 t10_1p t10_1l t10_1c t11_1 t12_1 t27 w ⟨s_3, rfl, rfl, rfl, rfl, rfl, rfl, rfl, hp, h⟩
    replace hp := hq t27 s_3 hp
    unfold advert_observed_c1_j2
    refine cond_both hp (fun hp => ?_) (fun hp => ?_)
    · replace h := h.sel [1, 1, 1] 1
      dsimp only [pickL, pickR, nthH, delH, dropH, List.cons_append, List.nil_append] at h
      exact hR s_3 _ h hp
    replace h := h.sel [1, 1, 1] 1
    dsimp only [pickL, pickR, nthH, delH, dropH, List.cons_append, List.nil_append] at h
    obtain ⟨n_3, hn, hp⟩ := hp
    exact ⟨n_3, hn, s_3, rfl, rfl, rfl, rfl, rfl, rfl, hp, h⟩
  clear hq
  refine ⟨_, cellL h 2 0 rfl rfl rfl, ?_⟩
  refine cond_both' hp (fun hp => ?_) (fun hp => ?_)
  · exact ⟨s_2, rfl, rfl, rfl, rfl, rfl, rfl, rfl, hp, h⟩
  refine ⟨_, cellL h 0 0 rfl rfl rfl, _, cellL h 0 1 rfl rfl rfl, ?_⟩
  refine addr_May_ok h hp ?_
  intro r w h hp
  refine ⟨_, rfl, ?_⟩
  refine cond_both' hp (fun hp => ?_) (fun hp => ?_)
  · exact ⟨s_2, rfl, rfl, rfl, rfl, rfl, rfl, rfl, hp, h⟩
  refine ⟨_, cellL h 0 0 rfl rfl rfl, _, cellL h 0 1 rfl rfl rfl, ?_⟩
  replace h := h.pick [3]
  dsimp only [pickL, pickR, nthH, delH, dropH, List.cons_append, List.nil_append] at h
  refine hY0 (x_1.1, x_1.2, 0, false) _ _ (cel b_3 34 [(Value.int .u32 x_1.1), (Value.int .i64 x_1.2)] :: cel b_1 26 [(Value.slice p_1 t.length c_1)] :: cel b_2 4 [(Value.bool t_1)] :: FL) _ _ (fun _ h => Mem.drop 3 h) h hp ?_
  intro t25 s_4 w h hp
  refine ⟨_, rfl, ?_⟩
  replace h := h.sel [1, 1, 1, 0] 0
  dsimp only [pickL, pickR, nthH, delH, dropH, List.cons_append, List.nil_append] at h
  exact ⟨s_4, rfl, rfl, rfl, rfl, rfl, rfl, rfl, hp, h⟩

/-! embrasure/advert.observed (34) -/
def advert_observed_wp (seen : List (Int × Int)) (public_ : Bool) (K : Bool → Prop) : Prop :=
  K public_
theorem advert_observed_ok {p_1 : Option Addr} {n_1 : Nat} {c_1 : Nat} {seen : List (Int × Int)} {public_ : Bool} {FL : List HP} {w : World} {K : Bool → Prop} {R : Value → World → Prop}
  (hF_seen : ∀ w, Mem FL w → Rd w 2 p_1 enc34 seen) (hl_seen : n_1 = seen.length) (hc_seen : n_1 ≤ c_1)
  (h : Mem (FL) w) (hp : advert_observed_wp seen public_ K)
  (hR : ∀ (x_1 : Bool) (b_1 : Nat) (b_2 : Nat) (w : World), Mem (cel b_1 26 [(Value.slice p_1 n_1 c_1)] :: cel b_2 4 [(Value.bool x_1)] :: FL) w → K x_1 → R (Value.func (Fn.func 44) #[] #[(Value.pointer (some (Addr.mk b_1 0 none))), (Value.pointer (some (Addr.mk b_2 0 none)))]) w) :
  CallV Try.prog 34 #[(Value.slice p_1 n_1 c_1), (Value.bool public_)] w R := by
  refine advert_observed_call ?_
  unfold advert_observed
  unfold advert_observed_wp at hp
  subst hl_seen
  refine newL (o := [(Value.slice p_1 seen.length c_1)]) h ?_
  intro b_1 w h
  refine newL (o := [(Value.bool public_)]) h ?_
  intro b_2 w h
  replace h := h.sel [1, 0] 0
  dsimp only [pickL, pickR, nthH, delH, dropH, List.cons_append, List.nil_append] at h
  exact hR public_ b_1 b_2 _ h hp

/-! maps.Keys[map[embrasure/api.Place]int,embrasure/api.Place,int]$1 (54) -/
def maps_Keys_map_api_Place_int_api_Place_int__c1_wp {σ0 : Type} (s : σ0) (Y0 : (Int × Int × Int × Bool) → σ0 → (Bool → σ0 → Prop) → Prop) (t : List ((Int × Int × Int × Bool) × Int)) (K : σ0 → Prop) : Prop :=
  ∃ (I : Nat → List ((Int × Int × Int × Bool) × Int) → σ0 → Prop), (∃ (n_3 : Nat), I n_3 t s) ∧ ∀ (n_1 : Nat) (lf : List ((Int × Int × Int × Bool) × Int)) (s_2 : σ0), I n_1 lf s_2 → ((lf = [] → (K s_2)) ∧ (∀ (i : Nat) (x_1 : (Int × Int × Int × Bool) × Int), lf[i]? = some x_1 → (Y0 (x_1.1.1, x_1.1.2.1, x_1.1.2.2.1, x_1.1.2.2.2) s_2 (fun (t12 : Bool) (s_3 : σ0) => cond (!t12) (K s_3) (∃ (n_2 : Nat), n_2 < n_1 ∧ I n_2 (lf.eraseIdx i) s_3)))))
theorem maps_Keys_map_api_Place_int_api_Place_int__c1_ok {σ0 : Type} {A0 : σ0 → HP} {ff0 : Fn} {fa0 : Array Value} {fc0 : Array Value} {b_1 : Nat} {b_2 : Nat} {p_1 : List MapEntry × Nat} {s : σ0} {Y0 : (Int × Int × Int × Bool) → σ0 → (Bool → σ0 → Prop) → Prop} {t : List ((Int × Int × Int × Bool) × Int)} {FL : List HP} {w : World} {K : σ0 → Prop} {R : Value → World → Prop}
  (hY0 : ∀ (x0 : Int × Int × Int × Bool) (s : σ0) (K : Bool → σ0 → Prop) (FL2 : List HP) (w : World) (R : Value → World → Prop), (∀ w, Mem FL2 w → Mem FL w) → Mem (A0 s :: FL2) w → Y0 x0 s K → (∀ (r : Bool) (s : σ0) (w : World), Mem (A0 s :: FL2) w → K r s → R (Value.bool r) w) → CalleeV Try.prog (Value.func ff0 fa0 fc0) #[(Value.agg #[(Value.int .u32 x0.1), (Value.int .i64 x0.2.1), (Value.int .i64 x0.2.2.1), (Value.bool x0.2.2.2)])] w R)
  (hM_t : RoM FL b_2 va36 va3 p_1 t)
  (h : Mem (cel b_1 56 [(Value.map (some b_2))] :: A0 s :: FL) w) (hp : maps_Keys_map_api_Place_int_api_Place_int__c1_wp s Y0 t K)
  (hR : ∀ (s_1 : σ0) (w : World), Mem (cel b_1 56 [(Value.map (some b_2))] :: A0 s_1 :: FL) w → K s_1 → R undef w) :
  CallV Try.prog 54 #[(Value.func ff0 fa0 fc0), (Value.pointer (some (Addr.mk b_1 0 none)))] w R := by
  refine maps_Keys_map_api_Place_int_api_Place_int__c1_call ?_
  unfold maps_Keys_map_api_Place_int_api_Place_int__c1
  unfold maps_Keys_map_api_Place_int_api_Place_int__c1_wp at hp
  refine ⟨_, cellL h 0 0 rfl rfl rfl, ?_⟩
  refine rangeW h (hM_t.map (h.drop 2)) mu56 ?_
  intro l_1 w h
  refine ⟨_, rfl, ?_⟩
  obtain ⟨I, ⟨n_3, h0⟩, hq⟩ := hp
  replace h := h.sel [1, 0, 0] 0
  dsimp only [pickL, pickR, nthH, delH, dropH, List.cons_append, List.nil_append] at h
  refine ⟨fun n_1 yield0 t5 w => ∃ (lf : List ((Int × Int × Int × Bool) × Int)), ∃ (s_2 : σ0), (Value.func ff0 fa0 fc0) = yield0 ∧ (Value.pointer (some (Addr.mk l_1 0 none))) = t5 ∧ I n_1 lf s_2 ∧ Mem (cel b_1 56 [(Value.map (some b_2))] :: itQ l_1 b_2 va36 va3 p_1 none lf :: A0 s_2 :: FL) w, ⟨n_3, t, s, rfl, rfl, h0, h⟩, ?_⟩
  clear h0 h
  rintro n_1 yield0 t5 w ⟨lf, s_2, rfl, rfl, hp, h⟩
  replace hp := hq n_1 lf s_2 hp
  clear hq
  unfold maps_Keys_map_api_Place_int_api_Place_int__c1_l1
  refine nextG h 1 rfl (hM_t.map (h.drop 3)) ?_ ?_
  · intro he_
    replace hp := hp.1 he_
    skip
    replace h := h.sel [0, 1] 1
    dsimp only [pickL, pickR, nthH, delH, dropH, List.cons_append, List.nil_append] at h
    exact hR s_2 _ h hp
  intro i x_1 w hx_1 h
  dsimp only [setH, setVs, setV] at h
  replace hp := hp.2 i x_1 hx_1
  refine entryG h 1 rfl (hM_t.map (h.drop 3)) ?_
  replace h := itForget h 1 rfl
  dsimp only [setH, setVs, setV] at h
  refine ⟨_, _, _, _, rfl, ?_⟩
  refine newL (o := [(Value.int .u32 0), (Value.int .i64 0), (Value.int .i64 0), (Value.bool false)]) h ?_
  intro b_3 w h
  refine storeL (ys := [(Value.int .u32 x_1.1.1), (Value.int .i64 x_1.1.2.1), (Value.int .i64 x_1.1.2.2.1), (Value.bool x_1.1.2.2.2)]) h 0 0 rfl rfl rfl sz36 rfl rfl ?_
  intro w h
  dsimp only [setH, setVs, setV] at h
  refine ⟨_, cellL h 0 0 rfl rfl rfl, _, cellL h 0 1 rfl rfl rfl, _, cellL h 0 2 rfl rfl rfl, _, cellL h 0 3 rfl rfl rfl, ?_⟩
  replace h := h.pick [3]
  dsimp only [pickL, pickR, nthH, delH, dropH, List.cons_append, List.nil_append] at h
  refine hY0 (x_1.1.1, x_1.1.2.1, x_1.1.2.2.1, x_1.1.2.2.2) _ _ (cel b_3 36 [(Value.int .u32 x_1.1.1), (Value.int .i64 x_1.1.2.1), (Value.int .i64 x_1.1.2.2.1), (Value.bool x_1.1.2.2.2)] :: cel b_1 56 [(Value.map (some b_2))] :: itQ l_1 b_2 va36 va3 p_1 none (lf.eraseIdx i) :: FL) _ _ (fun _ h => Mem.drop 3 h) h hp ?_
  intro t12 s_3 w h hp
  refine ⟨_, rfl, ?_⟩
  refine cond_both hp (fun hp => ?_) (fun hp => ?_)
  · replace h := h.sel [2, 0] 2
    dsimp only [pickL, pickR, nthH, delH, dropH, List.cons_append, List.nil_append] at h
    exact hR s_3 _ h hp
  replace h := h.sel [2, 2, 0] 1
  dsimp only [pickL, pickR, nthH, delH, dropH, List.cons_append, List.nil_append] at h
  obtain ⟨n_2, hn, hp⟩ := hp
  exact ⟨n_2, hn, (lf.eraseIdx i), s_3, rfl, rfl, hp, h⟩

/-! maps.Keys[map[embrasure/api.Place]int,embrasure/api.Place,int] (45) -/
def maps_Keys_map_api_Place_int_api_Place_int_wp (m_1 : List ((Int × Int × Int × Bool) × Int)) (K : Prop) : Prop :=
  K 
theorem maps_Keys_map_api_Place_int_api_Place_int_ok {b_1 : Nat} {p_1 : List MapEntry × Nat} {m_1 : List ((Int × Int × Int × Bool) × Int)} {FL : List HP} {w : World} {K : Prop} {R : Value → World → Prop}
  (hM_m_1 : RoM FL b_1 va36 va3 p_1 m_1)
  (h : Mem (FL) w) (hp : maps_Keys_map_api_Place_int_api_Place_int_wp m_1 K)
  (hR : ∀ (b_2 : Nat) (w : World), Mem (cel b_2 56 [(Value.map (some b_1))] :: FL) w → K  → R (Value.func (Fn.func 54) #[] #[(Value.pointer (some (Addr.mk b_2 0 none)))]) w) :
  CallV Try.prog 45 #[(Value.map (some b_1))] w R := by
  refine maps_Keys_map_api_Place_int_api_Place_int_call ?_
  unfold maps_Keys_map_api_Place_int_api_Place_int
  unfold maps_Keys_map_api_Place_int_api_Place_int_wp at hp
  refine newL (o := [(Value.map (some b_1))]) h ?_
  intro b_2 w h
  exact hR b_2 _ h hp

/-! embrasure/advert.lasting[embrasure/api.Place] (35) -/
def advert_lasting_api_Place_wp {σ2 : Type} (all : List ((Int × Int × Int × Bool) × Int)) (now : Int) (s : σ2) (Y2 : (Int × Int × Int × Bool) → σ2 → (Int → Int → Int → Bool → σ2 → Prop) → Prop) (K : List (Int × Int × Int × Bool) → σ2 → Prop) : Prop :=
  joinP2 (fun (x_1 : List (Int × Int × Int × Bool)) (s_2 : σ2) => slices_SortFunc_sl_api_Place_api_Place_wp x_1 () (fun x_4 x_5 s_7 K_2 => advert_compare_wp x_4.1 x_4.2.1 x_4.2.2.1 x_4.2.2.2 x_5.1 x_5.2.1 x_5.2.2.1 x_5.2.2.2 (fun (r : Int) => K_2 r s_7)) (fun (rs : List (Int × Int × Int × Bool)) (s_8 : (Unit)) => slices_Values_sl_api_Place_api_Place_wp rs (K rs s_2))) (fun (Q : List (Int × Int × Int × Bool) → σ2 → Prop) => maps_Keys_map_api_Place_int_api_Place_int_wp all (maps_Keys_map_api_Place_int_api_Place_int__c1_wp (0, ([] : List (Int × Int × Int × Bool)), s) (fun x_3 (s_3 : Nat × (List (Int × Int × Int × Bool)) × σ2) K_1 => s_3.1 = 0 ∧ (cond (decide (((mapGet all x_3 0) : Int) > now)) (Y2 x_3 s_3.2.2 (fun (t20_0 : Int) (t20_1 : Int) (t20_2 : Int) (t20_3 : Bool) (s_5 : σ2) => (s_3.2.1.length + [(t20_0, t20_1, t20_2, t20_3)].length) * 32 ≤ 140737488355328 ∧ (K_1 true (0, (s_3.2.1 ++ [(t20_0, t20_1, t20_2, t20_3)]), s_5)))) (K_1 true (0, s_3.2.1, s_3.2.2)))) all (fun (s_6 : (Nat × (List (Int × Int × Int × Bool)) × σ2)) => (s_6.1 = 0 ∧ (Q s_6.2.1 s_6.2.2)))))
theorem advert_lasting_api_Place_ok {σ2 : Type} {A2 : σ2 → HP} {b_1 : Nat} {p_1 : List MapEntry × Nat} {ff2 : Fn} {fa2 : Array Value} {fc2 : Array Value} {all : List ((Int × Int × Int × Bool) × Int)} {now : Int} {s : σ2} {Y2 : (Int × Int × Int × Bool) → σ2 → (Int → Int → Int → Bool → σ2 → Prop) → Prop} {FL : List HP} {w : World} {K : List (Int × Int × Int × Bool) → σ2 → Prop} {R : Value → World → Prop}
  (hY2 : ∀ (x0 : Int × Int × Int × Bool) (s : σ2) (K : Int → Int → Int → Bool → σ2 → Prop) (FL2 : List HP) (w : World) (R : Value → World → Prop), (∀ w, Mem FL2 w → Mem FL w) → Mem (A2 s :: FL2) w → Y2 x0 s K → (∀ (r0 : Int) (r1 : Int) (r2 : Int) (r3 : Bool) (s : σ2) (w : World), Mem (A2 s :: FL2) w → K r0 r1 r2 r3 s → R (Value.agg #[(Value.int .u32 r0), (Value.int .i64 r1), (Value.int .i64 r2), (Value.bool r3)]) w) → CalleeV Try.prog (Value.func ff2 fa2 fc2) #[(Value.agg #[(Value.int .u32 x0.1), (Value.int .i64 x0.2.1), (Value.int .i64 x0.2.2.1), (Value.bool x0.2.2.2)])] w R)
  (hM_all : RoM FL b_1 va36 va3 p_1 all)
  (h : Mem (A2 s :: FL) w) (hp : advert_lasting_api_Place_wp all now s Y2 K)
  (hR : ∀ (x_1 : List (Int × Int × Int × Bool)) (s_1 : σ2) (b_2 : Nat) (p_2 : Option Addr) (n_1 : Nat) (c_1 : Nat) (w : World), n_1 = x_1.length → Mem (cel b_2 48 [(Value.slice p_2 n_1 c_1)] :: row enc36 36 4 p_2 c_1 x_1 :: A2 s_1 :: FL) w → K x_1 s_1 → R (Value.func (Fn.func 53) #[] #[(Value.pointer (some (Addr.mk b_2 0 none)))]) w) :
  CallV Try.prog 35 #[(Value.map (some b_1)), (Value.int .i64 now), (Value.func ff2 fa2 fc2)] w R := by
  refine advert_lasting_api_Place_call ?_
  unfold advert_lasting_api_Place
  unfold advert_lasting_api_Place_wp at hp
  replace h := marksNil h
  refine newL (o := [(Value.map (some b_1))]) h ?_
  intro b_2 w h
  refine newL (o := [(Value.int .i64 now)]) h ?_
  intro b_3 w h
  refine newL (o := [(Value.func ff2 fa2 fc2)]) h ?_
  intro b_4 w h
  refine newL (o := [(Value.slice none 0 0)]) h ?_
  intro b_5 w h
  obtain ⟨Q, hq, hp⟩ := hp
  refine ⟨fun out7 m_1 w => ∃ (x_1 : List (Int × Int × Int × Bool)), ∃ (p_2 : Option Addr), ∃ (n_1 : Nat), ∃ (c_1 : Nat), ∃ (s_2 : σ2), (Addr.mk b_5 0 none) = out7 ∧ n_1 = x_1.length ∧ Q x_1 s_2 ∧ Mem (cel b_5 48 [(Value.slice p_2 n_1 c_1)] :: row enc36 36 4 p_2 c_1 x_1 :: cel b_4 73 [(Value.func ff2 fa2 fc2)] :: cel b_3 3 [(Value.int .i64 now)] :: cel b_2 56 [(Value.map (some b_1))] :: marksP m_1 :: A2 s_2 :: FL) w, ?_, ?_⟩
  · rintro out7 m_1 w ⟨x_1, p_2, n_1, c_1, s_2, rfl, rfl, hp, h⟩
    replace hp := hq x_1 s_2 hp
    unfold advert_lasting_api_Place_j1
    have cpp_2 := rowCap h 1 rfl
    refine ⟨_, _, _, cellL h 0 0 rfl rfl rfl, ?_⟩
    replace h : Mem ((fun (_ : Unit) => HL []) () :: cel b_5 48 [(Value.slice p_2 x_1.length c_1)] :: row enc36 36 4 p_2 c_1 x_1 :: cel b_4 73 [(Value.func ff2 fa2 fc2)] :: cel b_3 3 [(Value.int .i64 now)] :: cel b_2 56 [(Value.map (some b_1))] :: marksP m_1 :: A2 s_2 :: FL) _ := h.pack 0 [] rfl
    replace h := h.pick [2, 0]
    dsimp only [pickL, pickR, nthH, delH, dropH, List.cons_append, List.nil_append] at h
    refine slices_SortFunc_sl_api_Place_api_Place_ok (FL := cel b_5 48 [(Value.slice p_2 x_1.length c_1)] :: cel b_4 73 [(Value.func ff2 fa2 fc2)] :: cel b_3 3 [(Value.int .i64 now)] :: cel b_2 56 [(Value.map (some b_1))] :: marksP m_1 :: A2 s_2 :: FL) (A1 := (fun (_ : Unit) => HL [])) (Y1 := (fun x_4 x_5 s_7 K_2 => advert_compare_wp x_4.1 x_4.2.1 x_4.2.2.1 x_4.2.2.2 x_5.1 x_5.2.1 x_5.2.2.1 x_5.2.2.2 (fun (r : Int) => K_2 r s_7))) (σ1 := Unit) (s := ()) ?_ rfl (by kernel_rfl) (enters_of Try.func42 (by kernel_rfl) rfl) (by repeat (first | exact exact_nil | refine exact_cons (exact_cel _ _ _) ?_)) h hp ?_
    · intro x_4 x_5 s_7 K FL2 w R hx h hp hR
      replace h := h.unpack
      dsimp only [pickL, pickR, nthH, delH, dropH, List.cons_append, List.nil_append] at h
      refine calleeFn (by kernel_rfl) ?_
      refine advert_compare_ok h hp ?_
      intro r w h hp
      exact hR r s_7 _ (h.pack 0 [] rfl) hp
    rintro rs s_8 w hl_rs h hp
    replace h := h.pick [1]
    dsimp only [pickL, pickR, nthH, delH, dropH, List.cons_append, List.nil_append] at h
    replace h := h.unpack
    dsimp only [pickL, pickR, nthH, delH, dropH, List.cons_append, List.nil_append] at h
    refine ⟨rfl, ?_⟩
    refine ⟨_, _, _, cellL h 1 0 rfl rfl rfl, ?_⟩
    refine slices_Values_sl_api_Place_api_Place_ok (FL := row enc36 36 4 p_2 c_1 rs :: cel b_5 48 [(Value.slice p_2 x_1.length c_1)] :: cel b_4 73 [(Value.func ff2 fa2 fc2)] :: cel b_3 3 [(Value.int .i64 now)] :: cel b_2 56 [(Value.map (some b_1))] :: marksP m_1 :: A2 s_2 :: FL) (fun w h => (rowRd h 0 encL36 rfl)) hl_rs cpp_2 h hp ?_
    intro b_9 w h hp
    refine ⟨_, _, _, rfl, ?_⟩
    replace h := h.pick [6]
    dsimp only [pickL, pickR, nthH, delH, dropH, List.cons_append, List.nil_append] at h
    refine finishMarks _ h ?_
    intro w h
    replace h := h.sel [0, 0, 4] 4
    dsimp only [pickL, pickR, nthH, delH, dropH, List.cons_append, List.nil_append] at h
    exact hR rs s_2 b_9 p_2 x_1.length c_1 _ hl_rs h hp
  clear hq
  refine ⟨_, cellL h 3 0 rfl rfl rfl, ?_⟩
  refine maps_Keys_map_api_Place_int_api_Place_int_ok (FL := cel b_5 48 [(Value.slice none 0 0)] :: cel b_4 73 [(Value.func ff2 fa2 fc2)] :: cel b_3 3 [(Value.int .i64 now)] :: cel b_2 56 [(Value.map (some b_1))] :: marksP [] :: A2 s :: FL) (hM_all.mono (fun w h => (h.drop 6))) h hp ?_
  intro b_6 w h hp
  refine ⟨_, _, _, rfl, ?_⟩
  intro e_1 fn_e_1 he_e_1 hr_e_1
  refine newO h ?_
  intro d w h
  refine newO h ?_
  intro l_1 w h
  replace h := h.pick [1, 6]
  dsimp only [pickL, pickR, nthH, delH, dropH, List.cons_append, List.nil_append] at h
  replace h := marksPush h
  show rangeCallW _ (Value.func (Fn.func 54) _ _) _ _ _
  refine rangeCallFn (by kernel_rfl) ?_
  replace h := rowNil enc36 36 4 h
  replace h := h.pick [2, 0, 2, 2, 2, 2, 2]
  dsimp only [pickL, pickR, nthH, delH, dropH, List.cons_append, List.nil_append] at h
  replace h := h.pick [0, 1, 0, 0, 0, 0, 0]
  dsimp only [pickL, pickR, nthH, delH, dropH, List.cons_append, List.nil_append] at h
  replace h : Mem ((fun (s_3 : Nat × (List (Int × Int × Int × Bool)) × σ2) => exH fun (p_4 : Option Addr) => exH fun (c_2 : Nat) => HL [pt l_1 (loopS (advert_lasting_api_Place_lo1 fn_e_1 e_1 d) s_3.1 (fun (n : Nat) => (none : Option Code))), cel b_5 48 [(Value.slice p_4 s_3.2.1.length c_2)], row enc36 36 4 p_4 c_2 s_3.2.1, cel b_4 73 [(Value.func ff2 fa2 fc2)], cel b_3 3 [(Value.int .i64 now)], cel b_2 56 [(Value.map (some b_1))], A2 s_3.2.2]) (0, ([] : List (Int × Int × Int × Bool)), s) :: marksP (d :: []) :: cel b_6 56 [(Value.map (some b_1))] :: FL) _ := Mem.exsI (none ) (Mem.exsI 0 (h.pack 7 [pt l_1 (loopS (advert_lasting_api_Place_lo1 fn_e_1 e_1 d) 0 (fun (n : Nat) => (none : Option Code))), cel b_5 48 [(Value.slice none  0 0)], row enc36 36 4 (none ) 0 ([] : List (Int × Int × Int × Bool)), cel b_4 73 [(Value.func ff2 fa2 fc2)], cel b_3 3 [(Value.int .i64 now)], cel b_2 56 [(Value.map (some b_1))], A2 s] rfl))
  replace h := h.pick [2, 0]
  dsimp only [pickL, pickR, nthH, delH, dropH, List.cons_append, List.nil_append] at h
  refine maps_Keys_map_api_Place_int_api_Place_int__c1_ok (FL := marksP (d :: []) :: FL) (A0 := (fun (s_3 : Nat × (List (Int × Int × Int × Bool)) × σ2) => exH fun (p_4 : Option Addr) => exH fun (c_2 : Nat) => HL [pt l_1 (loopS (advert_lasting_api_Place_lo1 fn_e_1 e_1 d) s_3.1 (fun (n : Nat) => (none : Option Code))), cel b_5 48 [(Value.slice p_4 s_3.2.1.length c_2)], row enc36 36 4 p_4 c_2 s_3.2.1, cel b_4 73 [(Value.func ff2 fa2 fc2)], cel b_3 3 [(Value.int .i64 now)], cel b_2 56 [(Value.map (some b_1))], A2 s_3.2.2])) (Y0 := (fun x_3 (s_3 : Nat × (List (Int × Int × Int × Bool)) × σ2) K_1 => s_3.1 = 0 ∧ (cond (decide (((mapGet all x_3 0) : Int) > now)) (Y2 x_3 s_3.2.2 (fun (t20_0 : Int) (t20_1 : Int) (t20_2 : Int) (t20_3 : Bool) (s_5 : σ2) => (s_3.2.1.length + [(t20_0, t20_1, t20_2, t20_3)].length) * 32 ≤ 140737488355328 ∧ (K_1 true (0, (s_3.2.1 ++ [(t20_0, t20_1, t20_2, t20_3)]), s_5)))) (K_1 true (0, s_3.2.1, s_3.2.2))))) (σ0 := Nat × (List (Int × Int × Int × Bool)) × σ2) (s := (0, ([] : List (Int × Int × Int × Bool)), s)) ?_ (hM_all.mono (fun w h => (h.drop 1))) h hp ?_
  · intro x_3 s_3 K_1 FL2 w R hx h hp hR
    obtain ⟨p_4, h⟩ := Mem.exs h
    obtain ⟨c_2, h⟩ := Mem.exs h
    replace h := h.unpack
    dsimp only [pickL, pickR, nthH, delH, dropH, List.cons_append, List.nil_append] at h
    obtain ⟨hst, hp⟩ := hp
    refine advert_lasting_api_Place_r1_yield (by have := objAt h 0 rfl; rw [hst] at this; exact this) he_e_1 hr_e_1 ?_
    unfold advert_lasting_api_Place_r1
    have hMx_MP_0 := RoM.mono hM_all (fun w h_ => (by first | exact hx w h_ | exact Mem.drop 1 (hx w h_) | exact Mem.drop 2 (hx w h_) | exact Mem.drop 3 (hx w h_) | exact Mem.drop 4 (hx w h_) | exact Mem.drop 5 (hx w h_) | exact Mem.drop 6 (hx w h_) | exact Mem.drop 7 (hx w h_) | exact Mem.drop 8 (hx w h_) | exact Mem.drop 9 (hx w h_) | exact Mem.drop 10 (hx w h_) | exact Mem.drop 11 (hx w h_) | exact Mem.drop 12 (hx w h_) | exact Mem.drop 13 (hx w h_)))
    have cpp_4 := rowCap h 2 rfl
    refine newL (o := [(Value.int .u32 0), (Value.int .i64 0), (Value.int .i64 0), (Value.bool false)]) h ?_
    intro b_7 w h
    refine storeL (ys := [(Value.int .u32 x_3.1), (Value.int .i64 x_3.2.1), (Value.int .i64 x_3.2.2.1), (Value.bool x_3.2.2.2)]) h 0 0 rfl rfl rfl sz36 rfl rfl ?_
    intro w h
    dsimp only [setH, setVs, setV] at h
    refine ⟨_, (by have := objAt h 1 rfl; rw [hst] at this; exact this : _ = some (Obj.loop (advert_lasting_api_Place_lo1 fn_e_1 e_1 d))), rfl, ?_⟩
    replace h := h.putK 1 rfl (.loop { advert_lasting_api_Place_lo1 fn_e_1 e_1 d with state := .busy })
    dsimp only [setH] at h
    replace h := h.drew
    refine ⟨_, cellL h 6 0 rfl rfl rfl, ?_⟩
    refine ⟨_, cellL h 0 0 rfl rfl rfl, _, cellL h 0 1 rfl rfl rfl, _, cellL h 0 2 rfl rfl rfl, _, cellL h 0 3 rfl rfl rfl, ?_⟩
    refine lookW (k := x_3) (d := 0) (hMx_MP_0.map (h.drop 8)) mu56 kt36 (fun w => run_zeroValue zr3) ?_
    refine ⟨_, rfl, ?_⟩
    refine ⟨rfl, ?_⟩
    refine ⟨_, cellL h 5 0 rfl rfl rfl, ?_⟩
    refine cond_both' hp (fun hp => ?_) (fun hp => ?_)
    · refine ⟨_, objAt h 1 rfl, ?_⟩
      replace h := h.putK 1 rfl (loopS (advert_lasting_api_Place_lo1 fn_e_1 e_1 d) 0 (fun (n : Nat) => (none : Option Code)))
      dsimp only [setH] at h
      replace h := h.pick [1]
      dsimp only [pickL, pickR, nthH, delH, dropH, List.cons_append, List.nil_append] at h
      replace h := h.sel [0, 1, 1, 1, 1, 1, 1] 1
      dsimp only [pickL, pickR, nthH, delH, dropH, List.cons_append, List.nil_append] at h
      exact hR true (0, s_3.2.1, s_3.2.2) _ (Mem.exsI p_4 (Mem.exsI c_2 (h.pack 7 [pt l_1 (loopS (advert_lasting_api_Place_lo1 fn_e_1 e_1 d) 0 (fun (n : Nat) => (none : Option Code))), cel b_5 48 [(Value.slice p_4 s_3.2.1.length c_2)], row enc36 36 4 p_4 c_2 s_3.2.1, cel b_4 73 [(Value.func ff2 fa2 fc2)], cel b_3 3 [(Value.int .i64 now)], cel b_2 56 [(Value.map (some b_1))], A2 s_3.2.2] rfl))) hp
    replace h := h.drew
    refine ⟨fun w => Mem (cel b_5 48 [(Value.slice p_4 s_3.2.1.length c_2)] :: FL2) w, (h.sel [2] 7), ?_⟩
    refine ⟨_, _, _, cellL h 2 0 rfl rfl rfl, ?_⟩
    refine ⟨?_, ?_⟩
    · intro w h
      change Mem _ _ at h
      refine ⟨_, _, _, cellL h 0 0 rfl rfl rfl, ?_⟩
      exact ⟨rfl, rfl⟩
    refine ⟨_, cellL h 4 0 rfl rfl rfl, ?_⟩
    refine ⟨_, cellL h 0 0 rfl rfl rfl, _, cellL h 0 1 rfl rfl rfl, _, cellL h 0 2 rfl rfl rfl, _, cellL h 0 3 rfl rfl rfl, ?_⟩
    replace h := h.pick [7]
    dsimp only [pickL, pickR, nthH, delH, dropH, List.cons_append, List.nil_append] at h
    refine hY2 x_3 _ _ (cel b_7 36 [(Value.int .u32 x_3.1), (Value.int .i64 x_3.2.1), (Value.int .i64 x_3.2.2.1), (Value.bool x_3.2.2.2)] :: pt l_1 (.loop { advert_lasting_api_Place_lo1 fn_e_1 e_1 d with state := .busy }) :: cel b_5 48 [(Value.slice p_4 s_3.2.1.length c_2)] :: row enc36 36 4 p_4 c_2 s_3.2.1 :: cel b_4 73 [(Value.func ff2 fa2 fc2)] :: cel b_3 3 [(Value.int .i64 now)] :: cel b_2 56 [(Value.map (some b_1))] :: FL2) _ _ (fun _ h => (by first | exact hx _ (h.drop 7) | exact Mem.drop 1 (hx _ (h.drop 7)) | exact Mem.drop 2 (hx _ (h.drop 7)) | exact Mem.drop 3 (hx _ (h.drop 7)) | exact Mem.drop 4 (hx _ (h.drop 7)) | exact Mem.drop 5 (hx _ (h.drop 7)) | exact Mem.drop 6 (hx _ (h.drop 7)) | exact Mem.drop 7 (hx _ (h.drop 7)) | exact Mem.drop 8 (hx _ (h.drop 7)))) h hp ?_
    intro t20_0 t20_1 t20_2 t20_3 s_5 w h hp
    refine ⟨_, _, _, _, rfl, ?_⟩
    refine ⟨(h.sel [3] 7), ?_⟩
    refine newL (o := [(Value.int .u32 t20_0), (Value.int .i64 t20_1), (Value.int .i64 t20_2), (Value.bool t20_3)]) h ?_
    intro b_8 w h
    refine ⟨(h.sel [4] 8), ?_⟩
    have sr := (celRd h 0 encL36 rfl [(t20_0, t20_1, t20_2, t20_3)] rfl)
    obtain ⟨hb, hp⟩ := hp
    refine appendL slt48 und48 encL36 encO36 h 5 rfl rfl sr rfl hb ?_
    intro p_5 c_3 w h
    dsimp only [setH, setVs, setV] at h
    have cpp_5 := rowCap h 5 rfl
    refine ⟨_, _, _, rfl, ?_⟩
    refine storeL (ys := [(Value.slice p_5 (s_3.2.1 ++ [(t20_0, t20_1, t20_2, t20_3)]).length c_3)]) h 4 0 rfl rfl rfl sz48 rfl rfl ?_
    intro w h
    dsimp only [setH, setVs, setV] at h
    refine ⟨_, objAt h 3 rfl, ?_⟩
    replace h := h.putK 3 rfl (loopS (advert_lasting_api_Place_lo1 fn_e_1 e_1 d) 0 (fun (n : Nat) => (none : Option Code)))
    dsimp only [setH] at h
    replace h := h.pick [3]
    dsimp only [pickL, pickR, nthH, delH, dropH, List.cons_append, List.nil_append] at h
    replace h := h.sel [0, 3, 3, 3, 3, 3, 1] 2
    dsimp only [pickL, pickR, nthH, delH, dropH, List.cons_append, List.nil_append] at h
    exact hR true (0, (s_3.2.1 ++ [(t20_0, t20_1, t20_2, t20_3)]), s_5) _ (Mem.exsI p_5 (Mem.exsI c_3 (h.pack 7 [pt l_1 (loopS (advert_lasting_api_Place_lo1 fn_e_1 e_1 d) 0 (fun (n : Nat) => (none : Option Code))), cel b_5 48 [(Value.slice p_5 (s_3.2.1 ++ [(t20_0, t20_1, t20_2, t20_3)]).length c_3)], row enc36 36 4 p_5 c_3 (s_3.2.1 ++ [(t20_0, t20_1, t20_2, t20_3)]), cel b_4 73 [(Value.func ff2 fa2 fc2)], cel b_3 3 [(Value.int .i64 now)], cel b_2 56 [(Value.map (some b_1))], A2 s_5] rfl))) hp
  intro s_6 w h hp
  replace h := h.pick [1]
  dsimp only [pickL, pickR, nthH, delH, dropH, List.cons_append, List.nil_append] at h
  obtain ⟨p_6, h⟩ := Mem.exs h
  obtain ⟨c_4, h⟩ := Mem.exs h
  replace h := h.unpack
  dsimp only [pickL, pickR, nthH, delH, dropH, List.cons_append, List.nil_append] at h
  have cpp_6 := rowCap h 2 rfl
  refine ⟨_, objAt h 0 rfl, loopS_ns _, ?_⟩
  replace h := h.putK 0 rfl (.loop { advert_lasting_api_Place_lo1 fn_e_1 e_1 d with state := .exhausted, pending := (fun (n : Nat) => (none : Option Code)) s_6.1 })
  dsimp only [setH] at h
  obtain ⟨hst, hp⟩ := hp
  refine ⟨congrArg (fun (n : Nat) => (none : Option Code)) hst, ?_⟩
  replace h := h.sel [1, 1, 1, 1, 1, 3, 1] 2
  dsimp only [pickL, pickR, nthH, delH, dropH, List.cons_append, List.nil_append] at h
  exact ⟨s_6.2.1, p_6, s_6.2.1.length, c_4, s_6.2.2, rfl, rfl, hp, h⟩

/-! (*embrasure/advert.Advert).Told$2 (36) -/
def advert_Advert_Told_c2_wp (p_Addr : Int) (p_Addr_1 : Int) (p_ID : Int) (p_Via : Bool) (K : Int → Int → Int → Bool → Prop) : Prop :=
  K p_Addr p_Addr_1 p_ID p_Via
theorem advert_Advert_Told_c2_ok {p_Addr : Int} {p_Addr_1 : Int} {p_ID : Int} {p_Via : Bool} {FL : List HP} {w : World} {K : Int → Int → Int → Bool → Prop} {R : Value → World → Prop}
  (h : Mem (FL) w) (hp : advert_Advert_Told_c2_wp p_Addr p_Addr_1 p_ID p_Via K)
  (hR : ∀ (r : Int) (r_1 : Int) (r_2 : Int) (r_3 : Bool) (w : World), Mem (FL) w → K r r_1 r_2 r_3 → R (Value.agg #[(Value.int .u32 r), (Value.int .i64 r_1), (Value.int .i64 r_2), (Value.bool r_3)]) w) :
  CallV Try.prog 36 #[(Value.agg #[(Value.int .u32 p_Addr), (Value.int .i64 p_Addr_1), (Value.int .i64 p_ID), (Value.bool p_Via)])] w R := by
  refine advert_Advert_Told_c2_call ?_
  unfold advert_Advert_Told_c2
  unfold advert_Advert_Told_c2_wp at hp
  refine newL (o := [(Value.int .u32 p_Addr), (Value.int .i64 p_Addr_1), (Value.int .i64 p_ID), (Value.bool p_Via)]) h ?_
  intro b_1 w h
  refine newL (o := [(Value.int .u32 0), (Value.int .i64 0), (Value.int .i64 0), (Value.bool false)]) h ?_
  intro b_2 w h
  refine ⟨_, cellL h 1 0 rfl rfl rfl, _, cellL h 1 1 rfl rfl rfl, _, cellL h 1 2 rfl rfl rfl, _, cellL h 1 3 rfl rfl rfl, ?_⟩
  refine storeL (ys := [(Value.int .u32 p_Addr), (Value.int .i64 p_Addr_1), (Value.int .i64 p_ID), (Value.bool p_Via)]) h 0 0 rfl rfl rfl sz36 rfl rfl ?_
  intro w h
  dsimp only [setH, setVs, setV] at h
  refine ⟨_, cellL h 0 0 rfl rfl rfl, _, cellL h 0 1 rfl rfl rfl, _, cellL h 0 2 rfl rfl rfl, _, cellL h 0 3 rfl rfl rfl, ?_⟩
  replace h := h.sel [] 2
  dsimp only [pickL, pickR, nthH, delH, dropH, List.cons_append, List.nil_append] at h
  exact hR p_Addr p_Addr_1 p_ID p_Via _ h hp

/-! slices.Index[[]embrasure/api.Place,embrasure/api.Place] (46) -/
def slices_Index_sl_api_Place_api_Place_wp (s : List (Int × Int × Int × Bool)) (v_Addr : Int) (v_Addr_1 : Int) (v_ID : Int) (v_Via : Bool) (K : Int → Prop) : Prop :=
  ∃ (I : Nat → Int → Prop), (∃ (n_4 : Nat), I n_4 0) ∧ ∀ (n_2 : Nat) (t8 : Int), I n_2 t8 → (cond (decide ((t8 : Int) < ((s.length : Nat) : Int))) (0 ≤ (t8 : Int) ∧ (t8 : Int) < ((s.length : Nat) : Int) ∧ (∀ (x_1 : Int × Int × Int × Bool), s[Int.toNat t8]? = some x_1 → (cond ((((v_Addr : Int) == x_1.1) && (((v_Addr_1 : Int) == x_1.2.1) && true)) && (((v_ID : Int) == x_1.2.2.1) && ((v_Via == x_1.2.2.2) && true))) (K t8) (∃ (n_3 : Nat), n_3 < n_2 ∧ I n_3 (IntKind.wrap .i64 (t8 + 1)))))) (K (-1)))
theorem slices_Index_sl_api_Place_api_Place_ok {p_1 : Option Addr} {n_1 : Nat} {c_1 : Nat} {s : List (Int × Int × Int × Bool)} {v_Addr : Int} {v_Addr_1 : Int} {v_ID : Int} {v_Via : Bool} {FL : List HP} {w : World} {K : Int → Prop} {R : Value → World → Prop}
  (hF_s : ∀ w, Mem FL w → Rd w 4 p_1 enc36 s) (hl_s : n_1 = s.length) (hc_s : n_1 ≤ c_1)
  (h : Mem (FL) w) (hp : slices_Index_sl_api_Place_api_Place_wp s v_Addr v_Addr_1 v_ID v_Via K)
  (hR : ∀ (r : Int) (w : World), Mem (FL) w → K r → R (Value.int .i64 r) w) :
  CallV Try.prog 46 #[(Value.slice p_1 n_1 c_1), (Value.agg #[(Value.int .u32 v_Addr), (Value.int .i64 v_Addr_1), (Value.int .i64 v_ID), (Value.bool v_Via)])] w R := by
  refine slices_Index_sl_api_Place_api_Place_call ?_
  unfold slices_Index_sl_api_Place_api_Place
  unfold slices_Index_sl_api_Place_api_Place_wp at hp
  subst hl_s
  refine newL (o := [(Value.int .u32 v_Addr), (Value.int .i64 v_Addr_1), (Value.int .i64 v_ID), (Value.bool v_Via)]) h ?_
  intro b_1 w h
  obtain ⟨I, ⟨n_4, h0⟩, hq⟩ := hp
  refine ⟨fun n_2 s0p s0l s0c v3 t7 t8 w => p_1 = s0p ∧ s.length = s0l ∧ c_1 = s0c ∧ (Addr.mk b_1 0 none) = v3 ∧ ((s.length : Nat) : Int) = t7 ∧ I n_2 t8 ∧ Mem (cel b_1 36 [(Value.int .u32 v_Addr), (Value.int .i64 v_Addr_1), (Value.int .i64 v_ID), (Value.bool v_Via)] :: FL) w, ⟨n_4, rfl, rfl, rfl, rfl, rfl, h0, h⟩, ?_⟩
  clear h0 h
  rintro n_2 s0p s0l s0c v3 t7 t8 w ⟨rfl, rfl, rfl, rfl, rfl, hp, h⟩
  replace hp := hq n_2 t8 hp
  clear hq
  unfold slices_Index_sl_api_Place_api_Place_l1
  refine cond_both' hp (fun hp => ?_) (fun hp => ?_)
  · replace h := h.sel [] 1
    dsimp only [pickL, pickR, nthH, delH, dropH, List.cons_append, List.nil_append] at h
    exact hR (-1) _ h hp
  replace h := h.drew
  refine ⟨_, cellL h 0 0 rfl rfl rfl, _, cellL h 0 1 rfl rfl rfl, _, cellL h 0 2 rfl rfl rfl, _, cellL h 0 3 rfl rfl rfl, ?_⟩
  obtain ⟨ia_1, ja_1, hp⟩ := hp
  obtain ⟨a_1, ha_1⟩ := rdAddr (hF_s _ (h.drop 1)) rfl ia_1 ja_1
  refine ⟨a_1, ha_1, ia_1, ja_1, ?_⟩
  obtain ⟨x_1, hx_1, hc⟩ := rdCell (hF_s _ (h.drop 1)) ha_1 rfl ia_1 ja_1
  replace hp := hp x_1 hx_1
  refine ⟨_, hc 0 _ rfl, _, hc 1 _ rfl, _, hc 2 _ rfl, _, hc 3 _ rfl, ?_⟩
  refine eqlAgg (xs := [(Value.int .u32 v_Addr), (Value.int .i64 v_Addr_1), (Value.int .i64 v_ID), (Value.bool v_Via)]) (ys := [(Value.int .u32 x_1.1), (Value.int .i64 x_1.2.1), (Value.int .i64 x_1.2.2.1), (Value.bool x_1.2.2.2)]) eqG36 eqA36 (eqT36 v_Addr v_Addr_1 v_ID v_Via x_1.1 x_1.2.1 x_1.2.2.1 x_1.2.2.2) ?_
  refine ⟨_, rfl, ?_⟩
  refine ⟨rfl, ?_⟩
  refine cond_both' hp (fun hp => ?_) (fun hp => ?_)
  · obtain ⟨n_3, hn, hp⟩ := hp
    exact ⟨n_3, hn, rfl, rfl, rfl, rfl, rfl, hp, h⟩
  replace h := h.sel [] 1
  dsimp only [pickL, pickR, nthH, delH, dropH, List.cons_append, List.nil_append] at h
  exact hR t8 _ h hp

/-! slices.Contains[[]embrasure/api.Place,embrasure/api.Place] (37) -/
def slices_Contains_sl_api_Place_api_Place_wp (s : List (Int × Int × Int × Bool)) (v_Addr : Int) (v_Addr_1 : Int) (v_ID : Int) (v_Via : Bool) (K : Bool → Prop) : Prop :=
  slices_Index_sl_api_Place_api_Place_wp s v_Addr v_Addr_1 v_ID v_Via (fun (r : Int) => K (decide ((r : Int) ≥ 0)))
theorem slices_Contains_sl_api_Place_api_Place_ok {p_1 : Option Addr} {n_1 : Nat} {c_1 : Nat} {s : List (Int × Int × Int × Bool)} {v_Addr : Int} {v_Addr_1 : Int} {v_ID : Int} {v_Via : Bool} {FL : List HP} {w : World} {K : Bool → Prop} {R : Value → World → Prop}
  (hF_s : ∀ w, Mem FL w → Rd w 4 p_1 enc36 s) (hl_s : n_1 = s.length) (hc_s : n_1 ≤ c_1)
  (h : Mem (FL) w) (hp : slices_Contains_sl_api_Place_api_Place_wp s v_Addr v_Addr_1 v_ID v_Via K)
  (hR : ∀ (r : Bool) (w : World), Mem (FL) w → K r → R (Value.bool r) w) :
  CallV Try.prog 37 #[(Value.slice p_1 n_1 c_1), (Value.agg #[(Value.int .u32 v_Addr), (Value.int .i64 v_Addr_1), (Value.int .i64 v_ID), (Value.bool v_Via)])] w R := by
  refine slices_Contains_sl_api_Place_api_Place_call ?_
  unfold slices_Contains_sl_api_Place_api_Place
  unfold slices_Contains_sl_api_Place_api_Place_wp at hp
  subst hl_s
  refine newL (o := [(Value.int .u32 v_Addr), (Value.int .i64 v_Addr_1), (Value.int .i64 v_ID), (Value.bool v_Via)]) h ?_
  intro b_1 w h
  refine ⟨_, cellL h 0 0 rfl rfl rfl, _, cellL h 0 1 rfl rfl rfl, _, cellL h 0 2 rfl rfl rfl, _, cellL h 0 3 rfl rfl rfl, ?_⟩
  refine slices_Index_sl_api_Place_api_Place_ok (FL := cel b_1 36 [(Value.int .u32 v_Addr), (Value.int .i64 v_Addr_1), (Value.int .i64 v_ID), (Value.bool v_Via)] :: FL) (fun w h => (hF_s _ (h.drop 1))) rfl hc_s h hp ?_
  intro r w h hp
  refine ⟨_, rfl, ?_⟩
  replace h := h.sel [] 1
  dsimp only [pickL, pickR, nthH, delH, dropH, List.cons_append, List.nil_append] at h
  exact hR (decide ((r : Int) ≥ 0)) _ h hp

/-! (*embrasure/advert.Advert).Told (20) -/
def advert_Advert_Told_wp (own : List (Int × Int)) (mapped : List ((Int × Int) × Int)) (relays : List ((Int × Int × Int × Bool) × Int)) (now : Int) (seen : List (Int × Int)) (public_ : Bool) (K : List (Int × Int × Int × Bool) → Prop) : Prop :=
  advert_Advert_owned_wp mapped relays (advert_lasting_api_Addr_wp mapped now () (fun x_1 s K_1 => advert_Advert_Told_c1_wp x_1.1 x_1.2 (fun (r : Int) (r_1 : Int) (r_2 : Int) (r_3 : Bool) => K_1 r r_1 r_2 r_3 s)) (fun (x_2 : List (Int × Int × Int × Bool)) (s_1 : (Unit)) => advert_observed_wp seen public_ (fun (x_3 : Bool) => advert_lasting_api_Place_wp relays now () (fun x_4 s_2 K_2 => advert_Advert_Told_c2_wp x_4.1 x_4.2.1 x_4.2.2.1 x_4.2.2.2 (fun (r : Int) (r_1 : Int) (r_2 : Int) (r_3 : Bool) => K_2 r r_1 r_2 r_3 s_2)) (fun (x_5 : List (Int × Int × Int × Bool)) (s_3 : (Unit)) => joinP1 (fun (x_6 : List (Int × Int × Int × Bool)) => K x_6) (fun (Q : List (Int × Int × Int × Bool) → Prop) => ∃ (I : Nat → List (Int × Int × Int × Bool) → Int → Prop), (∃ (n_15 : Nat), I n_15 ([] : List (Int × Int × Int × Bool)) 0) ∧ ∀ (n_6 : Nat) (x_7 : List (Int × Int × Int × Bool)) (t34 : Int), I n_6 x_7 t34 → (cond (decide ((t34 : Int) < ((4 : Nat) : Int))) (0 ≤ (t34 : Int) ∧ (t34 : Int) < ((4 : Nat) : Int) ∧ (((t34 : Int) = 0 → (advert_Advert_owned_c1_wp (0, x_7) (fun x_9 (s_4 : Nat × (List (Int × Int × Int × Bool))) K_3 => s_4.1 = 0 ∧ (slices_Contains_sl_api_Place_api_Place_wp s_4.2 x_9.1 x_9.2.1 x_9.2.2.1 x_9.2.2.2 (fun (r : Bool) => cond r (K_3 true (0, s_4.2)) (cond ((((s_4.2.length : Nat) : Int) : Int) == 8) (K_3 false (1, s_4.2)) ((s_4.2.length + [x_9].length) * 32 ≤ 140737488355328 ∧ (K_3 true (0, (s_4.2 ++ [x_9])))))))) own mapped relays (fun (s_5 : (Nat × (List (Int × Int × Int × Bool)))) => (s_5.1 = 0 ∧ (∃ (n_8 : Nat), n_8 < n_6 ∧ I n_8 s_5.2 (IntKind.wrap .i64 (t34 + 1)))) ∨ (s_5.1 ≠ 0 ∧ (Q s_5.2))))) ∧ ((t34 : Int) = 1 → (slices_Values_sl_api_Place_api_Place__c1_wp (0, x_7) (fun x_11 (s_6 : Nat × (List (Int × Int × Int × Bool))) K_4 => s_6.1 = 0 ∧ (slices_Contains_sl_api_Place_api_Place_wp s_6.2 x_11.1 x_11.2.1 x_11.2.2.1 x_11.2.2.2 (fun (r_1 : Bool) => cond r_1 (K_4 true (0, s_6.2)) (cond ((((s_6.2.length : Nat) : Int) : Int) == 8) (K_4 false (1, s_6.2)) ((s_6.2.length + [x_11].length) * 32 ≤ 140737488355328 ∧ (K_4 true (0, (s_6.2 ++ [x_11])))))))) x_2 (fun (s_7 : (Nat × (List (Int × Int × Int × Bool)))) => (s_7.1 = 0 ∧ (∃ (n_10 : Nat), n_10 < n_6 ∧ I n_10 s_7.2 (IntKind.wrap .i64 (t34 + 1)))) ∨ (s_7.1 ≠ 0 ∧ (Q s_7.2))))) ∧ ((t34 : Int) = 2 → (advert_observed_c1_wp (0, x_7) (fun x_13 (s_8 : Nat × (List (Int × Int × Int × Bool))) K_5 => s_8.1 = 0 ∧ (slices_Contains_sl_api_Place_api_Place_wp s_8.2 x_13.1 x_13.2.1 x_13.2.2.1 x_13.2.2.2 (fun (r_2 : Bool) => cond r_2 (K_5 true (0, s_8.2)) (cond ((((s_8.2.length : Nat) : Int) : Int) == 8) (K_5 false (1, s_8.2)) ((s_8.2.length + [x_13].length) * 32 ≤ 140737488355328 ∧ (K_5 true (0, (s_8.2 ++ [x_13])))))))) seen x_3 (fun (s_9 : (Nat × (List (Int × Int × Int × Bool)))) => (s_9.1 = 0 ∧ (∃ (n_12 : Nat), n_12 < n_6 ∧ I n_12 s_9.2 (IntKind.wrap .i64 (t34 + 1)))) ∨ (s_9.1 ≠ 0 ∧ (Q s_9.2))))) ∧ ((t34 : Int) = 3 → (slices_Values_sl_api_Place_api_Place__c1_wp (0, x_7) (fun x_15 (s_10 : Nat × (List (Int × Int × Int × Bool))) K_6 => s_10.1 = 0 ∧ (slices_Contains_sl_api_Place_api_Place_wp s_10.2 x_15.1 x_15.2.1 x_15.2.2.1 x_15.2.2.2 (fun (r_3 : Bool) => cond r_3 (K_6 true (0, s_10.2)) (cond ((((s_10.2.length : Nat) : Int) : Int) == 8) (K_6 false (1, s_10.2)) ((s_10.2.length + [x_15].length) * 32 ≤ 140737488355328 ∧ (K_6 true (0, (s_10.2 ++ [x_15])))))))) x_5 (fun (s_11 : (Nat × (List (Int × Int × Int × Bool)))) => (s_11.1 = 0 ∧ (∃ (n_14 : Nat), n_14 < n_6 ∧ I n_14 s_11.2 (IntKind.wrap .i64 (t34 + 1)))) ∨ (s_11.1 ≠ 0 ∧ (Q s_11.2))))))) (Q x_7)))))))
theorem advert_Advert_Told_ok {b_1 : Nat} {p_1 : Option Addr} {c_1 : Nat} {b_2 : Nat} {p_2 : List MapEntry × Nat} {b_3 : Nat} {p_3 : List MapEntry × Nat} {p_4 : Option Addr} {n_1 : Nat} {c_2 : Nat} {own : List (Int × Int)} {mapped : List ((Int × Int) × Int)} {relays : List ((Int × Int × Int × Bool) × Int)} {now : Int} {seen : List (Int × Int)} {public_ : Bool} {FL : List HP} {w : World} {K : List (Int × Int × Int × Bool) → Prop} {R : Value → World → Prop}
  (hF_seen : ∀ w, Mem FL w → Rd w 2 p_4 enc34 seen) (hl_seen : n_1 = seen.length) (hc_seen : n_1 ≤ c_2)
  (hM_mapped : RoM FL b_2 va34 va3 p_2 mapped)
  (hM_relays : RoM FL b_3 va36 va3 p_3 relays)
  (h : Mem (cel b_1 58 [(Value.slice p_1 own.length c_1), (Value.map (some b_2)), (Value.map (some b_3))] :: row enc34 34 2 p_1 c_1 own :: FL) w) (hp : advert_Advert_Told_wp own mapped relays now seen public_ K)
  (hR : ∀ (rs : List (Int × Int × Int × Bool)) (p_5 : Option Addr) (n_2 : Nat) (c_3 : Nat) (w : World), n_2 = rs.length → Mem (row enc36 36 4 p_5 c_3 rs :: cel b_1 58 [(Value.slice p_1 own.length c_1), (Value.map (some b_2)), (Value.map (some b_3))] :: row enc34 34 2 p_1 c_1 own :: FL) w → K rs → R (Value.slice p_5 n_2 c_3) w) :
  CallV Try.prog 20 #[(Value.pointer (some (Addr.mk b_1 0 none))), (Value.int .i64 now), (Value.slice p_4 n_1 c_2), (Value.bool public_)] w R := by
  refine advert_Advert_Told_call ?_
  unfold advert_Advert_Told
  unfold advert_Advert_Told_wp at hp
  subst hl_seen
  have cpp_1 := rowCap h 1 rfl
  replace h := marksNil h
  refine newL (o := [(Value.slice none 0 0)]) h ?_
  intro b_4 w h
  replace h := h.drew
  refine ⟨fun w => Mem (cel b_1 58 [(Value.slice p_1 own.length c_1), (Value.map (some b_2)), (Value.map (some b_3))] :: FL) w, (h.sel [2] 3), ?_⟩
  refine ⟨_, rfl, ?_⟩
  refine ⟨_, cellL h 2 1 rfl rfl rfl, ?_⟩
  refine ⟨?_, ?_⟩
  · intro w h
    change Mem _ _ at h
    refine ⟨_, cellL h 0 1 rfl rfl rfl, ?_⟩
    exact ⟨rfl, rfl⟩
  refine ⟨_, rfl, ?_⟩
  refine ⟨_, cellL h 2 2 rfl rfl rfl, ?_⟩
  refine ⟨?_, ?_⟩
  · intro w h
    change Mem _ _ at h
    refine ⟨_, cellL h 0 2 rfl rfl rfl, ?_⟩
    exact ⟨rfl, rfl⟩
  replace h := h.pick [2]
  dsimp only [pickL, pickR, nthH, delH, dropH, List.cons_append, List.nil_append] at h
  refine advert_Advert_owned_ok (FL := cel b_4 48 [(Value.slice none 0 0)] :: marksP [] :: row enc34 34 2 p_1 c_1 own :: FL) (hM_mapped.mono (fun w h => (h.drop 3))) (hM_relays.mono (fun w h => (h.drop 3))) h hp ?_
  intro b_5 w h hp
  refine ⟨_, _, _, rfl, ?_⟩
  refine ⟨(h.sel [1] 4), ?_⟩
  replace h : Mem ((fun (_ : Unit) => HL []) () :: cel b_5 27 [(Value.pointer (some (Addr.mk b_1 0 none)))] :: cel b_1 58 [(Value.slice p_1 own.length c_1), (Value.map (some b_2)), (Value.map (some b_3))] :: cel b_4 48 [(Value.slice none 0 0)] :: marksP [] :: row enc34 34 2 p_1 c_1 own :: FL) _ := h.pack 0 [] rfl
  refine advert_lasting_api_Addr_ok (FL := cel b_5 27 [(Value.pointer (some (Addr.mk b_1 0 none)))] :: cel b_1 58 [(Value.slice p_1 own.length c_1), (Value.map (some b_2)), (Value.map (some b_3))] :: cel b_4 48 [(Value.slice none 0 0)] :: marksP [] :: row enc34 34 2 p_1 c_1 own :: FL) (A2 := (fun (_ : Unit) => HL [])) (Y2 := (fun x_1 s K_1 => advert_Advert_Told_c1_wp x_1.1 x_1.2 (fun (r : Int) (r_1 : Int) (r_2 : Int) (r_3 : Bool) => K_1 r r_1 r_2 r_3 s))) (σ2 := Unit) (s := ()) ?_ (hM_mapped.mono (fun w h => (h.drop 5))) h hp ?_
  · intro x_1 s K FL2 w R hx h hp hR
    replace h := h.unpack
    dsimp only [pickL, pickR, nthH, delH, dropH, List.cons_append, List.nil_append] at h
    refine calleeFn (by kernel_rfl) ?_
    refine advert_Advert_Told_c1_ok h hp ?_
    intro r r_1 r_2 r_3 w h hp
    exact hR r r_1 r_2 r_3 s _ (h.pack 0 [] rfl) hp
  rintro x_2 s_1 b_6 p_5 n_2 c_3 w rfl h hp
  have cpp_5 := rowCap h 1 rfl
  replace h := h.pick [2]
  dsimp only [pickL, pickR, nthH, delH, dropH, List.cons_append, List.nil_append] at h
  replace h := h.unpack
  dsimp only [pickL, pickR, nthH, delH, dropH, List.cons_append, List.nil_append] at h
  refine ⟨_, _, _, rfl, ?_⟩
  refine ⟨(h.sel [3] 6), ?_⟩
  refine advert_observed_ok (FL := cel b_6 48 [(Value.slice p_5 x_2.length c_3)] :: row enc36 36 4 p_5 c_3 x_2 :: cel b_5 27 [(Value.pointer (some (Addr.mk b_1 0 none)))] :: cel b_1 58 [(Value.slice p_1 own.length c_1), (Value.map (some b_2)), (Value.map (some b_3))] :: cel b_4 48 [(Value.slice none 0 0)] :: marksP [] :: row enc34 34 2 p_1 c_1 own :: FL) (fun w h => (hF_seen _ (h.drop 7))) rfl hc_seen h hp ?_
  intro x_3 b_7 b_8 w h hp
  refine ⟨_, _, _, rfl, ?_⟩
  refine ⟨(h.sel [5] 8), ?_⟩
  replace h : Mem ((fun (_ : Unit) => HL []) () :: cel b_7 26 [(Value.slice p_4 seen.length c_2)] :: cel b_8 4 [(Value.bool x_3)] :: cel b_6 48 [(Value.slice p_5 x_2.length c_3)] :: row enc36 36 4 p_5 c_3 x_2 :: cel b_5 27 [(Value.pointer (some (Addr.mk b_1 0 none)))] :: cel b_1 58 [(Value.slice p_1 own.length c_1), (Value.map (some b_2)), (Value.map (some b_3))] :: cel b_4 48 [(Value.slice none 0 0)] :: marksP [] :: row enc34 34 2 p_1 c_1 own :: FL) _ := h.pack 0 [] rfl
  refine advert_lasting_api_Place_ok (FL := cel b_7 26 [(Value.slice p_4 seen.length c_2)] :: cel b_8 4 [(Value.bool x_3)] :: cel b_6 48 [(Value.slice p_5 x_2.length c_3)] :: row enc36 36 4 p_5 c_3 x_2 :: cel b_5 27 [(Value.pointer (some (Addr.mk b_1 0 none)))] :: cel b_1 58 [(Value.slice p_1 own.length c_1), (Value.map (some b_2)), (Value.map (some b_3))] :: cel b_4 48 [(Value.slice none 0 0)] :: marksP [] :: row enc34 34 2 p_1 c_1 own :: FL) (A2 := (fun (_ : Unit) => HL [])) (Y2 := (fun x_4 s_2 K_2 => advert_Advert_Told_c2_wp x_4.1 x_4.2.1 x_4.2.2.1 x_4.2.2.2 (fun (r : Int) (r_1 : Int) (r_2 : Int) (r_3 : Bool) => K_2 r r_1 r_2 r_3 s_2))) (σ2 := Unit) (s := ()) ?_ (hM_relays.mono (fun w h => (h.drop 9))) h hp ?_
  · intro x_4 s_2 K FL2 w R hx h hp hR
    replace h := h.unpack
    dsimp only [pickL, pickR, nthH, delH, dropH, List.cons_append, List.nil_append] at h
    refine calleeFn (by kernel_rfl) ?_
    refine advert_Advert_Told_c2_ok h hp ?_
    intro r r_1 r_2 r_3 w h hp
    exact hR r r_1 r_2 r_3 s_2 _ (h.pack 0 [] rfl) hp
  rintro x_5 s_3 b_9 p_6 n_3 c_4 w rfl h hp
  have cpp_6 := rowCap h 1 rfl
  replace h := h.pick [2]
  dsimp only [pickL, pickR, nthH, delH, dropH, List.cons_append, List.nil_append] at h
  replace h := h.unpack
  dsimp only [pickL, pickR, nthH, delH, dropH, List.cons_append, List.nil_append] at h
  refine ⟨_, _, _, rfl, ?_⟩
  refine newL (o := [(Value.func (Fn.func 39) #[] #[(Value.pointer (some (Addr.mk b_5 0 none)))]), (Value.func (Fn.func 53) #[] #[(Value.pointer (some (Addr.mk b_6 0 none)))]), (Value.func (Fn.func 44) #[] #[(Value.pointer (some (Addr.mk b_7 0 none))), (Value.pointer (some (Addr.mk b_8 0 none)))]), (Value.func (Fn.func 53) #[] #[(Value.pointer (some (Addr.mk b_9 0 none)))])]) h ?_
  intro b_10 w h
  obtain ⟨Q, hq, hp⟩ := hp
  refine ⟨fun out9 m_1 w => ∃ (x_6 : List (Int × Int × Int × Bool)), ∃ (p_7 : Option Addr), ∃ (n_4 : Nat), ∃ (c_5 : Nat), (Addr.mk b_4 0 none) = out9 ∧ n_4 = x_6.length ∧ Q x_6 ∧ Mem (cel b_10 67 [(Value.func (Fn.func 39) #[] #[(Value.pointer (some (Addr.mk b_5 0 none)))]), (Value.func (Fn.func 53) #[] #[(Value.pointer (some (Addr.mk b_6 0 none)))]), (Value.func (Fn.func 44) #[] #[(Value.pointer (some (Addr.mk b_7 0 none))), (Value.pointer (some (Addr.mk b_8 0 none)))]), (Value.func (Fn.func 53) #[] #[(Value.pointer (some (Addr.mk b_9 0 none)))])] :: cel b_9 48 [(Value.slice p_6 x_5.length c_4)] :: row enc36 36 4 p_6 c_4 x_5 :: cel b_7 26 [(Value.slice p_4 seen.length c_2)] :: cel b_8 4 [(Value.bool x_3)] :: cel b_6 48 [(Value.slice p_5 x_2.length c_3)] :: row enc36 36 4 p_5 c_3 x_2 :: cel b_5 27 [(Value.pointer (some (Addr.mk b_1 0 none)))] :: cel b_1 58 [(Value.slice p_1 own.length c_1), (Value.map (some b_2)), (Value.map (some b_3))] :: row enc34 34 2 p_1 c_1 own :: cel b_4 48 [(Value.slice p_7 n_4 c_5)] :: row enc36 36 4 p_7 c_5 x_6 :: marksP m_1 :: FL) w, ?_, ?_⟩
  · rintro out9 m_1 w ⟨x_6, p_7, n_4, c_5, rfl, rfl, hp, h⟩
    replace hp := hq x_6 hp
    unfold advert_Advert_Told_j1
    have cpp_7 := rowCap h 11 rfl
    refine ⟨_, _, _, cellL h 10 0 rfl rfl rfl, ?_⟩
    replace h := h.pick [12]
    dsimp only [pickL, pickR, nthH, delH, dropH, List.cons_append, List.nil_append] at h
    refine finishMarks _ h ?_
    intro w h
    replace h := h.sel [11, 8, 8] 9
    dsimp only [pickL, pickR, nthH, delH, dropH, List.cons_append, List.nil_append] at h
    exact hR x_6 p_7 x_6.length c_5 _ rfl h hp
  clear hq
  obtain ⟨I, ⟨n_15, h0⟩, hq⟩ := hp
  replace h := rowNil enc36 36 4 h
  replace h := h.sel [1, 1, 1, 1, 1, 1, 1, 1, 1, 3, 1, 0, 0] 0
  dsimp only [pickL, pickR, nthH, delH, dropH, List.cons_append, List.nil_append] at h
  refine ⟨fun n_6 t8p t8l t8c out9_1 t32p t32l t32c t33 t34 m_2 w => ∃ (x_7 : List (Int × Int × Int × Bool)), ∃ (p_8 : Option Addr), ∃ (n_5 : Nat), ∃ (c_6 : Nat), none = t8p ∧ 0 = t8l ∧ 0 = t8c ∧ (Addr.mk b_4 0 none) = out9_1 ∧ (some ⟨b_10, 0, none⟩) = t32p ∧ 4 = t32l ∧ 4 = t32c ∧ ((4 : Nat) : Int) = t33 ∧ n_5 = x_7.length ∧ I n_6 x_7 t34 ∧ Mem (cel b_10 67 [(Value.func (Fn.func 39) #[] #[(Value.pointer (some (Addr.mk b_5 0 none)))]), (Value.func (Fn.func 53) #[] #[(Value.pointer (some (Addr.mk b_6 0 none)))]), (Value.func (Fn.func 44) #[] #[(Value.pointer (some (Addr.mk b_7 0 none))), (Value.pointer (some (Addr.mk b_8 0 none)))]), (Value.func (Fn.func 53) #[] #[(Value.pointer (some (Addr.mk b_9 0 none)))])] :: cel b_9 48 [(Value.slice p_6 x_5.length c_4)] :: row enc36 36 4 p_6 c_4 x_5 :: cel b_7 26 [(Value.slice p_4 seen.length c_2)] :: cel b_8 4 [(Value.bool x_3)] :: cel b_6 48 [(Value.slice p_5 x_2.length c_3)] :: row enc36 36 4 p_5 c_3 x_2 :: cel b_5 27 [(Value.pointer (some (Addr.mk b_1 0 none)))] :: cel b_1 58 [(Value.slice p_1 own.length c_1), (Value.map (some b_2)), (Value.map (some b_3))] :: row enc34 34 2 p_1 c_1 own :: cel b_4 48 [(Value.slice p_8 n_5 c_6)] :: row enc36 36 4 p_8 c_6 x_7 :: marksP m_2 :: FL) w, ⟨n_15, ([] : List (Int × Int × Int × Bool)), none , 0, 0, rfl, rfl, rfl, rfl, rfl, rfl, rfl, rfl, rfl, h0, h⟩, ?_⟩
  clear h0 h
  rintro n_6 t8p t8l t8c out9_1 t32p t32l t32c t33 t34 m_2 w ⟨x_7, p_8, n_5, c_6, rfl, rfl, rfl, rfl, rfl, rfl, rfl, rfl, rfl, hp, h⟩
  replace hp := hq n_6 x_7 t34 hp
  clear hq
  unfold advert_Advert_Told_l2
  have cpp_8 := rowCap h 11 rfl
  refine cond_both' hp (fun hp => ?_) (fun hp => ?_)
  · exact ⟨x_7, p_8, x_7.length, c_6, rfl, rfl, hp, h⟩
  obtain ⟨ia_1, ja_1, hp⟩ := hp
  refine ⟨_, rfl, ia_1, ja_1, ?_⟩
  rcases (by have := ia_1; have := ja_1; omega : (t34 : Int) = 0 ∨ (t34 : Int) = 1 ∨ (t34 : Int) = 2 ∨ (t34 : Int) = 3) with e_1 | e_1 | e_1 | e_1
  · replace hp := hp.1 e_1
    refine ⟨_, litCell0 h 0 rfl (m := 0) (j := 0) (congrArg Int.toNat e_1) rfl, ?_⟩
    intro e_2 fn_e_2 he_e_2 hr_e_2
    refine newO h ?_
    intro d w h
    refine newO h ?_
    intro l_1 w h
    replace h := h.pick [1, 13]
    dsimp only [pickL, pickR, nthH, delH, dropH, List.cons_append, List.nil_append] at h
    replace h := marksPush h
    show rangeCallW _ (Value.func (Fn.func 39) _ _) _ _ _
    refine rangeCallFn (by kernel_rfl) ?_
    replace h := h.pick [1, 1, 1, 1, 1, 1, 1, 1, 4, 4]
    dsimp only [pickL, pickR, nthH, delH, dropH, List.cons_append, List.nil_append] at h
    replace h : Mem ((fun (s_4 : Nat × (List (Int × Int × Int × Bool))) => exH fun (p_9 : Option Addr) => exH fun (c_7 : Nat) => HL [pt l_1 (loopS (advert_Advert_Told_lo1 fn_e_2 e_2 d) s_4.1 (fun (n : Nat) => ((if n = 0 then none else (some (.exit 0))) : Option Code))), cel b_10 67 [(Value.func (Fn.func 39) #[] #[(Value.pointer (some (Addr.mk b_5 0 none)))]), (Value.func (Fn.func 53) #[] #[(Value.pointer (some (Addr.mk b_6 0 none)))]), (Value.func (Fn.func 44) #[] #[(Value.pointer (some (Addr.mk b_7 0 none))), (Value.pointer (some (Addr.mk b_8 0 none)))]), (Value.func (Fn.func 53) #[] #[(Value.pointer (some (Addr.mk b_9 0 none)))])], cel b_9 48 [(Value.slice p_6 x_5.length c_4)], row enc36 36 4 p_6 c_4 x_5, cel b_7 26 [(Value.slice p_4 seen.length c_2)], cel b_8 4 [(Value.bool x_3)], cel b_6 48 [(Value.slice p_5 x_2.length c_3)], row enc36 36 4 p_5 c_3 x_2, cel b_4 48 [(Value.slice p_9 s_4.2.length c_7)], row enc36 36 4 p_9 c_7 s_4.2]) (0, x_7) :: marksP (d :: m_2) :: cel b_5 27 [(Value.pointer (some (Addr.mk b_1 0 none)))] :: cel b_1 58 [(Value.slice p_1 own.length c_1), (Value.map (some b_2)), (Value.map (some b_3))] :: row enc34 34 2 p_1 c_1 own :: FL) _ := Mem.exsI p_8 (Mem.exsI c_6 (h.pack 10 [pt l_1 (loopS (advert_Advert_Told_lo1 fn_e_2 e_2 d) 0 (fun (n : Nat) => ((if n = 0 then none else (some (.exit 0))) : Option Code))), cel b_10 67 [(Value.func (Fn.func 39) #[] #[(Value.pointer (some (Addr.mk b_5 0 none)))]), (Value.func (Fn.func 53) #[] #[(Value.pointer (some (Addr.mk b_6 0 none)))]), (Value.func (Fn.func 44) #[] #[(Value.pointer (some (Addr.mk b_7 0 none))), (Value.pointer (some (Addr.mk b_8 0 none)))]), (Value.func (Fn.func 53) #[] #[(Value.pointer (some (Addr.mk b_9 0 none)))])], cel b_9 48 [(Value.slice p_6 x_5.length c_4)], row enc36 36 4 p_6 c_4 x_5, cel b_7 26 [(Value.slice p_4 seen.length c_2)], cel b_8 4 [(Value.bool x_3)], cel b_6 48 [(Value.slice p_5 x_2.length c_3)], row enc36 36 4 p_5 c_3 x_2, cel b_4 48 [(Value.slice p_8 x_7.length c_6)], row enc36 36 4 p_8 c_6 x_7] rfl))
    replace h := h.pick [2, 2, 2, 0]
    dsimp only [pickL, pickR, nthH, delH, dropH, List.cons_append, List.nil_append] at h
    refine advert_Advert_owned_c1_ok (FL := marksP (d :: m_2) :: FL) (A0 := (fun (s_4 : Nat × (List (Int × Int × Int × Bool))) => exH fun (p_9 : Option Addr) => exH fun (c_7 : Nat) => HL [pt l_1 (loopS (advert_Advert_Told_lo1 fn_e_2 e_2 d) s_4.1 (fun (n : Nat) => ((if n = 0 then none else (some (.exit 0))) : Option Code))), cel b_10 67 [(Value.func (Fn.func 39) #[] #[(Value.pointer (some (Addr.mk b_5 0 none)))]), (Value.func (Fn.func 53) #[] #[(Value.pointer (some (Addr.mk b_6 0 none)))]), (Value.func (Fn.func 44) #[] #[(Value.pointer (some (Addr.mk b_7 0 none))), (Value.pointer (some (Addr.mk b_8 0 none)))]), (Value.func (Fn.func 53) #[] #[(Value.pointer (some (Addr.mk b_9 0 none)))])], cel b_9 48 [(Value.slice p_6 x_5.length c_4)], row enc36 36 4 p_6 c_4 x_5, cel b_7 26 [(Value.slice p_4 seen.length c_2)], cel b_8 4 [(Value.bool x_3)], cel b_6 48 [(Value.slice p_5 x_2.length c_3)], row enc36 36 4 p_5 c_3 x_2, cel b_4 48 [(Value.slice p_9 s_4.2.length c_7)], row enc36 36 4 p_9 c_7 s_4.2])) (Y0 := (fun x_9 (s_4 : Nat × (List (Int × Int × Int × Bool))) K_3 => s_4.1 = 0 ∧ (slices_Contains_sl_api_Place_api_Place_wp s_4.2 x_9.1 x_9.2.1 x_9.2.2.1 x_9.2.2.2 (fun (r : Bool) => cond r (K_3 true (0, s_4.2)) (cond ((((s_4.2.length : Nat) : Int) : Int) == 8) (K_3 false (1, s_4.2)) ((s_4.2.length + [x_9].length) * 32 ≤ 140737488355328 ∧ (K_3 true (0, (s_4.2 ++ [x_9]))))))))) (σ0 := Nat × (List (Int × Int × Int × Bool))) (s := (0, x_7)) ?_ (hM_mapped.mono (fun w h => (h.drop 1))) (hM_relays.mono (fun w h => (h.drop 1))) h hp ?_
    · intro x_9 s_4 K_3 FL2 w R hx h hp hR
      obtain ⟨p_9, h⟩ := Mem.exs h
      obtain ⟨c_7, h⟩ := Mem.exs h
      replace h := h.unpack
      dsimp only [pickL, pickR, nthH, delH, dropH, List.cons_append, List.nil_append] at h
      obtain ⟨hst, hp⟩ := hp
      refine advert_Advert_Told_r1_yield (by have := objAt h 0 rfl; rw [hst] at this; exact this) he_e_2 hr_e_2 ?_
      unfold advert_Advert_Told_r1
      have hMx_M_k1_1 := RoM.mono hM_mapped (fun w h_ => (by first | exact hx w h_ | exact Mem.drop 1 (hx w h_) | exact Mem.drop 2 (hx w h_) | exact Mem.drop 3 (hx w h_) | exact Mem.drop 4 (hx w h_) | exact Mem.drop 5 (hx w h_) | exact Mem.drop 6 (hx w h_) | exact Mem.drop 7 (hx w h_) | exact Mem.drop 8 (hx w h_) | exact Mem.drop 9 (hx w h_) | exact Mem.drop 10 (hx w h_) | exact Mem.drop 11 (hx w h_) | exact Mem.drop 12 (hx w h_) | exact Mem.drop 13 (hx w h_)))
      have hMx_M_k1_2 := RoM.mono hM_relays (fun w h_ => (by first | exact hx w h_ | exact Mem.drop 1 (hx w h_) | exact Mem.drop 2 (hx w h_) | exact Mem.drop 3 (hx w h_) | exact Mem.drop 4 (hx w h_) | exact Mem.drop 5 (hx w h_) | exact Mem.drop 6 (hx w h_) | exact Mem.drop 7 (hx w h_) | exact Mem.drop 8 (hx w h_) | exact Mem.drop 9 (hx w h_) | exact Mem.drop 10 (hx w h_) | exact Mem.drop 11 (hx w h_) | exact Mem.drop 12 (hx w h_) | exact Mem.drop 13 (hx w h_)))
      have cpp_9 := rowCap h 9 rfl
      refine newL (o := [(Value.int .u32 0), (Value.int .i64 0), (Value.int .i64 0), (Value.bool false)]) h ?_
      intro b_11 w h
      refine storeL (ys := [(Value.int .u32 x_9.1), (Value.int .i64 x_9.2.1), (Value.int .i64 x_9.2.2.1), (Value.bool x_9.2.2.2)]) h 0 0 rfl rfl rfl sz36 rfl rfl ?_
      intro w h
      dsimp only [setH, setVs, setV] at h
      refine ⟨_, (by have := objAt h 1 rfl; rw [hst] at this; exact this : _ = some (Obj.loop (advert_Advert_Told_lo1 fn_e_2 e_2 d))), rfl, ?_⟩
      replace h := h.putK 1 rfl (.loop { advert_Advert_Told_lo1 fn_e_2 e_2 d with state := .busy })
      dsimp only [setH] at h
      refine ⟨_, _, _, cellL h 9 0 rfl rfl rfl, ?_⟩
      refine ⟨_, cellL h 0 0 rfl rfl rfl, _, cellL h 0 1 rfl rfl rfl, _, cellL h 0 2 rfl rfl rfl, _, cellL h 0 3 rfl rfl rfl, ?_⟩
      refine slices_Contains_sl_api_Place_api_Place_ok (FL := cel b_11 36 [(Value.int .u32 x_9.1), (Value.int .i64 x_9.2.1), (Value.int .i64 x_9.2.2.1), (Value.bool x_9.2.2.2)] :: pt l_1 (.loop { advert_Advert_Told_lo1 fn_e_2 e_2 d with state := .busy }) :: cel b_10 67 [(Value.func (Fn.func 39) #[] #[(Value.pointer (some (Addr.mk b_5 0 none)))]), (Value.func (Fn.func 53) #[] #[(Value.pointer (some (Addr.mk b_6 0 none)))]), (Value.func (Fn.func 44) #[] #[(Value.pointer (some (Addr.mk b_7 0 none))), (Value.pointer (some (Addr.mk b_8 0 none)))]), (Value.func (Fn.func 53) #[] #[(Value.pointer (some (Addr.mk b_9 0 none)))])] :: cel b_9 48 [(Value.slice p_6 x_5.length c_4)] :: row enc36 36 4 p_6 c_4 x_5 :: cel b_7 26 [(Value.slice p_4 seen.length c_2)] :: cel b_8 4 [(Value.bool x_3)] :: cel b_6 48 [(Value.slice p_5 x_2.length c_3)] :: row enc36 36 4 p_5 c_3 x_2 :: cel b_4 48 [(Value.slice p_9 s_4.2.length c_7)] :: row enc36 36 4 p_9 c_7 s_4.2 :: FL2) (fun w h => (rowRd h 10 encL36 rfl)) rfl cpp_9 h hp ?_
      intro r w h hp
      refine ⟨_, rfl, ?_⟩
      refine cond_both hp (fun hp => ?_) (fun hp => ?_)
      · refine ⟨_, objAt h 1 rfl, ?_⟩
        replace h := h.putK 1 rfl (loopS (advert_Advert_Told_lo1 fn_e_2 e_2 d) 0 (fun (n : Nat) => ((if n = 0 then none else (some (.exit 0))) : Option Code)))
        dsimp only [setH] at h
        replace h := h.pick [1]
        dsimp only [pickL, pickR, nthH, delH, dropH, List.cons_append, List.nil_append] at h
        replace h := h.sel [0, 1, 1, 1, 1, 1, 1, 1, 1, 1] 1
        dsimp only [pickL, pickR, nthH, delH, dropH, List.cons_append, List.nil_append] at h
        exact hR true (0, s_4.2) _ (Mem.exsI p_9 (Mem.exsI c_7 (h.pack 10 [pt l_1 (loopS (advert_Advert_Told_lo1 fn_e_2 e_2 d) 0 (fun (n : Nat) => ((if n = 0 then none else (some (.exit 0))) : Option Code))), cel b_10 67 [(Value.func (Fn.func 39) #[] #[(Value.pointer (some (Addr.mk b_5 0 none)))]), (Value.func (Fn.func 53) #[] #[(Value.pointer (some (Addr.mk b_6 0 none)))]), (Value.func (Fn.func 44) #[] #[(Value.pointer (some (Addr.mk b_7 0 none))), (Value.pointer (some (Addr.mk b_8 0 none)))]), (Value.func (Fn.func 53) #[] #[(Value.pointer (some (Addr.mk b_9 0 none)))])], cel b_9 48 [(Value.slice p_6 x_5.length c_4)], row enc36 36 4 p_6 c_4 x_5, cel b_7 26 [(Value.slice p_4 seen.length c_2)], cel b_8 4 [(Value.bool x_3)], cel b_6 48 [(Value.slice p_5 x_2.length c_3)], row enc36 36 4 p_5 c_3 x_2, cel b_4 48 [(Value.slice p_9 s_4.2.length c_7)], row enc36 36 4 p_9 c_7 s_4.2] rfl))) hp
      refine ⟨_, _, _, cellL h 9 0 rfl rfl rfl, ?_⟩
      refine cond_both hp (fun hp => ?_) (fun hp => ?_)
      · refine ⟨_, objAt h 1 rfl, ?_⟩
        replace h := h.putK 1 rfl (loopS (advert_Advert_Told_lo1 fn_e_2 e_2 d) 1 (fun (n : Nat) => ((if n = 0 then none else (some (.exit 0))) : Option Code)))
        dsimp only [setH] at h
        replace h := h.pick [1]
        dsimp only [pickL, pickR, nthH, delH, dropH, List.cons_append, List.nil_append] at h
        replace h := h.sel [0, 1, 1, 1, 1, 1, 1, 1, 1, 1] 1
        dsimp only [pickL, pickR, nthH, delH, dropH, List.cons_append, List.nil_append] at h
        exact hR false (1, s_4.2) _ (Mem.exsI p_9 (Mem.exsI c_7 (h.pack 10 [pt l_1 (loopS (advert_Advert_Told_lo1 fn_e_2 e_2 d) 1 (fun (n : Nat) => ((if n = 0 then none else (some (.exit 0))) : Option Code))), cel b_10 67 [(Value.func (Fn.func 39) #[] #[(Value.pointer (some (Addr.mk b_5 0 none)))]), (Value.func (Fn.func 53) #[] #[(Value.pointer (some (Addr.mk b_6 0 none)))]), (Value.func (Fn.func 44) #[] #[(Value.pointer (some (Addr.mk b_7 0 none))), (Value.pointer (some (Addr.mk b_8 0 none)))]), (Value.func (Fn.func 53) #[] #[(Value.pointer (some (Addr.mk b_9 0 none)))])], cel b_9 48 [(Value.slice p_6 x_5.length c_4)], row enc36 36 4 p_6 c_4 x_5, cel b_7 26 [(Value.slice p_4 seen.length c_2)], cel b_8 4 [(Value.bool x_3)], cel b_6 48 [(Value.slice p_5 x_2.length c_3)], row enc36 36 4 p_5 c_3 x_2, cel b_4 48 [(Value.slice p_9 s_4.2.length c_7)], row enc36 36 4 p_9 c_7 s_4.2] rfl))) hp
      refine ⟨_, _, _, cellL h 9 0 rfl rfl rfl, ?_⟩
      refine ⟨_, cellL h 0 0 rfl rfl rfl, _, cellL h 0 1 rfl rfl rfl, _, cellL h 0 2 rfl rfl rfl, _, cellL h 0 3 rfl rfl rfl, ?_⟩
      refine newL (o := [(Value.int .u32 x_9.1), (Value.int .i64 x_9.2.1), (Value.int .i64 x_9.2.2.1), (Value.bool x_9.2.2.2)]) h ?_
      intro b_12 w h
      have sr := (celRd h 0 encL36 rfl [x_9] rfl)
      obtain ⟨hb, hp⟩ := hp
      refine appendL slt48 und48 encL36 encO36 h 11 rfl rfl sr rfl hb ?_
      intro p_10 c_8 w h
      dsimp only [setH, setVs, setV] at h
      have cpp_10 := rowCap h 11 rfl
      refine ⟨_, _, _, rfl, ?_⟩
      refine storeL (ys := [(Value.slice p_10 (s_4.2 ++ [x_9]).length c_8)]) h 10 0 rfl rfl rfl sz48 rfl rfl ?_
      intro w h
      dsimp only [setH, setVs, setV] at h
      refine ⟨_, objAt h 2 rfl, ?_⟩
      replace h := h.putK 2 rfl (loopS (advert_Advert_Told_lo1 fn_e_2 e_2 d) 0 (fun (n : Nat) => ((if n = 0 then none else (some (.exit 0))) : Option Code)))
      dsimp only [setH] at h
      replace h := h.pick [2]
      dsimp only [pickL, pickR, nthH, delH, dropH, List.cons_append, List.nil_append] at h
      replace h := h.sel [0, 2, 2, 2, 2, 2, 2, 2, 2, 2] 2
      dsimp only [pickL, pickR, nthH, delH, dropH, List.cons_append, List.nil_append] at h
      exact hR true (0, (s_4.2 ++ [x_9])) _ (Mem.exsI p_10 (Mem.exsI c_8 (h.pack 10 [pt l_1 (loopS (advert_Advert_Told_lo1 fn_e_2 e_2 d) 0 (fun (n : Nat) => ((if n = 0 then none else (some (.exit 0))) : Option Code))), cel b_10 67 [(Value.func (Fn.func 39) #[] #[(Value.pointer (some (Addr.mk b_5 0 none)))]), (Value.func (Fn.func 53) #[] #[(Value.pointer (some (Addr.mk b_6 0 none)))]), (Value.func (Fn.func 44) #[] #[(Value.pointer (some (Addr.mk b_7 0 none))), (Value.pointer (some (Addr.mk b_8 0 none)))]), (Value.func (Fn.func 53) #[] #[(Value.pointer (some (Addr.mk b_9 0 none)))])], cel b_9 48 [(Value.slice p_6 x_5.length c_4)], row enc36 36 4 p_6 c_4 x_5, cel b_7 26 [(Value.slice p_4 seen.length c_2)], cel b_8 4 [(Value.bool x_3)], cel b_6 48 [(Value.slice p_5 x_2.length c_3)], row enc36 36 4 p_5 c_3 x_2, cel b_4 48 [(Value.slice p_10 (s_4.2 ++ [x_9]).length c_8)], row enc36 36 4 p_10 c_8 (s_4.2 ++ [x_9])] rfl))) hp
    intro s_5 w h hp
    have cpp_1 := rowCap h 2 rfl
    replace h := h.pick [3]
    dsimp only [pickL, pickR, nthH, delH, dropH, List.cons_append, List.nil_append] at h
    obtain ⟨p_11, h⟩ := Mem.exs h
    obtain ⟨c_9, h⟩ := Mem.exs h
    replace h := h.unpack
    dsimp only [pickL, pickR, nthH, delH, dropH, List.cons_append, List.nil_append] at h
    have cpp_11 := rowCap h 9 rfl
    refine ⟨_, objAt h 0 rfl, loopS_ns _, ?_⟩
    replace h := h.putK 0 rfl (.loop { advert_Advert_Told_lo1 fn_e_2 e_2 d with state := .exhausted, pending := (fun (n : Nat) => ((if n = 0 then none else (some (.exit 0))) : Option Code)) s_5.1 })
    dsimp only [setH] at h
    rcases hp with ⟨hst, hp⟩ | ⟨hst, hp⟩
    · refine Or.inl ?_
      refine ⟨congrArg (fun (n : Nat) => ((if n = 0 then none else (some (.exit 0))) : Option Code)) hst, ?_⟩
      replace h := h.sel [1, 1, 1, 1, 1, 1, 1, 3, 3, 3, 1, 1, 1] 1
      dsimp only [pickL, pickR, nthH, delH, dropH, List.cons_append, List.nil_append] at h
      obtain ⟨n_8, hn, hp⟩ := hp
      exact ⟨n_8, hn, s_5.2, p_11, s_5.2.length, c_9, rfl, rfl, rfl, rfl, rfl, rfl, rfl, rfl, rfl, hp, h⟩
    · refine Or.inr (?_)
      refine ⟨show (fun (n : Nat) => ((if n = 0 then none else (some (.exit 0))) : Option Code)) s_5.1 = _ from if_neg hst, ?_⟩
      replace h := h.sel [1, 1, 1, 1, 1, 1, 1, 3, 3, 3, 1, 1, 1] 1
      dsimp only [pickL, pickR, nthH, delH, dropH, List.cons_append, List.nil_append] at h
      exact ⟨s_5.2, p_11, s_5.2.length, c_9, rfl, rfl, hp, h⟩
  · replace hp := hp.2.1 e_1
    refine ⟨_, litCell0 h 0 rfl (m := 1) (j := 0) (congrArg Int.toNat e_1) rfl, ?_⟩
    intro e_3 fn_e_3 he_e_3 hr_e_3
    refine newO h ?_
    intro d_1 w h
    refine newO h ?_
    intro l_2 w h
    replace h := h.pick [1, 13]
    dsimp only [pickL, pickR, nthH, delH, dropH, List.cons_append, List.nil_append] at h
    replace h := marksPush h
    show rangeCallW _ (Value.func (Fn.func 53) _ _) _ _ _
    refine rangeCallFn (by kernel_rfl) ?_
    replace h := h.pick [1, 1, 1, 1, 1, 1, 3, 3, 3, 3, 3]
    dsimp only [pickL, pickR, nthH, delH, dropH, List.cons_append, List.nil_append] at h
    replace h : Mem ((fun (s_6 : Nat × (List (Int × Int × Int × Bool))) => exH fun (p_12 : Option Addr) => exH fun (c_10 : Nat) => HL [pt l_2 (loopS (advert_Advert_Told_lo1 fn_e_3 e_3 d_1) s_6.1 (fun (n : Nat) => ((if n = 0 then none else (some (.exit 0))) : Option Code))), cel b_10 67 [(Value.func (Fn.func 39) #[] #[(Value.pointer (some (Addr.mk b_5 0 none)))]), (Value.func (Fn.func 53) #[] #[(Value.pointer (some (Addr.mk b_6 0 none)))]), (Value.func (Fn.func 44) #[] #[(Value.pointer (some (Addr.mk b_7 0 none))), (Value.pointer (some (Addr.mk b_8 0 none)))]), (Value.func (Fn.func 53) #[] #[(Value.pointer (some (Addr.mk b_9 0 none)))])], cel b_9 48 [(Value.slice p_6 x_5.length c_4)], row enc36 36 4 p_6 c_4 x_5, cel b_7 26 [(Value.slice p_4 seen.length c_2)], cel b_8 4 [(Value.bool x_3)], cel b_5 27 [(Value.pointer (some (Addr.mk b_1 0 none)))], cel b_1 58 [(Value.slice p_1 own.length c_1), (Value.map (some b_2)), (Value.map (some b_3))], row enc34 34 2 p_1 c_1 own, cel b_4 48 [(Value.slice p_12 s_6.2.length c_10)], row enc36 36 4 p_12 c_10 s_6.2]) (0, x_7) :: marksP (d_1 :: m_2) :: cel b_6 48 [(Value.slice p_5 x_2.length c_3)] :: row enc36 36 4 p_5 c_3 x_2 :: FL) _ := Mem.exsI p_8 (Mem.exsI c_6 (h.pack 11 [pt l_2 (loopS (advert_Advert_Told_lo1 fn_e_3 e_3 d_1) 0 (fun (n : Nat) => ((if n = 0 then none else (some (.exit 0))) : Option Code))), cel b_10 67 [(Value.func (Fn.func 39) #[] #[(Value.pointer (some (Addr.mk b_5 0 none)))]), (Value.func (Fn.func 53) #[] #[(Value.pointer (some (Addr.mk b_6 0 none)))]), (Value.func (Fn.func 44) #[] #[(Value.pointer (some (Addr.mk b_7 0 none))), (Value.pointer (some (Addr.mk b_8 0 none)))]), (Value.func (Fn.func 53) #[] #[(Value.pointer (some (Addr.mk b_9 0 none)))])], cel b_9 48 [(Value.slice p_6 x_5.length c_4)], row enc36 36 4 p_6 c_4 x_5, cel b_7 26 [(Value.slice p_4 seen.length c_2)], cel b_8 4 [(Value.bool x_3)], cel b_5 27 [(Value.pointer (some (Addr.mk b_1 0 none)))], cel b_1 58 [(Value.slice p_1 own.length c_1), (Value.map (some b_2)), (Value.map (some b_3))], row enc34 34 2 p_1 c_1 own, cel b_4 48 [(Value.slice p_8 x_7.length c_6)], row enc36 36 4 p_8 c_6 x_7] rfl))
    replace h := h.pick [2, 0]
    dsimp only [pickL, pickR, nthH, delH, dropH, List.cons_append, List.nil_append] at h
    refine slices_Values_sl_api_Place_api_Place__c1_ok (FL := marksP (d_1 :: m_2) :: row enc36 36 4 p_5 c_3 x_2 :: FL) (A0 := (fun (s_6 : Nat × (List (Int × Int × Int × Bool))) => exH fun (p_12 : Option Addr) => exH fun (c_10 : Nat) => HL [pt l_2 (loopS (advert_Advert_Told_lo1 fn_e_3 e_3 d_1) s_6.1 (fun (n : Nat) => ((if n = 0 then none else (some (.exit 0))) : Option Code))), cel b_10 67 [(Value.func (Fn.func 39) #[] #[(Value.pointer (some (Addr.mk b_5 0 none)))]), (Value.func (Fn.func 53) #[] #[(Value.pointer (some (Addr.mk b_6 0 none)))]), (Value.func (Fn.func 44) #[] #[(Value.pointer (some (Addr.mk b_7 0 none))), (Value.pointer (some (Addr.mk b_8 0 none)))]), (Value.func (Fn.func 53) #[] #[(Value.pointer (some (Addr.mk b_9 0 none)))])], cel b_9 48 [(Value.slice p_6 x_5.length c_4)], row enc36 36 4 p_6 c_4 x_5, cel b_7 26 [(Value.slice p_4 seen.length c_2)], cel b_8 4 [(Value.bool x_3)], cel b_5 27 [(Value.pointer (some (Addr.mk b_1 0 none)))], cel b_1 58 [(Value.slice p_1 own.length c_1), (Value.map (some b_2)), (Value.map (some b_3))], row enc34 34 2 p_1 c_1 own, cel b_4 48 [(Value.slice p_12 s_6.2.length c_10)], row enc36 36 4 p_12 c_10 s_6.2])) (Y0 := (fun x_11 (s_6 : Nat × (List (Int × Int × Int × Bool))) K_4 => s_6.1 = 0 ∧ (slices_Contains_sl_api_Place_api_Place_wp s_6.2 x_11.1 x_11.2.1 x_11.2.2.1 x_11.2.2.2 (fun (r_1 : Bool) => cond r_1 (K_4 true (0, s_6.2)) (cond ((((s_6.2.length : Nat) : Int) : Int) == 8) (K_4 false (1, s_6.2)) ((s_6.2.length + [x_11].length) * 32 ≤ 140737488355328 ∧ (K_4 true (0, (s_6.2 ++ [x_11]))))))))) (σ0 := Nat × (List (Int × Int × Int × Bool))) (s := (0, x_7)) ?_ (fun w h => (rowRd h 1 encL36 rfl)) rfl cpp_5 h hp ?_
    · intro x_11 s_6 K_4 FL2 w R hx h hp hR
      obtain ⟨p_12, h⟩ := Mem.exs h
      obtain ⟨c_10, h⟩ := Mem.exs h
      replace h := h.unpack
      dsimp only [pickL, pickR, nthH, delH, dropH, List.cons_append, List.nil_append] at h
      obtain ⟨hst, hp⟩ := hp
      refine advert_Advert_Told_r1_yield (by have := objAt h 0 rfl; rw [hst] at this; exact this) he_e_3 hr_e_3 ?_
      unfold advert_Advert_Told_r1
      have hMx_M_k1_1 := RoM.mono hM_mapped (fun w h_ => (by first | exact hx w h_ | exact Mem.drop 1 (hx w h_) | exact Mem.drop 2 (hx w h_) | exact Mem.drop 3 (hx w h_) | exact Mem.drop 4 (hx w h_) | exact Mem.drop 5 (hx w h_) | exact Mem.drop 6 (hx w h_) | exact Mem.drop 7 (hx w h_) | exact Mem.drop 8 (hx w h_) | exact Mem.drop 9 (hx w h_) | exact Mem.drop 10 (hx w h_) | exact Mem.drop 11 (hx w h_) | exact Mem.drop 12 (hx w h_) | exact Mem.drop 13 (hx w h_)))
      have hMx_M_k1_2 := RoM.mono hM_relays (fun w h_ => (by first | exact hx w h_ | exact Mem.drop 1 (hx w h_) | exact Mem.drop 2 (hx w h_) | exact Mem.drop 3 (hx w h_) | exact Mem.drop 4 (hx w h_) | exact Mem.drop 5 (hx w h_) | exact Mem.drop 6 (hx w h_) | exact Mem.drop 7 (hx w h_) | exact Mem.drop 8 (hx w h_) | exact Mem.drop 9 (hx w h_) | exact Mem.drop 10 (hx w h_) | exact Mem.drop 11 (hx w h_) | exact Mem.drop 12 (hx w h_) | exact Mem.drop 13 (hx w h_)))
      have cpp_12 := rowCap h 10 rfl
      refine newL (o := [(Value.int .u32 0), (Value.int .i64 0), (Value.int .i64 0), (Value.bool false)]) h ?_
      intro b_13 w h
      refine storeL (ys := [(Value.int .u32 x_11.1), (Value.int .i64 x_11.2.1), (Value.int .i64 x_11.2.2.1), (Value.bool x_11.2.2.2)]) h 0 0 rfl rfl rfl sz36 rfl rfl ?_
      intro w h
      dsimp only [setH, setVs, setV] at h
      refine ⟨_, (by have := objAt h 1 rfl; rw [hst] at this; exact this : _ = some (Obj.loop (advert_Advert_Told_lo1 fn_e_3 e_3 d_1))), rfl, ?_⟩
      replace h := h.putK 1 rfl (.loop { advert_Advert_Told_lo1 fn_e_3 e_3 d_1 with state := .busy })
      dsimp only [setH] at h
      refine ⟨_, _, _, cellL h 10 0 rfl rfl rfl, ?_⟩
      refine ⟨_, cellL h 0 0 rfl rfl rfl, _, cellL h 0 1 rfl rfl rfl, _, cellL h 0 2 rfl rfl rfl, _, cellL h 0 3 rfl rfl rfl, ?_⟩
      refine slices_Contains_sl_api_Place_api_Place_ok (FL := cel b_13 36 [(Value.int .u32 x_11.1), (Value.int .i64 x_11.2.1), (Value.int .i64 x_11.2.2.1), (Value.bool x_11.2.2.2)] :: pt l_2 (.loop { advert_Advert_Told_lo1 fn_e_3 e_3 d_1 with state := .busy }) :: cel b_10 67 [(Value.func (Fn.func 39) #[] #[(Value.pointer (some (Addr.mk b_5 0 none)))]), (Value.func (Fn.func 53) #[] #[(Value.pointer (some (Addr.mk b_6 0 none)))]), (Value.func (Fn.func 44) #[] #[(Value.pointer (some (Addr.mk b_7 0 none))), (Value.pointer (some (Addr.mk b_8 0 none)))]), (Value.func (Fn.func 53) #[] #[(Value.pointer (some (Addr.mk b_9 0 none)))])] :: cel b_9 48 [(Value.slice p_6 x_5.length c_4)] :: row enc36 36 4 p_6 c_4 x_5 :: cel b_7 26 [(Value.slice p_4 seen.length c_2)] :: cel b_8 4 [(Value.bool x_3)] :: cel b_5 27 [(Value.pointer (some (Addr.mk b_1 0 none)))] :: cel b_1 58 [(Value.slice p_1 own.length c_1), (Value.map (some b_2)), (Value.map (some b_3))] :: row enc34 34 2 p_1 c_1 own :: cel b_4 48 [(Value.slice p_12 s_6.2.length c_10)] :: row enc36 36 4 p_12 c_10 s_6.2 :: FL2) (fun w h => (rowRd h 11 encL36 rfl)) rfl cpp_12 h hp ?_
      intro r_1 w h hp
      refine ⟨_, rfl, ?_⟩
      refine cond_both hp (fun hp => ?_) (fun hp => ?_)
      · refine ⟨_, objAt h 1 rfl, ?_⟩
        replace h := h.putK 1 rfl (loopS (advert_Advert_Told_lo1 fn_e_3 e_3 d_1) 0 (fun (n : Nat) => ((if n = 0 then none else (some (.exit 0))) : Option Code)))
        dsimp only [setH] at h
        replace h := h.pick [1]
        dsimp only [pickL, pickR, nthH, delH, dropH, List.cons_append, List.nil_append] at h
        replace h := h.sel [0, 1, 1, 1, 1, 1, 1, 1, 1, 1, 1] 1
        dsimp only [pickL, pickR, nthH, delH, dropH, List.cons_append, List.nil_append] at h
        exact hR true (0, s_6.2) _ (Mem.exsI p_12 (Mem.exsI c_10 (h.pack 11 [pt l_2 (loopS (advert_Advert_Told_lo1 fn_e_3 e_3 d_1) 0 (fun (n : Nat) => ((if n = 0 then none else (some (.exit 0))) : Option Code))), cel b_10 67 [(Value.func (Fn.func 39) #[] #[(Value.pointer (some (Addr.mk b_5 0 none)))]), (Value.func (Fn.func 53) #[] #[(Value.pointer (some (Addr.mk b_6 0 none)))]), (Value.func (Fn.func 44) #[] #[(Value.pointer (some (Addr.mk b_7 0 none))), (Value.pointer (some (Addr.mk b_8 0 none)))]), (Value.func (Fn.func 53) #[] #[(Value.pointer (some (Addr.mk b_9 0 none)))])], cel b_9 48 [(Value.slice p_6 x_5.length c_4)], row enc36 36 4 p_6 c_4 x_5, cel b_7 26 [(Value.slice p_4 seen.length c_2)], cel b_8 4 [(Value.bool x_3)], cel b_5 27 [(Value.pointer (some (Addr.mk b_1 0 none)))], cel b_1 58 [(Value.slice p_1 own.length c_1), (Value.map (some b_2)), (Value.map (some b_3))], row enc34 34 2 p_1 c_1 own, cel b_4 48 [(Value.slice p_12 s_6.2.length c_10)], row enc36 36 4 p_12 c_10 s_6.2] rfl))) hp
      refine ⟨_, _, _, cellL h 10 0 rfl rfl rfl, ?_⟩
      refine cond_both hp (fun hp => ?_) (fun hp => ?_)
      · refine ⟨_, objAt h 1 rfl, ?_⟩
        replace h := h.putK 1 rfl (loopS (advert_Advert_Told_lo1 fn_e_3 e_3 d_1) 1 (fun (n : Nat) => ((if n = 0 then none else (some (.exit 0))) : Option Code)))
        dsimp only [setH] at h
        replace h := h.pick [1]
        dsimp only [pickL, pickR, nthH, delH, dropH, List.cons_append, List.nil_append] at h
        replace h := h.sel [0, 1, 1, 1, 1, 1, 1, 1, 1, 1, 1] 1
        dsimp only [pickL, pickR, nthH, delH, dropH, List.cons_append, List.nil_append] at h
        exact hR false (1, s_6.2) _ (Mem.exsI p_12 (Mem.exsI c_10 (h.pack 11 [pt l_2 (loopS (advert_Advert_Told_lo1 fn_e_3 e_3 d_1) 1 (fun (n : Nat) => ((if n = 0 then none else (some (.exit 0))) : Option Code))), cel b_10 67 [(Value.func (Fn.func 39) #[] #[(Value.pointer (some (Addr.mk b_5 0 none)))]), (Value.func (Fn.func 53) #[] #[(Value.pointer (some (Addr.mk b_6 0 none)))]), (Value.func (Fn.func 44) #[] #[(Value.pointer (some (Addr.mk b_7 0 none))), (Value.pointer (some (Addr.mk b_8 0 none)))]), (Value.func (Fn.func 53) #[] #[(Value.pointer (some (Addr.mk b_9 0 none)))])], cel b_9 48 [(Value.slice p_6 x_5.length c_4)], row enc36 36 4 p_6 c_4 x_5, cel b_7 26 [(Value.slice p_4 seen.length c_2)], cel b_8 4 [(Value.bool x_3)], cel b_5 27 [(Value.pointer (some (Addr.mk b_1 0 none)))], cel b_1 58 [(Value.slice p_1 own.length c_1), (Value.map (some b_2)), (Value.map (some b_3))], row enc34 34 2 p_1 c_1 own, cel b_4 48 [(Value.slice p_12 s_6.2.length c_10)], row enc36 36 4 p_12 c_10 s_6.2] rfl))) hp
      refine ⟨_, _, _, cellL h 10 0 rfl rfl rfl, ?_⟩
      refine ⟨_, cellL h 0 0 rfl rfl rfl, _, cellL h 0 1 rfl rfl rfl, _, cellL h 0 2 rfl rfl rfl, _, cellL h 0 3 rfl rfl rfl, ?_⟩
      refine newL (o := [(Value.int .u32 x_11.1), (Value.int .i64 x_11.2.1), (Value.int .i64 x_11.2.2.1), (Value.bool x_11.2.2.2)]) h ?_
      intro b_14 w h
      have sr_1 := (celRd h 0 encL36 rfl [x_11] rfl)
      obtain ⟨hb, hp⟩ := hp
      refine appendL slt48 und48 encL36 encO36 h 12 rfl rfl sr_1 rfl hb ?_
      intro p_13 c_11 w h
      dsimp only [setH, setVs, setV] at h
      have cpp_13 := rowCap h 12 rfl
      refine ⟨_, _, _, rfl, ?_⟩
      refine storeL (ys := [(Value.slice p_13 (s_6.2 ++ [x_11]).length c_11)]) h 11 0 rfl rfl rfl sz48 rfl rfl ?_
      intro w h
      dsimp only [setH, setVs, setV] at h
      refine ⟨_, objAt h 2 rfl, ?_⟩
      replace h := h.putK 2 rfl (loopS (advert_Advert_Told_lo1 fn_e_3 e_3 d_1) 0 (fun (n : Nat) => ((if n = 0 then none else (some (.exit 0))) : Option Code)))
      dsimp only [setH] at h
      replace h := h.pick [2]
      dsimp only [pickL, pickR, nthH, delH, dropH, List.cons_append, List.nil_append] at h
      replace h := h.sel [0, 2, 2, 2, 2, 2, 2, 2, 2, 2, 2] 2
      dsimp only [pickL, pickR, nthH, delH, dropH, List.cons_append, List.nil_append] at h
      exact hR true (0, (s_6.2 ++ [x_11])) _ (Mem.exsI p_13 (Mem.exsI c_11 (h.pack 11 [pt l_2 (loopS (advert_Advert_Told_lo1 fn_e_3 e_3 d_1) 0 (fun (n : Nat) => ((if n = 0 then none else (some (.exit 0))) : Option Code))), cel b_10 67 [(Value.func (Fn.func 39) #[] #[(Value.pointer (some (Addr.mk b_5 0 none)))]), (Value.func (Fn.func 53) #[] #[(Value.pointer (some (Addr.mk b_6 0 none)))]), (Value.func (Fn.func 44) #[] #[(Value.pointer (some (Addr.mk b_7 0 none))), (Value.pointer (some (Addr.mk b_8 0 none)))]), (Value.func (Fn.func 53) #[] #[(Value.pointer (some (Addr.mk b_9 0 none)))])], cel b_9 48 [(Value.slice p_6 x_5.length c_4)], row enc36 36 4 p_6 c_4 x_5, cel b_7 26 [(Value.slice p_4 seen.length c_2)], cel b_8 4 [(Value.bool x_3)], cel b_5 27 [(Value.pointer (some (Addr.mk b_1 0 none)))], cel b_1 58 [(Value.slice p_1 own.length c_1), (Value.map (some b_2)), (Value.map (some b_3))], row enc34 34 2 p_1 c_1 own, cel b_4 48 [(Value.slice p_13 (s_6.2 ++ [x_11]).length c_11)], row enc36 36 4 p_13 c_11 (s_6.2 ++ [x_11])] rfl))) hp
    intro s_7 w h hp
    replace h := h.pick [1]
    dsimp only [pickL, pickR, nthH, delH, dropH, List.cons_append, List.nil_append] at h
    obtain ⟨p_14, h⟩ := Mem.exs h
    obtain ⟨c_12, h⟩ := Mem.exs h
    replace h := h.unpack
    dsimp only [pickL, pickR, nthH, delH, dropH, List.cons_append, List.nil_append] at h
    have cpp_14 := rowCap h 10 rfl
    refine ⟨_, objAt h 0 rfl, loopS_ns _, ?_⟩
    replace h := h.putK 0 rfl (.loop { advert_Advert_Told_lo1 fn_e_3 e_3 d_1 with state := .exhausted, pending := (fun (n : Nat) => ((if n = 0 then none else (some (.exit 0))) : Option Code)) s_7.1 })
    dsimp only [setH] at h
    rcases hp with ⟨hst, hp⟩ | ⟨hst, hp⟩
    · refine Or.inl ?_
      refine ⟨congrArg (fun (n : Nat) => ((if n = 0 then none else (some (.exit 0))) : Option Code)) hst, ?_⟩
      replace h := h.sel [1, 1, 1, 1, 1, 6, 7, 1, 1, 1, 1, 1, 1] 1
      dsimp only [pickL, pickR, nthH, delH, dropH, List.cons_append, List.nil_append] at h
      obtain ⟨n_10, hn, hp⟩ := hp
      exact ⟨n_10, hn, s_7.2, p_14, s_7.2.length, c_12, rfl, rfl, rfl, rfl, rfl, rfl, rfl, rfl, rfl, hp, h⟩
    · refine Or.inr (?_)
      refine ⟨show (fun (n : Nat) => ((if n = 0 then none else (some (.exit 0))) : Option Code)) s_7.1 = _ from if_neg hst, ?_⟩
      replace h := h.sel [1, 1, 1, 1, 1, 6, 7, 1, 1, 1, 1, 1, 1] 1
      dsimp only [pickL, pickR, nthH, delH, dropH, List.cons_append, List.nil_append] at h
      exact ⟨s_7.2, p_14, s_7.2.length, c_12, rfl, rfl, hp, h⟩
  · replace hp := hp.2.2.1 e_1
    refine ⟨_, litCell0 h 0 rfl (m := 2) (j := 0) (congrArg Int.toNat e_1) rfl, ?_⟩
    intro e_4 fn_e_4 he_e_4 hr_e_4
    refine newO h ?_
    intro d_2 w h
    refine newO h ?_
    intro l_3 w h
    replace h := h.pick [1, 13]
    dsimp only [pickL, pickR, nthH, delH, dropH, List.cons_append, List.nil_append] at h
    replace h := marksPush h
    show rangeCallW _ (Value.func (Fn.func 44) _ _) _ _ _
    refine rangeCallFn (by kernel_rfl) ?_
    replace h := h.pick [1, 1, 1, 1, 3, 3, 3, 3, 3, 3, 3]
    dsimp only [pickL, pickR, nthH, delH, dropH, List.cons_append, List.nil_append] at h
    replace h : Mem ((fun (s_8 : Nat × (List (Int × Int × Int × Bool))) => exH fun (p_15 : Option Addr) => exH fun (c_13 : Nat) => HL [pt l_3 (loopS (advert_Advert_Told_lo1 fn_e_4 e_4 d_2) s_8.1 (fun (n : Nat) => ((if n = 0 then none else (some (.exit 0))) : Option Code))), cel b_10 67 [(Value.func (Fn.func 39) #[] #[(Value.pointer (some (Addr.mk b_5 0 none)))]), (Value.func (Fn.func 53) #[] #[(Value.pointer (some (Addr.mk b_6 0 none)))]), (Value.func (Fn.func 44) #[] #[(Value.pointer (some (Addr.mk b_7 0 none))), (Value.pointer (some (Addr.mk b_8 0 none)))]), (Value.func (Fn.func 53) #[] #[(Value.pointer (some (Addr.mk b_9 0 none)))])], cel b_9 48 [(Value.slice p_6 x_5.length c_4)], row enc36 36 4 p_6 c_4 x_5, cel b_6 48 [(Value.slice p_5 x_2.length c_3)], row enc36 36 4 p_5 c_3 x_2, cel b_5 27 [(Value.pointer (some (Addr.mk b_1 0 none)))], cel b_1 58 [(Value.slice p_1 own.length c_1), (Value.map (some b_2)), (Value.map (some b_3))], row enc34 34 2 p_1 c_1 own, cel b_4 48 [(Value.slice p_15 s_8.2.length c_13)], row enc36 36 4 p_15 c_13 s_8.2]) (0, x_7) :: marksP (d_2 :: m_2) :: cel b_7 26 [(Value.slice p_4 seen.length c_2)] :: cel b_8 4 [(Value.bool x_3)] :: FL) _ := Mem.exsI p_8 (Mem.exsI c_6 (h.pack 11 [pt l_3 (loopS (advert_Advert_Told_lo1 fn_e_4 e_4 d_2) 0 (fun (n : Nat) => ((if n = 0 then none else (some (.exit 0))) : Option Code))), cel b_10 67 [(Value.func (Fn.func 39) #[] #[(Value.pointer (some (Addr.mk b_5 0 none)))]), (Value.func (Fn.func 53) #[] #[(Value.pointer (some (Addr.mk b_6 0 none)))]), (Value.func (Fn.func 44) #[] #[(Value.pointer (some (Addr.mk b_7 0 none))), (Value.pointer (some (Addr.mk b_8 0 none)))]), (Value.func (Fn.func 53) #[] #[(Value.pointer (some (Addr.mk b_9 0 none)))])], cel b_9 48 [(Value.slice p_6 x_5.length c_4)], row enc36 36 4 p_6 c_4 x_5, cel b_6 48 [(Value.slice p_5 x_2.length c_3)], row enc36 36 4 p_5 c_3 x_2, cel b_5 27 [(Value.pointer (some (Addr.mk b_1 0 none)))], cel b_1 58 [(Value.slice p_1 own.length c_1), (Value.map (some b_2)), (Value.map (some b_3))], row enc34 34 2 p_1 c_1 own, cel b_4 48 [(Value.slice p_8 x_7.length c_6)], row enc36 36 4 p_8 c_6 x_7] rfl))
    replace h := h.pick [2, 2, 0]
    dsimp only [pickL, pickR, nthH, delH, dropH, List.cons_append, List.nil_append] at h
    refine advert_observed_c1_ok (FL := marksP (d_2 :: m_2) :: FL) (A0 := (fun (s_8 : Nat × (List (Int × Int × Int × Bool))) => exH fun (p_15 : Option Addr) => exH fun (c_13 : Nat) => HL [pt l_3 (loopS (advert_Advert_Told_lo1 fn_e_4 e_4 d_2) s_8.1 (fun (n : Nat) => ((if n = 0 then none else (some (.exit 0))) : Option Code))), cel b_10 67 [(Value.func (Fn.func 39) #[] #[(Value.pointer (some (Addr.mk b_5 0 none)))]), (Value.func (Fn.func 53) #[] #[(Value.pointer (some (Addr.mk b_6 0 none)))]), (Value.func (Fn.func 44) #[] #[(Value.pointer (some (Addr.mk b_7 0 none))), (Value.pointer (some (Addr.mk b_8 0 none)))]), (Value.func (Fn.func 53) #[] #[(Value.pointer (some (Addr.mk b_9 0 none)))])], cel b_9 48 [(Value.slice p_6 x_5.length c_4)], row enc36 36 4 p_6 c_4 x_5, cel b_6 48 [(Value.slice p_5 x_2.length c_3)], row enc36 36 4 p_5 c_3 x_2, cel b_5 27 [(Value.pointer (some (Addr.mk b_1 0 none)))], cel b_1 58 [(Value.slice p_1 own.length c_1), (Value.map (some b_2)), (Value.map (some b_3))], row enc34 34 2 p_1 c_1 own, cel b_4 48 [(Value.slice p_15 s_8.2.length c_13)], row enc36 36 4 p_15 c_13 s_8.2])) (Y0 := (fun x_13 (s_8 : Nat × (List (Int × Int × Int × Bool))) K_5 => s_8.1 = 0 ∧ (slices_Contains_sl_api_Place_api_Place_wp s_8.2 x_13.1 x_13.2.1 x_13.2.2.1 x_13.2.2.2 (fun (r_2 : Bool) => cond r_2 (K_5 true (0, s_8.2)) (cond ((((s_8.2.length : Nat) : Int) : Int) == 8) (K_5 false (1, s_8.2)) ((s_8.2.length + [x_13].length) * 32 ≤ 140737488355328 ∧ (K_5 true (0, (s_8.2 ++ [x_13]))))))))) (σ0 := Nat × (List (Int × Int × Int × Bool))) (s := (0, x_7)) ?_ (fun w h => (hF_seen _ (h.drop 1))) rfl hc_seen h hp ?_
    · intro x_13 s_8 K_5 FL2 w R hx h hp hR
      obtain ⟨p_15, h⟩ := Mem.exs h
      obtain ⟨c_13, h⟩ := Mem.exs h
      replace h := h.unpack
      dsimp only [pickL, pickR, nthH, delH, dropH, List.cons_append, List.nil_append] at h
      obtain ⟨hst, hp⟩ := hp
      refine advert_Advert_Told_r1_yield (by have := objAt h 0 rfl; rw [hst] at this; exact this) he_e_4 hr_e_4 ?_
      unfold advert_Advert_Told_r1
      have hMx_M_k1_1 := RoM.mono hM_mapped (fun w h_ => (by first | exact hx w h_ | exact Mem.drop 1 (hx w h_) | exact Mem.drop 2 (hx w h_) | exact Mem.drop 3 (hx w h_) | exact Mem.drop 4 (hx w h_) | exact Mem.drop 5 (hx w h_) | exact Mem.drop 6 (hx w h_) | exact Mem.drop 7 (hx w h_) | exact Mem.drop 8 (hx w h_) | exact Mem.drop 9 (hx w h_) | exact Mem.drop 10 (hx w h_) | exact Mem.drop 11 (hx w h_) | exact Mem.drop 12 (hx w h_) | exact Mem.drop 13 (hx w h_)))
      have hMx_M_k1_2 := RoM.mono hM_relays (fun w h_ => (by first | exact hx w h_ | exact Mem.drop 1 (hx w h_) | exact Mem.drop 2 (hx w h_) | exact Mem.drop 3 (hx w h_) | exact Mem.drop 4 (hx w h_) | exact Mem.drop 5 (hx w h_) | exact Mem.drop 6 (hx w h_) | exact Mem.drop 7 (hx w h_) | exact Mem.drop 8 (hx w h_) | exact Mem.drop 9 (hx w h_) | exact Mem.drop 10 (hx w h_) | exact Mem.drop 11 (hx w h_) | exact Mem.drop 12 (hx w h_) | exact Mem.drop 13 (hx w h_)))
      have cpp_15 := rowCap h 10 rfl
      refine newL (o := [(Value.int .u32 0), (Value.int .i64 0), (Value.int .i64 0), (Value.bool false)]) h ?_
      intro b_15 w h
      refine storeL (ys := [(Value.int .u32 x_13.1), (Value.int .i64 x_13.2.1), (Value.int .i64 x_13.2.2.1), (Value.bool x_13.2.2.2)]) h 0 0 rfl rfl rfl sz36 rfl rfl ?_
      intro w h
      dsimp only [setH, setVs, setV] at h
      refine ⟨_, (by have := objAt h 1 rfl; rw [hst] at this; exact this : _ = some (Obj.loop (advert_Advert_Told_lo1 fn_e_4 e_4 d_2))), rfl, ?_⟩
      replace h := h.putK 1 rfl (.loop { advert_Advert_Told_lo1 fn_e_4 e_4 d_2 with state := .busy })
      dsimp only [setH] at h
      refine ⟨_, _, _, cellL h 10 0 rfl rfl rfl, ?_⟩
      refine ⟨_, cellL h 0 0 rfl rfl rfl, _, cellL h 0 1 rfl rfl rfl, _, cellL h 0 2 rfl rfl rfl, _, cellL h 0 3 rfl rfl rfl, ?_⟩
      refine slices_Contains_sl_api_Place_api_Place_ok (FL := cel b_15 36 [(Value.int .u32 x_13.1), (Value.int .i64 x_13.2.1), (Value.int .i64 x_13.2.2.1), (Value.bool x_13.2.2.2)] :: pt l_3 (.loop { advert_Advert_Told_lo1 fn_e_4 e_4 d_2 with state := .busy }) :: cel b_10 67 [(Value.func (Fn.func 39) #[] #[(Value.pointer (some (Addr.mk b_5 0 none)))]), (Value.func (Fn.func 53) #[] #[(Value.pointer (some (Addr.mk b_6 0 none)))]), (Value.func (Fn.func 44) #[] #[(Value.pointer (some (Addr.mk b_7 0 none))), (Value.pointer (some (Addr.mk b_8 0 none)))]), (Value.func (Fn.func 53) #[] #[(Value.pointer (some (Addr.mk b_9 0 none)))])] :: cel b_9 48 [(Value.slice p_6 x_5.length c_4)] :: row enc36 36 4 p_6 c_4 x_5 :: cel b_6 48 [(Value.slice p_5 x_2.length c_3)] :: row enc36 36 4 p_5 c_3 x_2 :: cel b_5 27 [(Value.pointer (some (Addr.mk b_1 0 none)))] :: cel b_1 58 [(Value.slice p_1 own.length c_1), (Value.map (some b_2)), (Value.map (some b_3))] :: row enc34 34 2 p_1 c_1 own :: cel b_4 48 [(Value.slice p_15 s_8.2.length c_13)] :: row enc36 36 4 p_15 c_13 s_8.2 :: FL2) (fun w h => (rowRd h 11 encL36 rfl)) rfl cpp_15 h hp ?_
      intro r_2 w h hp
      refine ⟨_, rfl, ?_⟩
      refine cond_both hp (fun hp => ?_) (fun hp => ?_)
      · refine ⟨_, objAt h 1 rfl, ?_⟩
        replace h := h.putK 1 rfl (loopS (advert_Advert_Told_lo1 fn_e_4 e_4 d_2) 0 (fun (n : Nat) => ((if n = 0 then none else (some (.exit 0))) : Option Code)))
        dsimp only [setH] at h
        replace h := h.pick [1]
        dsimp only [pickL, pickR, nthH, delH, dropH, List.cons_append, List.nil_append] at h
        replace h := h.sel [0, 1, 1, 1, 1, 1, 1, 1, 1, 1, 1] 1
        dsimp only [pickL, pickR, nthH, delH, dropH, List.cons_append, List.nil_append] at h
        exact hR true (0, s_8.2) _ (Mem.exsI p_15 (Mem.exsI c_13 (h.pack 11 [pt l_3 (loopS (advert_Advert_Told_lo1 fn_e_4 e_4 d_2) 0 (fun (n : Nat) => ((if n = 0 then none else (some (.exit 0))) : Option Code))), cel b_10 67 [(Value.func (Fn.func 39) #[] #[(Value.pointer (some (Addr.mk b_5 0 none)))]), (Value.func (Fn.func 53) #[] #[(Value.pointer (some (Addr.mk b_6 0 none)))]), (Value.func (Fn.func 44) #[] #[(Value.pointer (some (Addr.mk b_7 0 none))), (Value.pointer (some (Addr.mk b_8 0 none)))]), (Value.func (Fn.func 53) #[] #[(Value.pointer (some (Addr.mk b_9 0 none)))])], cel b_9 48 [(Value.slice p_6 x_5.length c_4)], row enc36 36 4 p_6 c_4 x_5, cel b_6 48 [(Value.slice p_5 x_2.length c_3)], row enc36 36 4 p_5 c_3 x_2, cel b_5 27 [(Value.pointer (some (Addr.mk b_1 0 none)))], cel b_1 58 [(Value.slice p_1 own.length c_1), (Value.map (some b_2)), (Value.map (some b_3))], row enc34 34 2 p_1 c_1 own, cel b_4 48 [(Value.slice p_15 s_8.2.length c_13)], row enc36 36 4 p_15 c_13 s_8.2] rfl))) hp
      refine ⟨_, _, _, cellL h 10 0 rfl rfl rfl, ?_⟩
      refine cond_both hp (fun hp => ?_) (fun hp => ?_)
      · refine ⟨_, objAt h 1 rfl, ?_⟩
        replace h := h.putK 1 rfl (loopS (advert_Advert_Told_lo1 fn_e_4 e_4 d_2) 1 (fun (n : Nat) => ((if n = 0 then none else (some (.exit 0))) : Option Code)))
        dsimp only [setH] at h
        replace h := h.pick [1]
        dsimp only [pickL, pickR, nthH, delH, dropH, List.cons_append, List.nil_append] at h
        replace h := h.sel [0, 1, 1, 1, 1, 1, 1, 1, 1, 1, 1] 1
        dsimp only [pickL, pickR, nthH, delH, dropH, List.cons_append, List.nil_append] at h
        exact hR false (1, s_8.2) _ (Mem.exsI p_15 (Mem.exsI c_13 (h.pack 11 [pt l_3 (loopS (advert_Advert_Told_lo1 fn_e_4 e_4 d_2) 1 (fun (n : Nat) => ((if n = 0 then none else (some (.exit 0))) : Option Code))), cel b_10 67 [(Value.func (Fn.func 39) #[] #[(Value.pointer (some (Addr.mk b_5 0 none)))]), (Value.func (Fn.func 53) #[] #[(Value.pointer (some (Addr.mk b_6 0 none)))]), (Value.func (Fn.func 44) #[] #[(Value.pointer (some (Addr.mk b_7 0 none))), (Value.pointer (some (Addr.mk b_8 0 none)))]), (Value.func (Fn.func 53) #[] #[(Value.pointer (some (Addr.mk b_9 0 none)))])], cel b_9 48 [(Value.slice p_6 x_5.length c_4)], row enc36 36 4 p_6 c_4 x_5, cel b_6 48 [(Value.slice p_5 x_2.length c_3)], row enc36 36 4 p_5 c_3 x_2, cel b_5 27 [(Value.pointer (some (Addr.mk b_1 0 none)))], cel b_1 58 [(Value.slice p_1 own.length c_1), (Value.map (some b_2)), (Value.map (some b_3))], row enc34 34 2 p_1 c_1 own, cel b_4 48 [(Value.slice p_15 s_8.2.length c_13)], row enc36 36 4 p_15 c_13 s_8.2] rfl))) hp
      refine ⟨_, _, _, cellL h 10 0 rfl rfl rfl, ?_⟩
      refine ⟨_, cellL h 0 0 rfl rfl rfl, _, cellL h 0 1 rfl rfl rfl, _, cellL h 0 2 rfl rfl rfl, _, cellL h 0 3 rfl rfl rfl, ?_⟩
      refine newL (o := [(Value.int .u32 x_13.1), (Value.int .i64 x_13.2.1), (Value.int .i64 x_13.2.2.1), (Value.bool x_13.2.2.2)]) h ?_
      intro b_16 w h
      have sr_2 := (celRd h 0 encL36 rfl [x_13] rfl)
      obtain ⟨hb, hp⟩ := hp
      refine appendL slt48 und48 encL36 encO36 h 12 rfl rfl sr_2 rfl hb ?_
      intro p_16 c_14 w h
      dsimp only [setH, setVs, setV] at h
      have cpp_16 := rowCap h 12 rfl
      refine ⟨_, _, _, rfl, ?_⟩
      refine storeL (ys := [(Value.slice p_16 (s_8.2 ++ [x_13]).length c_14)]) h 11 0 rfl rfl rfl sz48 rfl rfl ?_
      intro w h
      dsimp only [setH, setVs, setV] at h
      refine ⟨_, objAt h 2 rfl, ?_⟩
      replace h := h.putK 2 rfl (loopS (advert_Advert_Told_lo1 fn_e_4 e_4 d_2) 0 (fun (n : Nat) => ((if n = 0 then none else (some (.exit 0))) : Option Code)))
      dsimp only [setH] at h
      replace h := h.pick [2]
      dsimp only [pickL, pickR, nthH, delH, dropH, List.cons_append, List.nil_append] at h
      replace h := h.sel [0, 2, 2, 2, 2, 2, 2, 2, 2, 2, 2] 2
      dsimp only [pickL, pickR, nthH, delH, dropH, List.cons_append, List.nil_append] at h
      exact hR true (0, (s_8.2 ++ [x_13])) _ (Mem.exsI p_16 (Mem.exsI c_14 (h.pack 11 [pt l_3 (loopS (advert_Advert_Told_lo1 fn_e_4 e_4 d_2) 0 (fun (n : Nat) => ((if n = 0 then none else (some (.exit 0))) : Option Code))), cel b_10 67 [(Value.func (Fn.func 39) #[] #[(Value.pointer (some (Addr.mk b_5 0 none)))]), (Value.func (Fn.func 53) #[] #[(Value.pointer (some (Addr.mk b_6 0 none)))]), (Value.func (Fn.func 44) #[] #[(Value.pointer (some (Addr.mk b_7 0 none))), (Value.pointer (some (Addr.mk b_8 0 none)))]), (Value.func (Fn.func 53) #[] #[(Value.pointer (some (Addr.mk b_9 0 none)))])], cel b_9 48 [(Value.slice p_6 x_5.length c_4)], row enc36 36 4 p_6 c_4 x_5, cel b_6 48 [(Value.slice p_5 x_2.length c_3)], row enc36 36 4 p_5 c_3 x_2, cel b_5 27 [(Value.pointer (some (Addr.mk b_1 0 none)))], cel b_1 58 [(Value.slice p_1 own.length c_1), (Value.map (some b_2)), (Value.map (some b_3))], row enc34 34 2 p_1 c_1 own, cel b_4 48 [(Value.slice p_16 (s_8.2 ++ [x_13]).length c_14)], row enc36 36 4 p_16 c_14 (s_8.2 ++ [x_13])] rfl))) hp
    intro s_9 w h hp
    replace h := h.pick [2]
    dsimp only [pickL, pickR, nthH, delH, dropH, List.cons_append, List.nil_append] at h
    obtain ⟨p_17, h⟩ := Mem.exs h
    obtain ⟨c_15, h⟩ := Mem.exs h
    replace h := h.unpack
    dsimp only [pickL, pickR, nthH, delH, dropH, List.cons_append, List.nil_append] at h
    have cpp_17 := rowCap h 10 rfl
    refine ⟨_, objAt h 0 rfl, loopS_ns _, ?_⟩
    replace h := h.putK 0 rfl (.loop { advert_Advert_Told_lo1 fn_e_4 e_4 d_2 with state := .exhausted, pending := (fun (n : Nat) => ((if n = 0 then none else (some (.exit 0))) : Option Code)) s_9.1 })
    dsimp only [setH] at h
    rcases hp with ⟨hst, hp⟩ | ⟨hst, hp⟩
    · refine Or.inl ?_
      refine ⟨congrArg (fun (n : Nat) => ((if n = 0 then none else (some (.exit 0))) : Option Code)) hst, ?_⟩
      replace h := h.sel [1, 1, 1, 8, 8, 1, 1, 1, 1, 1, 1, 1, 1] 1
      dsimp only [pickL, pickR, nthH, delH, dropH, List.cons_append, List.nil_append] at h
      obtain ⟨n_12, hn, hp⟩ := hp
      exact ⟨n_12, hn, s_9.2, p_17, s_9.2.length, c_15, rfl, rfl, rfl, rfl, rfl, rfl, rfl, rfl, rfl, hp, h⟩
    · refine Or.inr (?_)
      refine ⟨show (fun (n : Nat) => ((if n = 0 then none else (some (.exit 0))) : Option Code)) s_9.1 = _ from if_neg hst, ?_⟩
      replace h := h.sel [1, 1, 1, 8, 8, 1, 1, 1, 1, 1, 1, 1, 1] 1
      dsimp only [pickL, pickR, nthH, delH, dropH, List.cons_append, List.nil_append] at h
      exact ⟨s_9.2, p_17, s_9.2.length, c_15, rfl, rfl, hp, h⟩
  · replace hp := hp.2.2.2 e_1
    refine ⟨_, litCell0 h 0 rfl (m := 3) (j := 0) (congrArg Int.toNat e_1) rfl, ?_⟩
    intro e_5 fn_e_5 he_e_5 hr_e_5
    refine newO h ?_
    intro d_3 w h
    refine newO h ?_
    intro l_4 w h
    replace h := h.pick [1, 13]
    dsimp only [pickL, pickR, nthH, delH, dropH, List.cons_append, List.nil_append] at h
    replace h := marksPush h
    show rangeCallW _ (Value.func (Fn.func 53) _ _) _ _ _
    refine rangeCallFn (by kernel_rfl) ?_
    replace h := h.pick [1, 1, 3, 3, 3, 3, 3, 3, 3, 3, 3]
    dsimp only [pickL, pickR, nthH, delH, dropH, List.cons_append, List.nil_append] at h
    replace h : Mem ((fun (s_10 : Nat × (List (Int × Int × Int × Bool))) => exH fun (p_18 : Option Addr) => exH fun (c_16 : Nat) => HL [pt l_4 (loopS (advert_Advert_Told_lo1 fn_e_5 e_5 d_3) s_10.1 (fun (n : Nat) => ((if n = 0 then none else (some (.exit 0))) : Option Code))), cel b_10 67 [(Value.func (Fn.func 39) #[] #[(Value.pointer (some (Addr.mk b_5 0 none)))]), (Value.func (Fn.func 53) #[] #[(Value.pointer (some (Addr.mk b_6 0 none)))]), (Value.func (Fn.func 44) #[] #[(Value.pointer (some (Addr.mk b_7 0 none))), (Value.pointer (some (Addr.mk b_8 0 none)))]), (Value.func (Fn.func 53) #[] #[(Value.pointer (some (Addr.mk b_9 0 none)))])], cel b_7 26 [(Value.slice p_4 seen.length c_2)], cel b_8 4 [(Value.bool x_3)], cel b_6 48 [(Value.slice p_5 x_2.length c_3)], row enc36 36 4 p_5 c_3 x_2, cel b_5 27 [(Value.pointer (some (Addr.mk b_1 0 none)))], cel b_1 58 [(Value.slice p_1 own.length c_1), (Value.map (some b_2)), (Value.map (some b_3))], row enc34 34 2 p_1 c_1 own, cel b_4 48 [(Value.slice p_18 s_10.2.length c_16)], row enc36 36 4 p_18 c_16 s_10.2]) (0, x_7) :: marksP (d_3 :: m_2) :: cel b_9 48 [(Value.slice p_6 x_5.length c_4)] :: row enc36 36 4 p_6 c_4 x_5 :: FL) _ := Mem.exsI p_8 (Mem.exsI c_6 (h.pack 11 [pt l_4 (loopS (advert_Advert_Told_lo1 fn_e_5 e_5 d_3) 0 (fun (n : Nat) => ((if n = 0 then none else (some (.exit 0))) : Option Code))), cel b_10 67 [(Value.func (Fn.func 39) #[] #[(Value.pointer (some (Addr.mk b_5 0 none)))]), (Value.func (Fn.func 53) #[] #[(Value.pointer (some (Addr.mk b_6 0 none)))]), (Value.func (Fn.func 44) #[] #[(Value.pointer (some (Addr.mk b_7 0 none))), (Value.pointer (some (Addr.mk b_8 0 none)))]), (Value.func (Fn.func 53) #[] #[(Value.pointer (some (Addr.mk b_9 0 none)))])], cel b_7 26 [(Value.slice p_4 seen.length c_2)], cel b_8 4 [(Value.bool x_3)], cel b_6 48 [(Value.slice p_5 x_2.length c_3)], row enc36 36 4 p_5 c_3 x_2, cel b_5 27 [(Value.pointer (some (Addr.mk b_1 0 none)))], cel b_1 58 [(Value.slice p_1 own.length c_1), (Value.map (some b_2)), (Value.map (some b_3))], row enc34 34 2 p_1 c_1 own, cel b_4 48 [(Value.slice p_8 x_7.length c_6)], row enc36 36 4 p_8 c_6 x_7] rfl))
    replace h := h.pick [2, 0]
    dsimp only [pickL, pickR, nthH, delH, dropH, List.cons_append, List.nil_append] at h
    refine slices_Values_sl_api_Place_api_Place__c1_ok (FL := marksP (d_3 :: m_2) :: row enc36 36 4 p_6 c_4 x_5 :: FL) (A0 := (fun (s_10 : Nat × (List (Int × Int × Int × Bool))) => exH fun (p_18 : Option Addr) => exH fun (c_16 : Nat) => HL [pt l_4 (loopS (advert_Advert_Told_lo1 fn_e_5 e_5 d_3) s_10.1 (fun (n : Nat) => ((if n = 0 then none else (some (.exit 0))) : Option Code))), cel b_10 67 [(Value.func (Fn.func 39) #[] #[(Value.pointer (some (Addr.mk b_5 0 none)))]), (Value.func (Fn.func 53) #[] #[(Value.pointer (some (Addr.mk b_6 0 none)))]), (Value.func (Fn.func 44) #[] #[(Value.pointer (some (Addr.mk b_7 0 none))), (Value.pointer (some (Addr.mk b_8 0 none)))]), (Value.func (Fn.func 53) #[] #[(Value.pointer (some (Addr.mk b_9 0 none)))])], cel b_7 26 [(Value.slice p_4 seen.length c_2)], cel b_8 4 [(Value.bool x_3)], cel b_6 48 [(Value.slice p_5 x_2.length c_3)], row enc36 36 4 p_5 c_3 x_2, cel b_5 27 [(Value.pointer (some (Addr.mk b_1 0 none)))], cel b_1 58 [(Value.slice p_1 own.length c_1), (Value.map (some b_2)), (Value.map (some b_3))], row enc34 34 2 p_1 c_1 own, cel b_4 48 [(Value.slice p_18 s_10.2.length c_16)], row enc36 36 4 p_18 c_16 s_10.2])) (Y0 := (fun x_15 (s_10 : Nat × (List (Int × Int × Int × Bool))) K_6 => s_10.1 = 0 ∧ (slices_Contains_sl_api_Place_api_Place_wp s_10.2 x_15.1 x_15.2.1 x_15.2.2.1 x_15.2.2.2 (fun (r_3 : Bool) => cond r_3 (K_6 true (0, s_10.2)) (cond ((((s_10.2.length : Nat) : Int) : Int) == 8) (K_6 false (1, s_10.2)) ((s_10.2.length + [x_15].length) * 32 ≤ 140737488355328 ∧ (K_6 true (0, (s_10.2 ++ [x_15]))))))))) (σ0 := Nat × (List (Int × Int × Int × Bool))) (s := (0, x_7)) ?_ (fun w h => (rowRd h 1 encL36 rfl)) rfl cpp_6 h hp ?_
    · intro x_15 s_10 K_6 FL2 w R hx h hp hR
      obtain ⟨p_18, h⟩ := Mem.exs h
      obtain ⟨c_16, h⟩ := Mem.exs h
      replace h := h.unpack
      dsimp only [pickL, pickR, nthH, delH, dropH, List.cons_append, List.nil_append] at h
      obtain ⟨hst, hp⟩ := hp
      refine advert_Advert_Told_r1_yield (by have := objAt h 0 rfl; rw [hst] at this; exact this) he_e_5 hr_e_5 ?_
      unfold advert_Advert_Told_r1
      have hMx_M_k1_1 := RoM.mono hM_mapped (fun w h_ => (by first | exact hx w h_ | exact Mem.drop 1 (hx w h_) | exact Mem.drop 2 (hx w h_) | exact Mem.drop 3 (hx w h_) | exact Mem.drop 4 (hx w h_) | exact Mem.drop 5 (hx w h_) | exact Mem.drop 6 (hx w h_) | exact Mem.drop 7 (hx w h_) | exact Mem.drop 8 (hx w h_) | exact Mem.drop 9 (hx w h_) | exact Mem.drop 10 (hx w h_) | exact Mem.drop 11 (hx w h_) | exact Mem.drop 12 (hx w h_) | exact Mem.drop 13 (hx w h_)))
      have hMx_M_k1_2 := RoM.mono hM_relays (fun w h_ => (by first | exact hx w h_ | exact Mem.drop 1 (hx w h_) | exact Mem.drop 2 (hx w h_) | exact Mem.drop 3 (hx w h_) | exact Mem.drop 4 (hx w h_) | exact Mem.drop 5 (hx w h_) | exact Mem.drop 6 (hx w h_) | exact Mem.drop 7 (hx w h_) | exact Mem.drop 8 (hx w h_) | exact Mem.drop 9 (hx w h_) | exact Mem.drop 10 (hx w h_) | exact Mem.drop 11 (hx w h_) | exact Mem.drop 12 (hx w h_) | exact Mem.drop 13 (hx w h_)))
      have cpp_18 := rowCap h 10 rfl
      refine newL (o := [(Value.int .u32 0), (Value.int .i64 0), (Value.int .i64 0), (Value.bool false)]) h ?_
      intro b_17 w h
      refine storeL (ys := [(Value.int .u32 x_15.1), (Value.int .i64 x_15.2.1), (Value.int .i64 x_15.2.2.1), (Value.bool x_15.2.2.2)]) h 0 0 rfl rfl rfl sz36 rfl rfl ?_
      intro w h
      dsimp only [setH, setVs, setV] at h
      refine ⟨_, (by have := objAt h 1 rfl; rw [hst] at this; exact this : _ = some (Obj.loop (advert_Advert_Told_lo1 fn_e_5 e_5 d_3))), rfl, ?_⟩
      replace h := h.putK 1 rfl (.loop { advert_Advert_Told_lo1 fn_e_5 e_5 d_3 with state := .busy })
      dsimp only [setH] at h
      refine ⟨_, _, _, cellL h 10 0 rfl rfl rfl, ?_⟩
      refine ⟨_, cellL h 0 0 rfl rfl rfl, _, cellL h 0 1 rfl rfl rfl, _, cellL h 0 2 rfl rfl rfl, _, cellL h 0 3 rfl rfl rfl, ?_⟩
      refine slices_Contains_sl_api_Place_api_Place_ok (FL := cel b_17 36 [(Value.int .u32 x_15.1), (Value.int .i64 x_15.2.1), (Value.int .i64 x_15.2.2.1), (Value.bool x_15.2.2.2)] :: pt l_4 (.loop { advert_Advert_Told_lo1 fn_e_5 e_5 d_3 with state := .busy }) :: cel b_10 67 [(Value.func (Fn.func 39) #[] #[(Value.pointer (some (Addr.mk b_5 0 none)))]), (Value.func (Fn.func 53) #[] #[(Value.pointer (some (Addr.mk b_6 0 none)))]), (Value.func (Fn.func 44) #[] #[(Value.pointer (some (Addr.mk b_7 0 none))), (Value.pointer (some (Addr.mk b_8 0 none)))]), (Value.func (Fn.func 53) #[] #[(Value.pointer (some (Addr.mk b_9 0 none)))])] :: cel b_7 26 [(Value.slice p_4 seen.length c_2)] :: cel b_8 4 [(Value.bool x_3)] :: cel b_6 48 [(Value.slice p_5 x_2.length c_3)] :: row enc36 36 4 p_5 c_3 x_2 :: cel b_5 27 [(Value.pointer (some (Addr.mk b_1 0 none)))] :: cel b_1 58 [(Value.slice p_1 own.length c_1), (Value.map (some b_2)), (Value.map (some b_3))] :: row enc34 34 2 p_1 c_1 own :: cel b_4 48 [(Value.slice p_18 s_10.2.length c_16)] :: row enc36 36 4 p_18 c_16 s_10.2 :: FL2) (fun w h => (rowRd h 11 encL36 rfl)) rfl cpp_18 h hp ?_
      intro r_3 w h hp
      refine ⟨_, rfl, ?_⟩
      refine cond_both hp (fun hp => ?_) (fun hp => ?_)
      · refine ⟨_, objAt h 1 rfl, ?_⟩
        replace h := h.putK 1 rfl (loopS (advert_Advert_Told_lo1 fn_e_5 e_5 d_3) 0 (fun (n : Nat) => ((if n = 0 then none else (some (.exit 0))) : Option Code)))
        dsimp only [setH] at h
        replace h := h.pick [1]
        dsimp only [pickL, pickR, nthH, delH, dropH, List.cons_append, List.nil_append] at h
        replace h := h.sel [0, 1, 1, 1, 1, 1, 1, 1, 1, 1, 1] 1
        dsimp only [pickL, pickR, nthH, delH, dropH, List.cons_append, List.nil_append] at h
        exact hR true (0, s_10.2) _ (Mem.exsI p_18 (Mem.exsI c_16 (h.pack 11 [pt l_4 (loopS (advert_Advert_Told_lo1 fn_e_5 e_5 d_3) 0 (fun (n : Nat) => ((if n = 0 then none else (some (.exit 0))) : Option Code))), cel b_10 67 [(Value.func (Fn.func 39) #[] #[(Value.pointer (some (Addr.mk b_5 0 none)))]), (Value.func (Fn.func 53) #[] #[(Value.pointer (some (Addr.mk b_6 0 none)))]), (Value.func (Fn.func 44) #[] #[(Value.pointer (some (Addr.mk b_7 0 none))), (Value.pointer (some (Addr.mk b_8 0 none)))]), (Value.func (Fn.func 53) #[] #[(Value.pointer (some (Addr.mk b_9 0 none)))])], cel b_7 26 [(Value.slice p_4 seen.length c_2)], cel b_8 4 [(Value.bool x_3)], cel b_6 48 [(Value.slice p_5 x_2.length c_3)], row enc36 36 4 p_5 c_3 x_2, cel b_5 27 [(Value.pointer (some (Addr.mk b_1 0 none)))], cel b_1 58 [(Value.slice p_1 own.length c_1), (Value.map (some b_2)), (Value.map (some b_3))], row enc34 34 2 p_1 c_1 own, cel b_4 48 [(Value.slice p_18 s_10.2.length c_16)], row enc36 36 4 p_18 c_16 s_10.2] rfl))) hp
      refine ⟨_, _, _, cellL h 10 0 rfl rfl rfl, ?_⟩
      refine cond_both hp (fun hp => ?_) (fun hp => ?_)
      · refine ⟨_, objAt h 1 rfl, ?_⟩
        replace h := h.putK 1 rfl (loopS (advert_Advert_Told_lo1 fn_e_5 e_5 d_3) 1 (fun (n : Nat) => ((if n = 0 then none else (some (.exit 0))) : Option Code)))
        dsimp only [setH] at h
        replace h := h.pick [1]
        dsimp only [pickL, pickR, nthH, delH, dropH, List.cons_append, List.nil_append] at h
        replace h := h.sel [0, 1, 1, 1, 1, 1, 1, 1, 1, 1, 1] 1
        dsimp only [pickL, pickR, nthH, delH, dropH, List.cons_append, List.nil_append] at h
        exact hR false (1, s_10.2) _ (Mem.exsI p_18 (Mem.exsI c_16 (h.pack 11 [pt l_4 (loopS (advert_Advert_Told_lo1 fn_e_5 e_5 d_3) 1 (fun (n : Nat) => ((if n = 0 then none else (some (.exit 0))) : Option Code))), cel b_10 67 [(Value.func (Fn.func 39) #[] #[(Value.pointer (some (Addr.mk b_5 0 none)))]), (Value.func (Fn.func 53) #[] #[(Value.pointer (some (Addr.mk b_6 0 none)))]), (Value.func (Fn.func 44) #[] #[(Value.pointer (some (Addr.mk b_7 0 none))), (Value.pointer (some (Addr.mk b_8 0 none)))]), (Value.func (Fn.func 53) #[] #[(Value.pointer (some (Addr.mk b_9 0 none)))])], cel b_7 26 [(Value.slice p_4 seen.length c_2)], cel b_8 4 [(Value.bool x_3)], cel b_6 48 [(Value.slice p_5 x_2.length c_3)], row enc36 36 4 p_5 c_3 x_2, cel b_5 27 [(Value.pointer (some (Addr.mk b_1 0 none)))], cel b_1 58 [(Value.slice p_1 own.length c_1), (Value.map (some b_2)), (Value.map (some b_3))], row enc34 34 2 p_1 c_1 own, cel b_4 48 [(Value.slice p_18 s_10.2.length c_16)], row enc36 36 4 p_18 c_16 s_10.2] rfl))) hp
      refine ⟨_, _, _, cellL h 10 0 rfl rfl rfl, ?_⟩
      refine ⟨_, cellL h 0 0 rfl rfl rfl, _, cellL h 0 1 rfl rfl rfl, _, cellL h 0 2 rfl rfl rfl, _, cellL h 0 3 rfl rfl rfl, ?_⟩
      refine newL (o := [(Value.int .u32 x_15.1), (Value.int .i64 x_15.2.1), (Value.int .i64 x_15.2.2.1), (Value.bool x_15.2.2.2)]) h ?_
      intro b_18 w h
      have sr_3 := (celRd h 0 encL36 rfl [x_15] rfl)
      obtain ⟨hb, hp⟩ := hp
      refine appendL slt48 und48 encL36 encO36 h 12 rfl rfl sr_3 rfl hb ?_
      intro p_19 c_17 w h
      dsimp only [setH, setVs, setV] at h
      have cpp_19 := rowCap h 12 rfl
      refine ⟨_, _, _, rfl, ?_⟩
      refine storeL (ys := [(Value.slice p_19 (s_10.2 ++ [x_15]).length c_17)]) h 11 0 rfl rfl rfl sz48 rfl rfl ?_
      intro w h
      dsimp only [setH, setVs, setV] at h
      refine ⟨_, objAt h 2 rfl, ?_⟩
      replace h := h.putK 2 rfl (loopS (advert_Advert_Told_lo1 fn_e_5 e_5 d_3) 0 (fun (n : Nat) => ((if n = 0 then none else (some (.exit 0))) : Option Code)))
      dsimp only [setH] at h
      replace h := h.pick [2]
      dsimp only [pickL, pickR, nthH, delH, dropH, List.cons_append, List.nil_append] at h
      replace h := h.sel [0, 2, 2, 2, 2, 2, 2, 2, 2, 2, 2] 2
      dsimp only [pickL, pickR, nthH, delH, dropH, List.cons_append, List.nil_append] at h
      exact hR true (0, (s_10.2 ++ [x_15])) _ (Mem.exsI p_19 (Mem.exsI c_17 (h.pack 11 [pt l_4 (loopS (advert_Advert_Told_lo1 fn_e_5 e_5 d_3) 0 (fun (n : Nat) => ((if n = 0 then none else (some (.exit 0))) : Option Code))), cel b_10 67 [(Value.func (Fn.func 39) #[] #[(Value.pointer (some (Addr.mk b_5 0 none)))]), (Value.func (Fn.func 53) #[] #[(Value.pointer (some (Addr.mk b_6 0 none)))]), (Value.func (Fn.func 44) #[] #[(Value.pointer (some (Addr.mk b_7 0 none))), (Value.pointer (some (Addr.mk b_8 0 none)))]), (Value.func (Fn.func 53) #[] #[(Value.pointer (some (Addr.mk b_9 0 none)))])], cel b_7 26 [(Value.slice p_4 seen.length c_2)], cel b_8 4 [(Value.bool x_3)], cel b_6 48 [(Value.slice p_5 x_2.length c_3)], row enc36 36 4 p_5 c_3 x_2, cel b_5 27 [(Value.pointer (some (Addr.mk b_1 0 none)))], cel b_1 58 [(Value.slice p_1 own.length c_1), (Value.map (some b_2)), (Value.map (some b_3))], row enc34 34 2 p_1 c_1 own, cel b_4 48 [(Value.slice p_19 (s_10.2 ++ [x_15]).length c_17)], row enc36 36 4 p_19 c_17 (s_10.2 ++ [x_15])] rfl))) hp
    intro s_11 w h hp
    replace h := h.pick [1]
    dsimp only [pickL, pickR, nthH, delH, dropH, List.cons_append, List.nil_append] at h
    obtain ⟨p_20, h⟩ := Mem.exs h
    obtain ⟨c_18, h⟩ := Mem.exs h
    replace h := h.unpack
    dsimp only [pickL, pickR, nthH, delH, dropH, List.cons_append, List.nil_append] at h
    have cpp_20 := rowCap h 10 rfl
    refine ⟨_, objAt h 0 rfl, loopS_ns _, ?_⟩
    replace h := h.putK 0 rfl (.loop { advert_Advert_Told_lo1 fn_e_5 e_5 d_3 with state := .exhausted, pending := (fun (n : Nat) => ((if n = 0 then none else (some (.exit 0))) : Option Code)) s_11.1 })
    dsimp only [setH] at h
    rcases hp with ⟨hst, hp⟩ | ⟨hst, hp⟩
    · refine Or.inl ?_
      refine ⟨congrArg (fun (n : Nat) => ((if n = 0 then none else (some (.exit 0))) : Option Code)) hst, ?_⟩
      replace h := h.sel [1, 10, 11, 1, 1, 1, 1, 1, 1, 1, 1, 1, 1] 1
      dsimp only [pickL, pickR, nthH, delH, dropH, List.cons_append, List.nil_append] at h
      obtain ⟨n_14, hn, hp⟩ := hp
      exact ⟨n_14, hn, s_11.2, p_20, s_11.2.length, c_18, rfl, rfl, rfl, rfl, rfl, rfl, rfl, rfl, rfl, hp, h⟩
    · refine Or.inr (?_)
      refine ⟨show (fun (n : Nat) => ((if n = 0 then none else (some (.exit 0))) : Option Code)) s_11.1 = _ from if_neg hst, ?_⟩
      replace h := h.sel [1, 10, 11, 1, 1, 1, 1, 1, 1, 1, 1, 1, 1] 1
      dsimp only [pickL, pickR, nthH, delH, dropH, List.cons_append, List.nil_append] at h
      exact ⟨s_11.2, p_20, s_11.2.length, c_18, rfl, rfl, hp, h⟩

/-! embrasure/embrasurelaw21.awake (8) -/
def embrasurelaw21_awake_wp  (K : Bool → Prop) : Prop :=
  advert_New_wp (fun (own : List (Int × Int)) (mapped : List ((Int × Int) × Int)) (relays : List ((Int × Int × Int × Bool) × Int)) => advert_Advert_Own_wp own mapped relays [(167772161, 5)] (fun (r : Int) (own_1 : List (Int × Int)) => advert_Advert_Mapped_wp mapped relays 3405803777 7 9 (fun (r_1 : Int) (m_1 : List ((Int × Int) × Int)) => advert_Advert_Told_wp own_1 m_1 relays 8 ([] : List (Int × Int)) false (fun (rs : List (Int × Int × Int × Bool)) => cond ((r : Int) == 0) (cond ((r_1 : Int) == 0) (cond ((((rs.length : Nat) : Int) : Int) == 1) (0 ≤ (0 : Int) ∧ (0 : Int) < ((rs.length : Nat) : Int) ∧ (∀ (x_2 : Int × Int × Int × Bool), rs[Int.toNat 0]? = some x_2 → (cond (((x_2.1 : Int) == 3405803777) && (((x_2.2.1 : Int) == 7) && true)) (advert_Advert_Told_wp own_1 m_1 relays 9 ([] : List (Int × Int)) true (fun (rs_1 : List (Int × Int × Int × Bool)) => cond ((((rs_1.length : Nat) : Int) : Int) == 0) (advert_Inside_wp 3232235777 (fun (r_2 : Bool) => cond r_2 (advert_Inside_wp 3232301313 (fun (r_3 : Bool) => K (!r_3))) (K false))) (K false))) (K false)))) (K false)) (K false)) (K false)))))
theorem embrasurelaw21_awake_ok  {FL : List HP} {w : World} {K : Bool → Prop} {R : Value → World → Prop}
  (h : Mem (FL) w) (hp : embrasurelaw21_awake_wp  K)
  (hR : ∀ (r : Bool) (w : World), Mem (FL) w → K r → R (Value.bool r) w) :
  CallV Try.prog 8 #[] w R := by
  refine embrasurelaw21_awake_call ?_
  unfold embrasurelaw21_awake
  unfold embrasurelaw21_awake_wp at hp
  refine advert_New_ok h hp ?_
  rintro own mapped relays b_1 p_1 n_1 c_1 b_2 p_2 b_3 p_3 w rfl h hp
  have cpp_1 := rowCap h 1 rfl
  refine ⟨_, rfl, ?_⟩
  refine eqlPtrNil undP27 ?_
  refine ⟨_, rfl, ?_⟩
  refine cond_ff ?_
  refine newL (o := [(Value.int .u32 0), (Value.int .i64 0)]) h ?_
  intro b_4 w h
  refine storeL (ys := [(Value.int .u32 3405803777), (Value.int .i64 7)]) h 0 0 rfl rfl rfl sz34 rfl rfl ?_
  intro w h
  dsimp only [setH, setVs, setV] at h
  refine newL (o := [(Value.int .u32 167772161), (Value.int .i64 5)]) h ?_
  intro b_5 w h
  replace h := h.pick [2, 2]
  dsimp only [pickL, pickR, nthH, delH, dropH, List.cons_append, List.nil_append] at h
  have hMr_mk2 := romOf (h.drop 2) 2 rfl
  have hMr_mk3 := romOf (h.drop 2) 3 rfl
  refine advert_Advert_Own_ok (FL := cel b_5 34 [(Value.int .u32 167772161), (Value.int .i64 5)] :: cel b_4 34 [(Value.int .u32 3405803777), (Value.int .i64 7)] :: mapQ b_2 va34 va3 p_2 mapped :: mapQ b_3 va36 va3 p_3 relays :: FL) (fun w h => (celRd h 0 encL34 rfl [(167772161, 5)] rfl)) rfl (Nat.le_refl _) hMr_mk2 hMr_mk3 h hp ?_
  rintro r own_1 p_4 n_2 c_2 w rfl h hp
  have cpp_4 := rowCap h 1 rfl
  refine ⟨_, rfl, ?_⟩
  refine ⟨_, cellL h 3 0 rfl rfl rfl, _, cellL h 3 1 rfl rfl rfl, ?_⟩
  replace h := h.pick [0, 3]
  dsimp only [pickL, pickR, nthH, delH, dropH, List.cons_append, List.nil_append] at h
  have hMr_mk3 := romOf (h.drop 2) 3 rfl
  refine advert_Advert_Mapped_ok (FL := row enc34 34 2 p_4 c_2 own_1 :: cel b_5 34 [(Value.int .u32 167772161), (Value.int .i64 5)] :: cel b_4 34 [(Value.int .u32 3405803777), (Value.int .i64 7)] :: mapQ b_3 va36 va3 p_3 relays :: FL) hMr_mk3 h hp ?_
  intro r_1 m_1 p_5 w h hp
  refine ⟨_, rfl, ?_⟩
  replace h := h.pick [0, 1]
  dsimp only [pickL, pickR, nthH, delH, dropH, List.cons_append, List.nil_append] at h
  have hMr_mk2 := romOf (h.drop 2) 0 rfl
  have hMr_mk3 := romOf (h.drop 2) 3 rfl
  refine advert_Advert_Told_ok (FL := mapQ b_2 va34 va3 p_5 m_1 :: cel b_5 34 [(Value.int .u32 167772161), (Value.int .i64 5)] :: cel b_4 34 [(Value.int .u32 3405803777), (Value.int .i64 7)] :: mapQ b_3 va36 va3 p_3 relays :: FL) (fun w h => Rd.nil) rfl (Nat.le_refl _) hMr_mk2 hMr_mk3 h hp ?_
  rintro rs p_6 n_3 c_3 w rfl h hp
  have cpp_6 := rowCap h 0 rfl
  have cpp_4 := rowCap h 2 rfl
  refine ⟨_, _, _, rfl, ?_⟩
  replace h := h.drew
  refine ⟨fun w => Mem (row enc36 36 4 p_6 c_3 rs :: cel b_4 34 [(Value.int .u32 3405803777), (Value.int .i64 7)] :: FL) w, (h.sel [0, 4] 5), ?_⟩
  refine cond_both' hp (fun hp => ?_) (fun hp => ?_)
  · replace h := h.sel [] 7
    dsimp only [pickL, pickR, nthH, delH, dropH, List.cons_append, List.nil_append] at h
    exact hR false _ h hp
  refine cond_both' hp (fun hp => ?_) (fun hp => ?_)
  · replace h := h.sel [] 7
    dsimp only [pickL, pickR, nthH, delH, dropH, List.cons_append, List.nil_append] at h
    exact hR false _ h hp
  refine ⟨?_, ?_⟩
  · intro w h
    change Mem _ _ at h
    exact ⟨rfl, rfl⟩
  refine cond_both' hp (fun hp => ?_) (fun hp => ?_)
  · replace h := h.sel [] 7
    dsimp only [pickL, pickR, nthH, delH, dropH, List.cons_append, List.nil_append] at h
    exact hR false _ h hp
  obtain ⟨ia_1, ja_1, hp⟩ := hp
  obtain ⟨a_1, ha_1⟩ := rdAddr (rowRd h 0 encL36 rfl) rfl ia_1 ja_1
  refine ⟨a_1, ha_1, ia_1, ja_1, ?_⟩
  obtain ⟨x_2, hx_2, hc⟩ := rdCell2 (rowRd h 0 encL36 rfl) ha_1 rfl ia_1 ja_1
  replace hp := hp x_2 hx_2
  refine ⟨_, hc 0 0 _ rfl, _, hc 0 1 _ rfl, ?_⟩
  refine ⟨?_, ?_⟩
  · intro w h
    change Mem _ _ at h
    obtain ⟨x_1, hx_1, hcq⟩ := rdCell2 (rowRd h 0 encL36 rfl) ha_1 rfl ia_1 ja_1
    obtain rfl : x_1 = x_2 := Option.some.inj (hx_1.symm.trans hx_2)
    refine ⟨_, hcq 0 0 _ rfl, _, hcq 0 1 _ rfl, ?_⟩
    exact ⟨rfl, rfl⟩
  refine ⟨_, cellL h 5 0 rfl rfl rfl, _, cellL h 5 1 rfl rfl rfl, ?_⟩
  refine ⟨?_, ?_⟩
  · intro w h
    change Mem _ _ at h
    refine ⟨_, cellL h 1 0 rfl rfl rfl, _, cellL h 1 1 rfl rfl rfl, ?_⟩
    exact ⟨rfl, rfl⟩
  refine eqlAgg (xs := [(Value.int .u32 x_2.1), (Value.int .i64 x_2.2.1)]) (ys := [(Value.int .u32 3405803777), (Value.int .i64 7)]) eqG34 eqA34 (eqT34 x_2.1 x_2.2.1 3405803777 7) ?_
  refine ⟨_, rfl, ?_⟩
  refine ⟨?_, ?_⟩
  · intro w h
    change Mem _ _ at h
    refine eqlAgg (xs := [(Value.int .u32 x_2.1), (Value.int .i64 x_2.2.1)]) (ys := [(Value.int .u32 3405803777), (Value.int .i64 7)]) eqG34 eqA34 (eqT34 x_2.1 x_2.2.1 3405803777 7) ?_
    refine ⟨_, rfl, ?_⟩
    exact ⟨rfl, rfl⟩
  refine cond_both' hp (fun hp => ?_) (fun hp => ?_)
  · replace h := h.sel [] 7
    dsimp only [pickL, pickR, nthH, delH, dropH, List.cons_append, List.nil_append] at h
    exact hR false _ h hp
  replace h := h.pick [1, 1]
  dsimp only [pickL, pickR, nthH, delH, dropH, List.cons_append, List.nil_append] at h
  have hMr_mk2 := romOf (h.drop 2) 1 rfl
  have hMr_mk3 := romOf (h.drop 2) 4 rfl
  refine advert_Advert_Told_ok (FL := row enc36 36 4 p_6 c_3 rs :: mapQ b_2 va34 va3 p_5 m_1 :: cel b_5 34 [(Value.int .u32 167772161), (Value.int .i64 5)] :: cel b_4 34 [(Value.int .u32 3405803777), (Value.int .i64 7)] :: mapQ b_3 va36 va3 p_3 relays :: FL) (fun w h => Rd.nil) rfl (Nat.le_refl _) hMr_mk2 hMr_mk3 h hp ?_
  rintro rs_1 p_7 n_4 c_4 w rfl h hp
  have cpp_7 := rowCap h 0 rfl
  have cpp_4 := rowCap h 2 rfl
  refine ⟨_, _, _, rfl, ?_⟩
  refine ⟨(h.sel [3, 5] 6), ?_⟩
  refine ⟨?_, ?_⟩
  · intro w h
    change Mem _ _ at h
    exact ⟨rfl, rfl⟩
  refine cond_both' hp (fun hp => ?_) (fun hp => ?_)
  · replace h := h.sel [] 8
    dsimp only [pickL, pickR, nthH, delH, dropH, List.cons_append, List.nil_append] at h
    exact hR false _ h hp
  refine advert_Inside_ok h hp ?_
  intro r_2 w h hp
  refine ⟨_, rfl, ?_⟩
  refine ⟨(h.sel [3, 5] 6), ?_⟩
  refine cond_both' hp (fun hp => ?_) (fun hp => ?_)
  · replace h := h.sel [] 8
    dsimp only [pickL, pickR, nthH, delH, dropH, List.cons_append, List.nil_append] at h
    exact hR false _ h hp
  refine advert_Inside_ok h hp ?_
  intro r_3 w h hp
  refine ⟨_, rfl, ?_⟩
  refine ⟨(h.sel [3, 5] 6), ?_⟩
  replace h := h.sel [] 8
  dsimp only [pickL, pickR, nthH, delH, dropH, List.cons_append, List.nil_append] at h
  exact hR (!r_3) _ h hp

/-! embrasure/embrasureref21.Inside (10) -/
def embrasureref21_Inside_wp (h_1 : Int) (K : Bool → Prop) : Prop :=
  cond (decide ((h_1 : Int) ≥ 167772160)) (cond (decide ((h_1 : Int) ≤ 184549375)) (K true) (cond (decide ((h_1 : Int) ≥ 2886729728)) (cond (decide ((h_1 : Int) ≤ 2887778303)) (K true) (cond (decide ((h_1 : Int) ≥ 3232235520)) (K (decide ((h_1 : Int) ≤ 3232301055))) (K false))) (cond (decide ((h_1 : Int) ≥ 3232235520)) (K (decide ((h_1 : Int) ≤ 3232301055))) (K false)))) (cond (decide ((h_1 : Int) ≥ 2886729728)) (cond (decide ((h_1 : Int) ≤ 2887778303)) (K true) (cond (decide ((h_1 : Int) ≥ 3232235520)) (K (decide ((h_1 : Int) ≤ 3232301055))) (K false))) (cond (decide ((h_1 : Int) ≥ 3232235520)) (K (decide ((h_1 : Int) ≤ 3232301055))) (K false)))
theorem embrasureref21_Inside_ok {h_1 : Int} {FL : List HP} {w : World} {K : Bool → Prop} {R : Value → World → Prop}
  (h : Mem (FL) w) (hp : embrasureref21_Inside_wp h_1 K)
  (hR : ∀ (r : Bool) (w : World), Mem (FL) w → K r → R (Value.bool r) w) :
  CallV Try.prog 10 #[(Value.int .u32 h_1)] w R := by
  refine embrasureref21_Inside_call ?_
  unfold embrasureref21_Inside
  unfold embrasureref21_Inside_wp at hp
  refine cond_both' hp (fun hp => ?_) (fun hp => ?_)
  · refine cond_both' hp (fun hp => ?_) (fun hp => ?_)
    · refine cond_both hp (fun hp => ?_) (fun hp => ?_)
      · exact hR (decide ((h_1 : Int) ≤ 3232301055)) _ h hp
      exact hR false _ h hp
    refine cond_both hp (fun hp => ?_) (fun hp => ?_)
    · exact hR true _ h hp
    refine cond_both hp (fun hp => ?_) (fun hp => ?_)
    · exact hR (decide ((h_1 : Int) ≤ 3232301055)) _ h hp
    exact hR false _ h hp
  refine cond_both hp (fun hp => ?_) (fun hp => ?_)
  · exact hR true _ h hp
  refine cond_both' hp (fun hp => ?_) (fun hp => ?_)
  · refine cond_both hp (fun hp => ?_) (fun hp => ?_)
    · exact hR (decide ((h_1 : Int) ≤ 3232301055)) _ h hp
    exact hR false _ h hp
  refine cond_both hp (fun hp => ?_) (fun hp => ?_)
  · exact hR true _ h hp
  refine cond_both hp (fun hp => ?_) (fun hp => ?_)
  · exact hR (decide ((h_1 : Int) ≤ 3232301055)) _ h hp
  exact hR false _ h hp

/-! embrasure/embrasurelaw21.AdvertInside (3) -/
def embrasurelaw21_AdvertInside_wp (host : Int) (K : Bool → Prop) : Prop :=
  embrasurelaw21_awake_wp (fun (r : Bool) => cond (!r) (K false) (advert_Inside_wp host (fun (r_1 : Bool) => embrasureref21_Inside_wp host (fun (r_2 : Bool) => K (r_1 == r_2)))))
theorem embrasurelaw21_AdvertInside_ok {host : Int} {FL : List HP} {w : World} {K : Bool → Prop} {R : Value → World → Prop}
  (h : Mem (FL) w) (hp : embrasurelaw21_AdvertInside_wp host K)
  (hR : ∀ (r : Bool) (w : World), Mem (FL) w → K r → R (Value.bool r) w) :
  CallV Try.prog 3 #[(Value.int .u32 host)] w R := by
  refine embrasurelaw21_AdvertInside_call ?_
  unfold embrasurelaw21_AdvertInside
  unfold embrasurelaw21_AdvertInside_wp at hp
  refine embrasurelaw21_awake_ok h hp ?_
  intro r w h hp
  refine ⟨_, rfl, ?_⟩
  refine cond_both hp (fun hp => ?_) (fun hp => ?_)
  · exact hR false _ h hp
  refine advert_Inside_ok h hp ?_
  intro r_1 w h hp
  refine ⟨_, rfl, ?_⟩
  refine embrasureref21_Inside_ok h hp ?_
  intro r_2 w h hp
  refine ⟨_, rfl, ?_⟩
  refine eqlBool undB4 ?_
  refine ⟨_, rfl, ?_⟩
  exact hR (r_1 == r_2) _ h hp

/-! embrasure/embrasureref03.May (15) -/
def embrasureref03_May_wp (a_Host : Int) (a_Port : Int) (K : Bool → Prop) : Prop :=
  cond (decide ((a_Host : Int) > 0)) (cond (decide ((a_Port : Int) > 0)) (K (decide ((a_Port : Int) < 65536))) (K false)) (K false)
theorem embrasureref03_May_ok {a_Host : Int} {a_Port : Int} {FL : List HP} {w : World} {K : Bool → Prop} {R : Value → World → Prop}
  (h : Mem (FL) w) (hp : embrasureref03_May_wp a_Host a_Port K)
  (hR : ∀ (r : Bool) (w : World), Mem (FL) w → K r → R (Value.bool r) w) :
  CallV Try.prog 15 #[(Value.agg #[(Value.int .u32 a_Host), (Value.int .i64 a_Port)])] w R := by
  refine embrasureref03_May_call ?_
  unfold embrasureref03_May
  unfold embrasureref03_May_wp at hp
  refine newL (o := [(Value.int .u32 a_Host), (Value.int .i64 a_Port)]) h ?_
  intro b_1 w h
  refine ⟨_, cellL h 0 0 rfl rfl rfl, ?_⟩
  refine cond_both' hp (fun hp => ?_) (fun hp => ?_)
  · replace h := h.sel [] 1
    dsimp only [pickL, pickR, nthH, delH, dropH, List.cons_append, List.nil_append] at h
    exact hR false _ h hp
  refine ⟨_, cellL h 0 1 rfl rfl rfl, ?_⟩
  refine cond_both' hp (fun hp => ?_) (fun hp => ?_)
  · replace h := h.sel [] 1
    dsimp only [pickL, pickR, nthH, delH, dropH, List.cons_append, List.nil_append] at h
    exact hR false _ h hp
  refine ⟨_, cellL h 0 1 rfl rfl rfl, ?_⟩
  replace h := h.sel [] 1
  dsimp only [pickL, pickR, nthH, delH, dropH, List.cons_append, List.nil_append] at h
  exact hR (decide ((a_Port : Int) < 65536)) _ h hp

/-! (*embrasure/embrasureref21.Advert).SetOwn (13) -/
def embrasureref21_Advert_SetOwn_wp (Own : List (Int × Int)) (l_1 : List (Int × Int)) (K : Int → List (Int × Int) → Prop) : Prop :=
  joinP0 (cond (decide ((((l_1.length : Nat) : Int) : Int) > 8)) (K 1 Own) ((([] : List (Int × Int)).length + l_1.length) * 16 ≤ 140737488355328 ∧ (K 0 (([] : List (Int × Int)) ++ l_1)))) (fun (Q : Prop) => ∃ (I : Nat → Int → Prop), (∃ (n_7 : Nat), I n_7 0) ∧ ∀ (n_5 : Nat) (i5 : Int), I n_5 i5 → (cond (decide ((i5 : Int) < ((l_1.length : Nat) : Int))) (0 ≤ (i5 : Int) ∧ (i5 : Int) < ((l_1.length : Nat) : Int) ∧ (∀ (x_1 : Int × Int), l_1[Int.toNat i5]? = some x_1 → (embrasureref03_May_wp x_1.1 x_1.2 (fun (r : Bool) => cond (!r) (K 1 Own) (∃ (n_6 : Nat), n_6 < n_5 ∧ I n_6 (IntKind.wrap .i64 (i5 + 1))))))) (Q )))
theorem embrasureref21_Advert_SetOwn_ok {b_1 : Nat} {p_1 : Option Addr} {c_1 : Nat} {p_2 : Option Addr} {n_1 : Nat} {c_2 : Nat} {p_3 : Option Addr} {n_2 : Nat} {c_3 : Nat} {p_4 : Option Addr} {n_3 : Nat} {c_4 : Nat} {Own : List (Int × Int)} {l_1 : List (Int × Int)} {FL : List HP} {w : World} {K : Int → List (Int × Int) → Prop} {R : Value → World → Prop}
  (hF_l_1 : ∀ w, Mem FL w → Rd w 2 p_4 enc34 l_1) (hl_l_1 : n_3 = l_1.length) (hc_l_1 : n_3 ≤ c_4)
  (h : Mem (cel b_1 32 [(Value.slice p_1 Own.length c_1), (Value.slice p_2 n_1 c_2), (Value.slice p_3 n_2 c_3)] :: row enc34 34 2 p_1 c_1 Own :: FL) w) (hp : embrasureref21_Advert_SetOwn_wp Own l_1 K)
  (hR : ∀ (r : Int) (Own_1 : List (Int × Int)) (p_5 : Option Addr) (n_4 : Nat) (c_5 : Nat) (w : World), n_4 = Own_1.length → Mem (cel b_1 32 [(Value.slice p_5 n_4 c_5), (Value.slice p_2 n_1 c_2), (Value.slice p_3 n_2 c_3)] :: row enc34 34 2 p_5 c_5 Own_1 :: FL) w → K r Own_1 → R (Value.int .i64 r) w) :
  CallV Try.prog 13 #[(Value.pointer (some (Addr.mk b_1 0 none))), (Value.slice p_4 n_3 c_4)] w R := by
  refine embrasureref21_Advert_SetOwn_call ?_
  unfold embrasureref21_Advert_SetOwn
  unfold embrasureref21_Advert_SetOwn_wp at hp
  subst hl_l_1
  have cpp_1 := rowCap h 1 rfl
  obtain ⟨Q, hq, hp⟩ := hp
  refine ⟨fun a0 l1p l1l l1c w => (some (Addr.mk b_1 0 none)) = a0 ∧ p_4 = l1p ∧ l_1.length = l1l ∧ c_4 = l1c ∧ Q ∧ Mem (cel b_1 32 [(Value.slice p_1 Own.length c_1), (Value.slice p_2 n_1 c_2), (Value.slice p_3 n_2 c_3)] :: row enc34 34 2 p_1 c_1 Own :: FL) w, ?_, ?_⟩
  · rintro a0 l1p l1l l1c w ⟨rfl, rfl, rfl, rfl, hp, h⟩
    replace hp := hq  hp
    unfold embrasureref21_Advert_SetOwn_j1
    refine cond_both hp (fun hp => ?_) (fun hp => ?_)
    · exact hR 1 Own p_1 Own.length c_1 _ rfl h hp
    refine newL (o := []) h ?_
    intro b_2 w h
    have sr := (hF_l_1 _ (h.drop 3))
    replace h := rowOfCel h 0 encL34 rfl ([] : List (Int × Int)) rfl
    dsimp only [setH, setVs, setV] at h
    obtain ⟨hb, hp⟩ := hp
    refine appendL slt26 und26 encL34 encO34 h 0 rfl rfl sr rfl hb ?_
    intro p_6 c_6 w h
    dsimp only [setH, setVs, setV] at h
    have cpp_6 := rowCap h 0 rfl
    refine ⟨_, _, _, rfl, ?_⟩
    refine ⟨_, rfl, ?_⟩
    refine storeL (ys := [(Value.slice p_6 (([] : List (Int × Int)) ++ l_1).length c_6)]) h 1 0 rfl rfl rfl sz26 rfl rfl ?_
    intro w h
    dsimp only [setH, setVs, setV] at h
    replace h := h.sel [1, 0] 1
    dsimp only [pickL, pickR, nthH, delH, dropH, List.cons_append, List.nil_append] at h
    exact hR 0 (([] : List (Int × Int)) ++ l_1) p_6 ((([] : List (Int × Int)) ++ l_1).length) c_6 _ rfl h hp
  clear hq
  obtain ⟨I, ⟨n_7, h0⟩, hq⟩ := hp
  refine ⟨fun n_5 a0_1 l1_1p l1_1l l1_1c i5 w => (some (Addr.mk b_1 0 none)) = a0_1 ∧ p_4 = l1_1p ∧ l_1.length = l1_1l ∧ c_4 = l1_1c ∧ I n_5 i5 ∧ Mem (cel b_1 32 [(Value.slice p_1 Own.length c_1), (Value.slice p_2 n_1 c_2), (Value.slice p_3 n_2 c_3)] :: row enc34 34 2 p_1 c_1 Own :: FL) w, ⟨n_7, rfl, rfl, rfl, rfl, h0, h⟩, ?_⟩
  clear h0 h
  rintro n_5 a0_1 l1_1p l1_1l l1_1c i5 w ⟨rfl, rfl, rfl, rfl, hp, h⟩
  replace hp := hq n_5 i5 hp
  clear hq
  unfold embrasureref21_Advert_SetOwn_l2
  refine cond_both' hp (fun hp => ?_) (fun hp => ?_)
  · exact ⟨rfl, rfl, rfl, rfl, hp, h⟩
  obtain ⟨ia_1, ja_1, hp⟩ := hp
  obtain ⟨a_1, ha_1⟩ := rdAddr (hF_l_1 _ (h.drop 2)) rfl ia_1 ja_1
  refine ⟨a_1, ha_1, ia_1, ja_1, ?_⟩
  obtain ⟨x_1, hx_1, hc⟩ := rdCell (hF_l_1 _ (h.drop 2)) ha_1 rfl ia_1 ja_1
  replace hp := hp x_1 hx_1
  refine ⟨_, hc 0 _ rfl, _, hc 1 _ rfl, ?_⟩
  refine embrasureref03_May_ok h hp ?_
  intro r w h hp
  refine ⟨_, rfl, ?_⟩
  refine cond_both hp (fun hp => ?_) (fun hp => ?_)
  · exact hR 1 Own p_1 Own.length c_1 _ rfl h hp
  obtain ⟨n_6, hn, hp⟩ := hp
  exact ⟨n_6, hn, rfl, rfl, rfl, rfl, hp, h⟩

/-! embrasure/embrasureref03.Less (28) -/
def embrasureref03_Less_wp (a_Host : Int) (a_Port : Int) (b_Host : Int) (b_Port : Int) (K : Bool → Prop) : Prop :=
  cond (decide ((a_Host : Int) < b_Host)) (K true) (cond ((a_Host : Int) == b_Host) (K (decide ((a_Port : Int) < b_Port))) (K false))
theorem embrasureref03_Less_ok {a_Host : Int} {a_Port : Int} {b_Host : Int} {b_Port : Int} {FL : List HP} {w : World} {K : Bool → Prop} {R : Value → World → Prop}
  (h : Mem (FL) w) (hp : embrasureref03_Less_wp a_Host a_Port b_Host b_Port K)
  (hR : ∀ (r : Bool) (w : World), Mem (FL) w → K r → R (Value.bool r) w) :
  CallV Try.prog 28 #[(Value.agg #[(Value.int .u32 a_Host), (Value.int .i64 a_Port)]), (Value.agg #[(Value.int .u32 b_Host), (Value.int .i64 b_Port)])] w R := by
  refine embrasureref03_Less_call ?_
  unfold embrasureref03_Less
  unfold embrasureref03_Less_wp at hp
  refine newL (o := [(Value.int .u32 a_Host), (Value.int .i64 a_Port)]) h ?_
  intro b_1 w h
  refine newL (o := [(Value.int .u32 b_Host), (Value.int .i64 b_Port)]) h ?_
  intro b_2 w h
  refine ⟨_, cellL h 1 0 rfl rfl rfl, ?_⟩
  refine ⟨_, cellL h 0 0 rfl rfl rfl, ?_⟩
  refine cond_both hp (fun hp => ?_) (fun hp => ?_)
  · replace h := h.sel [] 2
    dsimp only [pickL, pickR, nthH, delH, dropH, List.cons_append, List.nil_append] at h
    exact hR true _ h hp
  refine ⟨_, cellL h 1 0 rfl rfl rfl, ?_⟩
  refine ⟨_, cellL h 0 0 rfl rfl rfl, ?_⟩
  refine cond_both' hp (fun hp => ?_) (fun hp => ?_)
  · replace h := h.sel [] 2
    dsimp only [pickL, pickR, nthH, delH, dropH, List.cons_append, List.nil_append] at h
    exact hR false _ h hp
  refine ⟨_, cellL h 1 1 rfl rfl rfl, ?_⟩
  refine ⟨_, cellL h 0 1 rfl rfl rfl, ?_⟩
  replace h := h.sel [] 2
  dsimp only [pickL, pickR, nthH, delH, dropH, List.cons_append, List.nil_append] at h
  exact hR (decide ((a_Port : Int) < b_Port)) _ h hp

/-! embrasure/embrasureref21.Set (16) -/
def embrasureref21_Set_wp (l_1 : List (Int × Int × Int × Bool × Int)) (p_Addr : Int) (p_Addr_1 : Int) (p_ID : Int) (p_Via : Bool) (until_ : Int) (K : Int → Prop) (KX1 : List (Int × Int × Int × Bool × Int) → Int → Prop) : Prop :=
  joinP3 (fun (out : List (Int × Int × Int × Bool × Int)) (there9 : Bool) (put10 : Bool) => joinP1 (fun (out_3 : List (Int × Int × Int × Bool × Int)) => joinP1 (fun (t95 : Bool) => cond t95 (K 10) (KX1 out_3 0)) (fun (Q_5 : Bool → Prop) => cond (decide ((until_ : Int) > 0)) (cond (!there9) (Q_5 (decide ((((l_1.length : Nat) : Int) : Int) ≥ 20))) (Q_5 false)) (Q_5 false))) (fun (Q_4 : List (Int × Int × Int × Bool × Int) → Prop) => cond (!put10) ((out.length + [(p_Addr, p_Addr_1, p_ID, p_Via, until_)].length) * 40 ≤ 140737488355328 ∧ (Q_4 (out ++ [(p_Addr, p_Addr_1, p_ID, p_Via, until_)]))) (Q_4 out))) (fun (Q : List (Int × Int × Int × Bool × Int) → Bool → Bool → Prop) => ∃ (I : Nat → List (Int × Int × Int × Bool × Int) → Bool → Bool → Int → Prop), (∃ (n_5 : Nat), I n_5 ([] : List (Int × Int × Int × Bool × Int)) false (decide ((until_ : Int) ≤ 0)) 0) ∧ ∀ (n_2 : Nat) (out_1 : List (Int × Int × Int × Bool × Int)) (there9_1 : Bool) (put10_1 : Bool) (i11 : Int), I n_2 out_1 there9_1 put10_1 i11 → (cond (decide ((i11 : Int) < ((l_1.length : Nat) : Int))) (0 ≤ (i11 : Int) ∧ (i11 : Int) < ((l_1.length : Nat) : Int) ∧ (∀ (x_1 : Int × Int × Int × Bool × Int), l_1[Int.toNat i11]? = some x_1 → (cond ((((x_1.1 : Int) == p_Addr) && (((x_1.2.1 : Int) == p_Addr_1) && true)) && (((x_1.2.2.1 : Int) == p_ID) && ((x_1.2.2.2.1 == p_Via) && true))) (∃ (n_3 : Nat), n_3 < n_2 ∧ I n_3 out_1 true put10_1 (IntKind.wrap .i64 (i11 + 1))) (joinP1 (fun (ahead12 : Bool) => joinP2 (fun (out_2 : List (Int × Int × Int × Bool × Int)) (put10_3 : Bool) => 0 ≤ (i11 : Int) ∧ (i11 : Int) < ((l_1.length : Nat) : Int) ∧ (∀ (x_5 : Int × Int × Int × Bool × Int), l_1[Int.toNat i11]? = some x_5 → ((out_2.length + [x_5].length) * 40 ≤ 140737488355328 ∧ (∃ (n_4 : Nat), n_4 < n_2 ∧ I n_4 (out_2 ++ [x_5]) there9_1 put10_3 (IntKind.wrap .i64 (i11 + 1)))))) (fun (Q_2 : List (Int × Int × Int × Bool × Int) → Bool → Prop) => joinP1 (fun (t63 : Bool) => cond t63 ((out_1.length + [(p_Addr, p_Addr_1, p_ID, p_Via, until_)].length) * 40 ≤ 140737488355328 ∧ (Q_2 (out_1 ++ [(p_Addr, p_Addr_1, p_ID, p_Via, until_)]) true)) (Q_2 out_1 put10_1)) (fun (Q_3 : Bool → Prop) => cond (!put10_1) (Q_3 ahead12) (Q_3 false)))) (fun (Q_1 : Bool → Prop) => 0 ≤ (i11 : Int) ∧ (i11 : Int) < ((l_1.length : Nat) : Int) ∧ (∀ (x_2 : Int × Int × Int × Bool × Int), l_1[Int.toNat i11]? = some x_2 → (embrasureref03_Less_wp p_Addr p_Addr_1 x_2.1 x_2.2.1 (fun (r : Bool) => cond r (Q_1 true) (0 ≤ (i11 : Int) ∧ (i11 : Int) < ((l_1.length : Nat) : Int) ∧ (∀ (x_3 : Int × Int × Int × Bool × Int), l_1[Int.toNat i11]? = some x_3 → (cond (((p_Addr : Int) == x_3.1) && (((p_Addr_1 : Int) == x_3.2.1) && true)) (0 ≤ (i11 : Int) ∧ (i11 : Int) < ((l_1.length : Nat) : Int) ∧ (∀ (x_4 : Int × Int × Int × Bool × Int), l_1[Int.toNat i11]? = some x_4 → (Q_1 (decide ((p_ID : Int) < x_4.2.2.1))))) (Q_1 false)))))))))))) (Q out_1 there9_1 put10_1)))
theorem embrasureref21_Set_ok {p_1 : Option Addr} {n_1 : Nat} {c_1 : Nat} {l_1 : List (Int × Int × Int × Bool × Int)} {p_Addr : Int} {p_Addr_1 : Int} {p_ID : Int} {p_Via : Bool} {until_ : Int} {FL : List HP} {w : World} {K : Int → Prop} {KX1 : List (Int × Int × Int × Bool × Int) → Int → Prop} {R : Value → World → Prop}
  (hF_l_1 : ∀ w, Mem FL w → Rd w 5 p_1 enc63 l_1) (hl_l_1 : n_1 = l_1.length) (hc_l_1 : n_1 ≤ c_1)
  (h : Mem (FL) w) (hp : embrasureref21_Set_wp l_1 p_Addr p_Addr_1 p_ID p_Via until_ K KX1)
  (hR : ∀ (r : Int) (w : World), Mem (FL) w → K r → R (Value.tuple #[(Value.slice p_1 n_1 c_1), (Value.int .i64 r)]) w)
  (hRX1 : ∀ (rs : List (Int × Int × Int × Bool × Int)) (r : Int) (p_2 : Option Addr) (n_2 : Nat) (c_2 : Nat) (w : World), n_2 = rs.length → Mem (row enc63 63 5 p_2 c_2 rs :: FL) w → KX1 rs r → R (Value.tuple #[(Value.slice p_2 n_2 c_2), (Value.int .i64 r)]) w) :
  CallV Try.prog 16 #[(Value.slice p_1 n_1 c_1), (Value.agg #[(Value.int .u32 p_Addr), (Value.int .i64 p_Addr_1), (Value.int .i64 p_ID), (Value.bool p_Via)]), (Value.int .i64 until_)] w R := by
  refine embrasureref21_Set_call ?_
  unfold embrasureref21_Set
  unfold embrasureref21_Set_wp at hp
  subst hl_l_1
  refine newL (o := [(Value.int .u32 p_Addr), (Value.int .i64 p_Addr_1), (Value.int .i64 p_ID), (Value.bool p_Via)]) h ?_
  intro b_1 w h
  obtain ⟨Q, hq, hp⟩ := hp
  refine ⟨fun l0p l0l l0c until2 p4 out8p out8l out8c there9 put10 w => ∃ (out : List (Int × Int × Int × Bool × Int)), p_1 = l0p ∧ l_1.length = l0l ∧ c_1 = l0c ∧ until_ = until2 ∧ (Addr.mk b_1 0 none) = p4 ∧ out8l = out.length ∧ Q out there9 put10 ∧ Mem (cel b_1 36 [(Value.int .u32 p_Addr), (Value.int .i64 p_Addr_1), (Value.int .i64 p_ID), (Value.bool p_Via)] :: row enc63 63 5 out8p out8c out :: FL) w, ?_, ?_⟩
  · rintro l0p l0l l0c until2 p4 out8p out8l out8c there9 put10 w ⟨out, rfl, rfl, rfl, rfl, rfl, rfl, hp, h⟩
    replace hp := hq out there9 put10 hp
    unfold embrasureref21_Set_j1
    have cpout8p := rowCap h 1 rfl
    obtain ⟨Q_4, hq, hp⟩ := hp
    refine ⟨fun l0_5p l0_5l l0_5c until2_5 out8_5p out8_5l out8_5c there9_5 w => ∃ (out_3 : List (Int × Int × Int × Bool × Int)), p_1 = l0_5p ∧ l_1.length = l0_5l ∧ c_1 = l0_5c ∧ until_ = until2_5 ∧ there9 = there9_5 ∧ out8_5l = out_3.length ∧ Q_4 out_3 ∧ Mem (cel b_1 36 [(Value.int .u32 p_Addr), (Value.int .i64 p_Addr_1), (Value.int .i64 p_ID), (Value.bool p_Via)] :: row enc63 63 5 out8_5p out8_5c out_3 :: FL) w, ?_, ?_⟩
    · rintro l0_5p l0_5l l0_5c until2_5 out8_5p out8_5l out8_5c there9_5 w ⟨out_3, rfl, rfl, rfl, rfl, rfl, rfl, hp, h⟩
      replace hp := hq out_3 hp
      unfold embrasureref21_Set_j2
      have cpout8_5p := rowCap h 1 rfl
      obtain ⟨Q_5, hq, hp⟩ := hp
      refine ⟨fun l0_6p l0_6l l0_6c out8_6p out8_6l out8_6c t95 w => p_1 = l0_6p ∧ l_1.length = l0_6l ∧ c_1 = l0_6c ∧ out8_5p = out8_6p ∧ out_3.length = out8_6l ∧ out8_5c = out8_6c ∧ Q_5 t95 ∧ Mem (cel b_1 36 [(Value.int .u32 p_Addr), (Value.int .i64 p_Addr_1), (Value.int .i64 p_ID), (Value.bool p_Via)] :: row enc63 63 5 out8_5p out8_5c out_3 :: FL) w, ?_, ?_⟩
      · rintro l0_6p l0_6l l0_6c out8_6p out8_6l out8_6c t95 w ⟨rfl, rfl, rfl, rfl, rfl, rfl, hp, h⟩
        replace hp := hq t95 hp
        unfold embrasureref21_Set_j3
        refine cond_both hp (fun hp => ?_) (fun hp => ?_)
        · replace h := h.sel [] 2
          dsimp only [pickL, pickR, nthH, delH, dropH, List.cons_append, List.nil_append] at h
          exact hR 10 _ h hp
        replace h := h.sel [1] 1
        dsimp only [pickL, pickR, nthH, delH, dropH, List.cons_append, List.nil_append] at h
        exact hRX1 out_3 0 out8_5p out_3.length out8_5c _ rfl h hp
      clear hq
      refine cond_both' hp (fun hp => ?_) (fun hp => ?_)
      · exact ⟨rfl, rfl, rfl, rfl, rfl, rfl, hp, h⟩
      refine cond_both hp (fun hp => ?_) (fun hp => ?_)
      · exact ⟨rfl, rfl, rfl, rfl, rfl, rfl, hp, h⟩
      exact ⟨rfl, rfl, rfl, rfl, rfl, rfl, hp, h⟩
    clear hq
    refine cond_both' hp (fun hp => ?_) (fun hp => ?_)
    · exact ⟨out, rfl, rfl, rfl, rfl, rfl, rfl, hp, h⟩
    refine ⟨_, cellL h 0 0 rfl rfl rfl, _, cellL h 0 1 rfl rfl rfl, _, cellL h 0 2 rfl rfl rfl, _, cellL h 0 3 rfl rfl rfl, ?_⟩
    refine newL (o := [(Value.int .u32 p_Addr), (Value.int .i64 p_Addr_1), (Value.int .i64 p_ID), (Value.bool p_Via), (Value.int .i64 until_)]) h ?_
    intro b_4 w h
    have sr_2 := (celRd h 0 encL63 rfl [(p_Addr, p_Addr_1, p_ID, p_Via, until_)] rfl)
    obtain ⟨hb, hp⟩ := hp
    refine appendL slt30 und30 encL63 encO63 h 2 rfl rfl sr_2 rfl hb ?_
    intro p_5 c_4 w h
    dsimp only [setH, setVs, setV] at h
    have cpp_5 := rowCap h 2 rfl
    refine ⟨_, _, _, rfl, ?_⟩
    replace h := h.sel [1, 1] 1
    dsimp only [pickL, pickR, nthH, delH, dropH, List.cons_append, List.nil_append] at h
    exact ⟨(out ++ [(p_Addr, p_Addr_1, p_ID, p_Via, until_)]), rfl, rfl, rfl, rfl, rfl, rfl, hp, h⟩
  clear hq
  obtain ⟨I, ⟨n_5, h0⟩, hq⟩ := hp
  replace h := rowNil enc63 63 5 h
  replace h := h.sel [1, 0] 0
  dsimp only [pickL, pickR, nthH, delH, dropH, List.cons_append, List.nil_append] at h
  refine ⟨fun n_2 l0_1p l0_1l l0_1c until2_1 p4_1 out8_1p out8_1l out8_1c there9_1 put10_1 i11 w => ∃ (out_1 : List (Int × Int × Int × Bool × Int)), p_1 = l0_1p ∧ l_1.length = l0_1l ∧ c_1 = l0_1c ∧ until_ = until2_1 ∧ (Addr.mk b_1 0 none) = p4_1 ∧ out8_1l = out_1.length ∧ I n_2 out_1 there9_1 put10_1 i11 ∧ Mem (cel b_1 36 [(Value.int .u32 p_Addr), (Value.int .i64 p_Addr_1), (Value.int .i64 p_ID), (Value.bool p_Via)] :: row enc63 63 5 out8_1p out8_1c out_1 :: FL) w, ⟨n_5, ([] : List (Int × Int × Int × Bool × Int)), rfl, rfl, rfl, rfl, rfl, rfl, h0, h⟩, ?_⟩
  clear h0 h
  rintro n_2 l0_1p l0_1l l0_1c until2_1 p4_1 out8_1p out8_1l out8_1c there9_1 put10_1 i11 w ⟨out_1, rfl, rfl, rfl, rfl, rfl, rfl, hp, h⟩
  replace hp := hq n_2 out_1 there9_1 put10_1 i11 hp
  clear hq
  unfold embrasureref21_Set_l4
  have cpout8_1p := rowCap h 1 rfl
  refine cond_both' hp (fun hp => ?_) (fun hp => ?_)
  · exact ⟨out_1, rfl, rfl, rfl, rfl, rfl, rfl, hp, h⟩
  replace h := h.drew
  obtain ⟨ia_1, ja_1, hp⟩ := hp
  obtain ⟨a_1, ha_1⟩ := rdAddr (hF_l_1 _ (h.drop 2)) rfl ia_1 ja_1
  refine ⟨a_1, ha_1, ia_1, ja_1, ?_⟩
  obtain ⟨x_1, hx_1, hc⟩ := rdCell2 (hF_l_1 _ (h.drop 2)) ha_1 rfl ia_1 ja_1
  replace hp := hp x_1 hx_1
  refine ⟨_, hc 0 0 _ rfl, _, hc 0 1 _ rfl, _, hc 0 2 _ rfl, _, hc 0 3 _ rfl, ?_⟩
  refine ⟨_, cellL h 0 0 rfl rfl rfl, _, cellL h 0 1 rfl rfl rfl, _, cellL h 0 2 rfl rfl rfl, _, cellL h 0 3 rfl rfl rfl, ?_⟩
  refine eqlAgg (xs := [(Value.int .u32 x_1.1), (Value.int .i64 x_1.2.1), (Value.int .i64 x_1.2.2.1), (Value.bool x_1.2.2.2.1)]) (ys := [(Value.int .u32 p_Addr), (Value.int .i64 p_Addr_1), (Value.int .i64 p_ID), (Value.bool p_Via)]) eqG36 eqA36 (eqT36 x_1.1 x_1.2.1 x_1.2.2.1 x_1.2.2.2.1 p_Addr p_Addr_1 p_ID p_Via) ?_
  refine ⟨_, rfl, ?_⟩
  refine ⟨rfl, ?_⟩
  refine cond_both hp (fun hp => ?_) (fun hp => ?_)
  · obtain ⟨n_3, hn, hp⟩ := hp
    exact ⟨n_3, hn, out_1, rfl, rfl, rfl, rfl, rfl, rfl, hp, h⟩
  obtain ⟨Q_1, hq, hp⟩ := hp
  refine ⟨fun l0_2p l0_2l l0_2c until2_2 p4_2 out8_2p out8_2l out8_2c there9_2 put10_2 i11_1 ahead12 w => p_1 = l0_2p ∧ l_1.length = l0_2l ∧ c_1 = l0_2c ∧ until_ = until2_2 ∧ (Addr.mk b_1 0 none) = p4_2 ∧ out8_1p = out8_2p ∧ out_1.length = out8_2l ∧ out8_1c = out8_2c ∧ there9_1 = there9_2 ∧ put10_1 = put10_2 ∧ i11 = i11_1 ∧ Q_1 ahead12 ∧ Mem (cel b_1 36 [(Value.int .u32 p_Addr), (Value.int .i64 p_Addr_1), (Value.int .i64 p_ID), (Value.bool p_Via)] :: row enc63 63 5 out8_1p out8_1c out_1 :: FL) w, ?_, ?_⟩
  · rintro l0_2p l0_2l l0_2c until2_2 p4_2 out8_2p out8_2l out8_2c there9_2 put10_2 i11_1 ahead12 w ⟨rfl, rfl, rfl, rfl, rfl, rfl, rfl, rfl, rfl, rfl, rfl, hp, h⟩
    replace hp := hq ahead12 hp
    unfold embrasureref21_Set_j5
    obtain ⟨Q_2, hq, hp⟩ := hp
    refine ⟨fun l0_3p l0_3l l0_3c until2_3 p4_3 out8_3p out8_3l out8_3c there9_3 put10_3 i11_2 w => ∃ (out_2 : List (Int × Int × Int × Bool × Int)), p_1 = l0_3p ∧ l_1.length = l0_3l ∧ c_1 = l0_3c ∧ until_ = until2_3 ∧ (Addr.mk b_1 0 none) = p4_3 ∧ there9_1 = there9_3 ∧ i11 = i11_2 ∧ out8_3l = out_2.length ∧ Q_2 out_2 put10_3 ∧ Mem (cel b_1 36 [(Value.int .u32 p_Addr), (Value.int .i64 p_Addr_1), (Value.int .i64 p_ID), (Value.bool p_Via)] :: row enc63 63 5 out8_3p out8_3c out_2 :: FL) w, ?_, ?_⟩
    · rintro l0_3p l0_3l l0_3c until2_3 p4_3 out8_3p out8_3l out8_3c there9_3 put10_3 i11_2 w ⟨out_2, rfl, rfl, rfl, rfl, rfl, rfl, rfl, rfl, hp, h⟩
      replace hp := hq out_2 put10_3 hp
      unfold embrasureref21_Set_j6
      have cpout8_3p := rowCap h 1 rfl
      obtain ⟨ia_5, ja_5, hp⟩ := hp
      obtain ⟨a_5, ha_5⟩ := rdAddr (hF_l_1 _ (h.drop 2)) rfl ia_5 ja_5
      refine ⟨a_5, ha_5, ia_5, ja_5, ?_⟩
      obtain ⟨x_5, hx_5, hc⟩ := rdCell (hF_l_1 _ (h.drop 2)) ha_5 rfl ia_5 ja_5
      replace hp := hp x_5 hx_5
      refine ⟨_, hc 0 _ rfl, _, hc 1 _ rfl, _, hc 2 _ rfl, _, hc 3 _ rfl, _, hc 4 _ rfl, ?_⟩
      refine newL (o := [(Value.int .u32 x_5.1), (Value.int .i64 x_5.2.1), (Value.int .i64 x_5.2.2.1), (Value.bool x_5.2.2.2.1), (Value.int .i64 x_5.2.2.2.2)]) h ?_
      intro b_3 w h
      have sr_1 := (celRd h 0 encL63 rfl [x_5] rfl)
      obtain ⟨hb, hp⟩ := hp
      refine appendL slt30 und30 encL63 encO63 h 2 rfl rfl sr_1 rfl hb ?_
      intro p_3 c_3 w h
      dsimp only [setH, setVs, setV] at h
      have cpp_3 := rowCap h 2 rfl
      refine ⟨_, _, _, rfl, ?_⟩
      replace h := h.sel [1, 1] 1
      dsimp only [pickL, pickR, nthH, delH, dropH, List.cons_append, List.nil_append] at h
      obtain ⟨n_4, hn, hp⟩ := hp
      exact ⟨n_4, hn, (out_2 ++ [x_5]), rfl, rfl, rfl, rfl, rfl, rfl, hp, h⟩
    clear hq
    obtain ⟨Q_3, hq, hp⟩ := hp
    refine ⟨fun l0_4p l0_4l l0_4c until2_4 p4_4 out8_4p out8_4l out8_4c there9_4 put10_4 i11_3 t63 w => p_1 = l0_4p ∧ l_1.length = l0_4l ∧ c_1 = l0_4c ∧ until_ = until2_4 ∧ (Addr.mk b_1 0 none) = p4_4 ∧ out8_1p = out8_4p ∧ out_1.length = out8_4l ∧ out8_1c = out8_4c ∧ there9_1 = there9_4 ∧ put10_1 = put10_4 ∧ i11 = i11_3 ∧ Q_3 t63 ∧ Mem (cel b_1 36 [(Value.int .u32 p_Addr), (Value.int .i64 p_Addr_1), (Value.int .i64 p_ID), (Value.bool p_Via)] :: row enc63 63 5 out8_1p out8_1c out_1 :: FL) w, ?_, ?_⟩
    · rintro l0_4p l0_4l l0_4c until2_4 p4_4 out8_4p out8_4l out8_4c there9_4 put10_4 i11_3 t63 w ⟨rfl, rfl, rfl, rfl, rfl, rfl, rfl, rfl, rfl, rfl, rfl, hp, h⟩
      replace hp := hq t63 hp
      unfold embrasureref21_Set_j7
      refine cond_both' hp (fun hp => ?_) (fun hp => ?_)
      · exact ⟨out_1, rfl, rfl, rfl, rfl, rfl, rfl, rfl, rfl, hp, h⟩
      refine ⟨_, cellL h 0 0 rfl rfl rfl, _, cellL h 0 1 rfl rfl rfl, _, cellL h 0 2 rfl rfl rfl, _, cellL h 0 3 rfl rfl rfl, ?_⟩
      refine newL (o := [(Value.int .u32 p_Addr), (Value.int .i64 p_Addr_1), (Value.int .i64 p_ID), (Value.bool p_Via), (Value.int .i64 until_)]) h ?_
      intro b_2 w h
      have sr := (celRd h 0 encL63 rfl [(p_Addr, p_Addr_1, p_ID, p_Via, until_)] rfl)
      obtain ⟨hb, hp⟩ := hp
      refine appendL slt30 und30 encL63 encO63 h 2 rfl rfl sr rfl hb ?_
      intro p_2 c_2 w h
      dsimp only [setH, setVs, setV] at h
      have cpp_2 := rowCap h 2 rfl
      refine ⟨_, _, _, rfl, ?_⟩
      replace h := h.sel [1, 1] 1
      dsimp only [pickL, pickR, nthH, delH, dropH, List.cons_append, List.nil_append] at h
      exact ⟨(out_1 ++ [(p_Addr, p_Addr_1, p_ID, p_Via, until_)]), rfl, rfl, rfl, rfl, rfl, rfl, rfl, rfl, hp, h⟩
    clear hq
    refine cond_both hp (fun hp => ?_) (fun hp => ?_)
    · exact ⟨rfl, rfl, rfl, rfl, rfl, rfl, rfl, rfl, rfl, rfl, rfl, hp, h⟩
    exact ⟨rfl, rfl, rfl, rfl, rfl, rfl, rfl, rfl, rfl, rfl, rfl, hp, h⟩
  clear hq
  replace h := h.drew
  refine ⟨fun w => Mem (FL) w, (h.sel [] 2), ?_⟩
  refine ⟨_, cellL h 0 0 rfl rfl rfl, _, cellL h 0 1 rfl rfl rfl, ?_⟩
  obtain ⟨ia_2, ja_2, hp⟩ := hp
  obtain ⟨a_2, ha_2⟩ := rdAddr (hF_l_1 _ (h.drop 2)) rfl ia_2 ja_2
  refine ⟨a_2, ha_2, ia_2, ja_2, ?_⟩
  obtain ⟨x_2, hx_2, hc⟩ := rdCell3 (hF_l_1 _ (h.drop 2)) ha_2 rfl ia_2 ja_2
  replace hp := hp x_2 hx_2
  refine ⟨_, hc 0 0 0 _ rfl, _, hc 0 0 1 _ rfl, ?_⟩
  refine embrasureref03_Less_ok h hp ?_
  intro r w h hp
  refine ⟨_, rfl, ?_⟩
  refine ⟨(h.sel [] 2), ?_⟩
  refine cond_both hp (fun hp => ?_) (fun hp => ?_)
  · exact ⟨rfl, rfl, rfl, rfl, rfl, rfl, rfl, rfl, rfl, rfl, rfl, hp, h⟩
  refine ⟨_, cellL h 0 0 rfl rfl rfl, _, cellL h 0 1 rfl rfl rfl, ?_⟩
  obtain ⟨ia_3, ja_3, hp⟩ := hp
  obtain ⟨a_3, ha_3⟩ := rdAddr (hF_l_1 _ (h.drop 2)) rfl ia_3 ja_3
  refine ⟨a_3, ha_3, ia_3, ja_3, ?_⟩
  obtain ⟨x_3, hx_3, hc⟩ := rdCell3 (hF_l_1 _ (h.drop 2)) ha_3 rfl ia_3 ja_3
  replace hp := hp x_3 hx_3
  refine ⟨_, hc 0 0 0 _ rfl, _, hc 0 0 1 _ rfl, ?_⟩
  refine eqlAgg (xs := [(Value.int .u32 p_Addr), (Value.int .i64 p_Addr_1)]) (ys := [(Value.int .u32 x_3.1), (Value.int .i64 x_3.2.1)]) eqG34 eqA34 (eqT34 p_Addr p_Addr_1 x_3.1 x_3.2.1) ?_
  refine ⟨_, rfl, ?_⟩
  refine ⟨rfl, ?_⟩
  refine cond_both' hp (fun hp => ?_) (fun hp => ?_)
  · exact ⟨rfl, rfl, rfl, rfl, rfl, rfl, rfl, rfl, rfl, rfl, rfl, hp, h⟩
  refine ⟨_, cellL h 0 2 rfl rfl rfl, ?_⟩
  obtain ⟨ia_4, ja_4, hp⟩ := hp
  obtain ⟨a_4, ha_4⟩ := rdAddr (hF_l_1 _ (h.drop 2)) rfl ia_4 ja_4
  refine ⟨a_4, ha_4, ia_4, ja_4, ?_⟩
  obtain ⟨x_4, hx_4, hc⟩ := rdCell2 (hF_l_1 _ (h.drop 2)) ha_4 rfl ia_4 ja_4
  replace hp := hp x_4 hx_4
  refine ⟨_, hc 0 2 _ rfl, ?_⟩
  exact ⟨rfl, rfl, rfl, rfl, rfl, rfl, rfl, rfl, rfl, rfl, rfl, hp, h⟩

/-! embrasure/addr.MayPlace (29) -/
def addr_MayPlace_wp (p_Addr : Int) (p_Addr_1 : Int) (p_ID : Int) (p_Via : Bool) (K : Bool → Prop) : Prop :=
  addr_May_wp p_Addr p_Addr_1 (fun (r : Bool) => cond r (cond (decide ((p_ID : Int) ≥ 0)) (cond (decide ((p_ID : Int) ≤ 2147483647)) (cond (decide ((p_ID : Int) > 0)) (K true) (K (!p_Via))) (K false)) (K false)) (K false))
theorem addr_MayPlace_ok {p_Addr : Int} {p_Addr_1 : Int} {p_ID : Int} {p_Via : Bool} {FL : List HP} {w : World} {K : Bool → Prop} {R : Value → World → Prop}
  (h : Mem (FL) w) (hp : addr_MayPlace_wp p_Addr p_Addr_1 p_ID p_Via K)
  (hR : ∀ (r : Bool) (w : World), Mem (FL) w → K r → R (Value.bool r) w) :
  CallV Try.prog 29 #[(Value.agg #[(Value.int .u32 p_Addr), (Value.int .i64 p_Addr_1), (Value.int .i64 p_ID), (Value.bool p_Via)])] w R := by
  refine addr_MayPlace_call ?_
  unfold addr_MayPlace
  unfold addr_MayPlace_wp at hp
  refine newL (o := [(Value.int .u32 p_Addr), (Value.int .i64 p_Addr_1), (Value.int .i64 p_ID), (Value.bool p_Via)]) h ?_
  intro b_1 w h
  refine ⟨_, cellL h 0 0 rfl rfl rfl, _, cellL h 0 1 rfl rfl rfl, ?_⟩
  refine addr_May_ok h hp ?_
  intro r w h hp
  refine ⟨_, rfl, ?_⟩
  refine cond_both' hp (fun hp => ?_) (fun hp => ?_)
  · replace h := h.sel [] 1
    dsimp only [pickL, pickR, nthH, delH, dropH, List.cons_append, List.nil_append] at h
    exact hR false _ h hp
  refine ⟨_, cellL h 0 2 rfl rfl rfl, ?_⟩
  refine cond_both' hp (fun hp => ?_) (fun hp => ?_)
  · replace h := h.sel [] 1
    dsimp only [pickL, pickR, nthH, delH, dropH, List.cons_append, List.nil_append] at h
    exact hR false _ h hp
  refine ⟨_, cellL h 0 2 rfl rfl rfl, ?_⟩
  refine cond_both' hp (fun hp => ?_) (fun hp => ?_)
  · replace h := h.sel [] 1
    dsimp only [pickL, pickR, nthH, delH, dropH, List.cons_append, List.nil_append] at h
    exact hR false _ h hp
  refine ⟨_, cellL h 0 2 rfl rfl rfl, ?_⟩
  refine cond_both hp (fun hp => ?_) (fun hp => ?_)
  · replace h := h.sel [] 1
    dsimp only [pickL, pickR, nthH, delH, dropH, List.cons_append, List.nil_append] at h
    exact hR true _ h hp
  refine ⟨_, cellL h 0 3 rfl rfl rfl, ?_⟩
  replace h := h.sel [] 1
  dsimp only [pickL, pickR, nthH, delH, dropH, List.cons_append, List.nil_append] at h
  exact hR (!p_Via) _ h hp

/-! embrasure/advert.set[embrasure/api.Place] (30) -/
def advert_set_api_Place_wp (all : List ((Int × Int × Int × Bool) × Int)) (x_Addr : Int) (x_Addr_1 : Int) (x_ID : Int) (x_Via : Bool) (until_ : Int) (K : Int → List ((Int × Int × Int × Bool) × Int) → Prop) : Prop :=
  cond (decide ((until_ : Int) ≤ 0)) (K 0 (mapDel all (x_Addr, x_Addr_1, x_ID, x_Via))) (joinP1 (fun (t23 : Bool) => cond t23 (K 10 all) (K 0 (mapPut all (x_Addr, x_Addr_1, x_ID, x_Via) until_))) (fun (Q : Bool → Prop) => cond (!(mapHas all (x_Addr, x_Addr_1, x_ID, x_Via))) (Q (decide ((((all.length : Nat) : Int) : Int) ≥ 20))) (Q false)))
theorem advert_set_api_Place_ok {b_1 : Nat} {p_1 : List MapEntry × Nat} {all : List ((Int × Int × Int × Bool) × Int)} {x_Addr : Int} {x_Addr_1 : Int} {x_ID : Int} {x_Via : Bool} {until_ : Int} {FL : List HP} {w : World} {K : Int → List ((Int × Int × Int × Bool) × Int) → Prop} {R : Value → World → Prop}
  (h : Mem (mapQ b_1 va36 va3 p_1 all :: FL) w) (hp : advert_set_api_Place_wp all x_Addr x_Addr_1 x_ID x_Via until_ K)
  (hR : ∀ (r : Int) (m_1 : List ((Int × Int × Int × Bool) × Int)) (p_2 : List MapEntry × Nat) (w : World), Mem (mapQ b_1 va36 va3 p_2 m_1 :: FL) w → K r m_1 → R (Value.int .i64 r) w) :
  CallV Try.prog 30 #[(Value.map (some b_1)), (Value.agg #[(Value.int .u32 x_Addr), (Value.int .i64 x_Addr_1), (Value.int .i64 x_ID), (Value.bool x_Via)]), (Value.int .i64 until_)] w R := by
  refine advert_set_api_Place_call ?_
  unfold advert_set_api_Place
  unfold advert_set_api_Place_wp at hp
  refine newL (o := [(Value.int .u32 x_Addr), (Value.int .i64 x_Addr_1), (Value.int .i64 x_ID), (Value.bool x_Via)]) h ?_
  intro b_2 w h
  refine ⟨_, cellL h 0 0 rfl rfl rfl, _, cellL h 0 1 rfl rfl rfl, _, cellL h 0 2 rfl rfl rfl, _, cellL h 0 3 rfl rfl rfl, ?_⟩
  refine lookW2 (k := (x_Addr, x_Addr_1, x_ID, x_Via)) (d := 0) (mapAt h 1 rfl) mu56 kt36 (fun w => run_zeroValue zr3) ?_
  refine ⟨_, _, rfl, ?_⟩
  refine ⟨_, rfl, ?_⟩
  refine cond_both hp (fun hp => ?_) (fun hp => ?_)
  · refine ⟨_, cellL h 0 0 rfl rfl rfl, _, cellL h 0 1 rfl rfl rfl, _, cellL h 0 2 rfl rfl rfl, _, cellL h 0 3 rfl rfl rfl, ?_⟩
    refine mapDelG (k := (x_Addr, x_Addr_1, x_ID, x_Via)) h 1 rfl mu56 kt36 ?_
    intro p_3 w h
    dsimp only [setH, setVs, setV] at h
    refine ⟨rfl, ?_⟩
    replace h := h.sel [1] 1
    dsimp only [pickL, pickR, nthH, delH, dropH, List.cons_append, List.nil_append] at h
    exact hR 0 (mapDel all (x_Addr, x_Addr_1, x_ID, x_Via)) p_3 _ h hp
  obtain ⟨Q, hq, hp⟩ := hp
  refine ⟨fun all0 until2 x4 t23 w => (some b_1) = all0 ∧ until_ = until2 ∧ (Addr.mk b_2 0 none) = x4 ∧ Q t23 ∧ Mem (cel b_2 36 [(Value.int .u32 x_Addr), (Value.int .i64 x_Addr_1), (Value.int .i64 x_ID), (Value.bool x_Via)] :: mapQ b_1 va36 va3 p_1 all :: FL) w, ?_, ?_⟩
  · rintro all0 until2 x4 t23 w ⟨rfl, rfl, rfl, hp, h⟩
    replace hp := hq t23 hp
    unfold advert_set_api_Place_j1
    refine cond_both hp (fun hp => ?_) (fun hp => ?_)
    · replace h := h.sel [1] 1
      dsimp only [pickL, pickR, nthH, delH, dropH, List.cons_append, List.nil_append] at h
      exact hR 10 all p_1 _ h hp
    refine ⟨_, cellL h 0 0 rfl rfl rfl, _, cellL h 0 1 rfl rfl rfl, _, cellL h 0 2 rfl rfl rfl, _, cellL h 0 3 rfl rfl rfl, ?_⟩
    refine mapPutG (k := (x_Addr, x_Addr_1, x_ID, x_Via)) (v := until_) h 1 rfl mu56 kt36 ?_
    intro p_4 w h
    dsimp only [setH, setVs, setV] at h
    replace h := h.sel [1] 1
    dsimp only [pickL, pickR, nthH, delH, dropH, List.cons_append, List.nil_append] at h
    exact hR 0 (mapPut all (x_Addr, x_Addr_1, x_ID, x_Via) until_) p_4 _ h hp
  clear hq
  refine cond_both' hp (fun hp => ?_) (fun hp => ?_)
  · exact ⟨rfl, rfl, rfl, hp, h⟩
  refine lenMapW (mapAt h 1 rfl) mu56 ?_
  refine ⟨_, rfl, ?_⟩
  exact ⟨rfl, rfl, rfl, hp, h⟩

/-! (*embrasure/advert.Advert).Relay (17) -/
def advert_Advert_Relay_wp (mapped : List ((Int × Int) × Int)) (relays : List ((Int × Int × Int × Bool) × Int)) (p_Addr : Int) (p_Addr_1 : Int) (p_ID : Int) (p_Via : Bool) (until_ : Int) (K : Int → List ((Int × Int × Int × Bool) × Int) → Prop) : Prop :=
  joinP1 (fun (t14 : Bool) => cond t14 (K 1 relays) (advert_set_api_Place_wp relays p_Addr p_Addr_1 p_ID (true) until_ (fun (r_1 : Int) (m_2 : List ((Int × Int × Int × Bool) × Int)) => K r_1 m_2))) (fun (Q : Bool → Prop) => addr_MayPlace_wp p_Addr p_Addr_1 p_ID (true) (fun (r : Bool) => cond (!r) (Q true) (Q (decide ((until_ : Int) > 1099511627776)))))
theorem advert_Advert_Relay_ok {b_1 : Nat} {p_1 : Option Addr} {n_1 : Nat} {c_1 : Nat} {b_2 : Nat} {p_2 : List MapEntry × Nat} {b_3 : Nat} {p_3 : List MapEntry × Nat} {mapped : List ((Int × Int) × Int)} {relays : List ((Int × Int × Int × Bool) × Int)} {p_Addr : Int} {p_Addr_1 : Int} {p_ID : Int} {p_Via : Bool} {until_ : Int} {FL : List HP} {w : World} {K : Int → List ((Int × Int × Int × Bool) × Int) → Prop} {R : Value → World → Prop}
  (hM_mapped : RoM FL b_2 va34 va3 p_2 mapped)
  (h : Mem (cel b_1 58 [(Value.slice p_1 n_1 c_1), (Value.map (some b_2)), (Value.map (some b_3))] :: mapQ b_3 va36 va3 p_3 relays :: FL) w) (hp : advert_Advert_Relay_wp mapped relays p_Addr p_Addr_1 p_ID p_Via until_ K)
  (hR : ∀ (r : Int) (m_1 : List ((Int × Int × Int × Bool) × Int)) (p_4 : List MapEntry × Nat) (w : World), Mem (cel b_1 58 [(Value.slice p_1 n_1 c_1), (Value.map (some b_2)), (Value.map (some b_3))] :: mapQ b_3 va36 va3 p_4 m_1 :: FL) w → K r m_1 → R (Value.int .i64 r) w) :
  CallV Try.prog 17 #[(Value.pointer (some (Addr.mk b_1 0 none))), (Value.agg #[(Value.int .u32 p_Addr), (Value.int .i64 p_Addr_1), (Value.int .i64 p_ID), (Value.bool p_Via)]), (Value.int .i64 until_)] w R := by
  refine advert_Advert_Relay_call ?_
  unfold advert_Advert_Relay
  unfold advert_Advert_Relay_wp at hp
  refine newL (o := [(Value.int .u32 p_Addr), (Value.int .i64 p_Addr_1), (Value.int .i64 p_ID), (Value.bool p_Via)]) h ?_
  intro b_4 w h
  refine storeL (ys := [(Value.bool true)]) h 0 3 rfl rfl rfl sz4 rfl rfl ?_
  intro w h
  dsimp only [setH, setVs, setV] at h
  obtain ⟨Q, hq, hp⟩ := hp
  refine ⟨fun a0 until2 p4 t14 w => (some (Addr.mk b_1 0 none)) = a0 ∧ until_ = until2 ∧ (Addr.mk b_4 0 none) = p4 ∧ Q t14 ∧ Mem (cel b_4 36 [(Value.int .u32 p_Addr), (Value.int .i64 p_Addr_1), (Value.int .i64 p_ID), (Value.bool true)] :: cel b_1 58 [(Value.slice p_1 n_1 c_1), (Value.map (some b_2)), (Value.map (some b_3))] :: mapQ b_3 va36 va3 p_3 relays :: FL) w, ?_, ?_⟩
  · rintro a0 until2 p4 t14 w ⟨rfl, rfl, rfl, hp, h⟩
    replace hp := hq t14 hp
    unfold advert_Advert_Relay_j1
    refine cond_both hp (fun hp => ?_) (fun hp => ?_)
    · replace h := h.sel [1, 1] 1
      dsimp only [pickL, pickR, nthH, delH, dropH, List.cons_append, List.nil_append] at h
      exact hR 1 relays p_3 _ h hp
    replace h := h.drew
    refine ⟨_, rfl, ?_⟩
    refine ⟨_, cellL h 1 2 rfl rfl rfl, ?_⟩
    refine ⟨_, cellL h 0 0 rfl rfl rfl, _, cellL h 0 1 rfl rfl rfl, _, cellL h 0 2 rfl rfl rfl, _, cellL h 0 3 rfl rfl rfl, ?_⟩
    replace h := h.pick [2]
    dsimp only [pickL, pickR, nthH, delH, dropH, List.cons_append, List.nil_append] at h
    refine advert_set_api_Place_ok h hp ?_
    intro r_1 m_2 p_5 w h hp
    refine ⟨_, rfl, ?_⟩
    replace h := h.sel [2, 0] 1
    dsimp only [pickL, pickR, nthH, delH, dropH, List.cons_append, List.nil_append] at h
    exact hR r_1 m_2 p_5 _ h hp
  clear hq
  refine ⟨_, cellL h 0 0 rfl rfl rfl, _, cellL h 0 1 rfl rfl rfl, _, cellL h 0 2 rfl rfl rfl, _, cellL h 0 3 rfl rfl rfl, ?_⟩
  refine addr_MayPlace_ok h hp ?_
  intro r w h hp
  refine ⟨_, rfl, ?_⟩
  refine cond_both hp (fun hp => ?_) (fun hp => ?_)
  · exact ⟨rfl, rfl, rfl, hp, h⟩
  exact ⟨rfl, rfl, rfl, hp, h⟩

/-! embrasure/embrasureref03.Place (18) -/
def embrasureref03_Place_wp (p_Addr : Int) (p_Addr_1 : Int) (p_ID : Int) (p_Via : Bool) (K : Bool → Prop) : Prop :=
  joinP1 (fun (t16 : Bool) => cond t16 (K false) (cond (!p_Via) (K true) (K (decide ((p_ID : Int) > 0))))) (fun (Q : Bool → Prop) => embrasureref03_May_wp p_Addr p_Addr_1 (fun (r : Bool) => cond (!r) (Q true) (cond (decide ((p_ID : Int) < 0)) (Q true) (Q (decide ((p_ID : Int) > 2147483647))))))
theorem embrasureref03_Place_ok {p_Addr : Int} {p_Addr_1 : Int} {p_ID : Int} {p_Via : Bool} {FL : List HP} {w : World} {K : Bool → Prop} {R : Value → World → Prop}
  (h : Mem (FL) w) (hp : embrasureref03_Place_wp p_Addr p_Addr_1 p_ID p_Via K)
  (hR : ∀ (r : Bool) (w : World), Mem (FL) w → K r → R (Value.bool r) w) :
  CallV Try.prog 18 #[(Value.agg #[(Value.int .u32 p_Addr), (Value.int .i64 p_Addr_1), (Value.int .i64 p_ID), (Value.bool p_Via)])] w R := by
  refine embrasureref03_Place_call ?_
  unfold embrasureref03_Place
  unfold embrasureref03_Place_wp at hp
  refine newL (o := [(Value.int .u32 p_Addr), (Value.int .i64 p_Addr_1), (Value.int .i64 p_ID), (Value.bool p_Via)]) h ?_
  intro b_1 w h
  obtain ⟨Q, hq, hp⟩ := hp
  refine ⟨fun p1 t16 w => (Addr.mk b_1 0 none) = p1 ∧ Q t16 ∧ Mem (cel b_1 36 [(Value.int .u32 p_Addr), (Value.int .i64 p_Addr_1), (Value.int .i64 p_ID), (Value.bool p_Via)] :: FL) w, ?_, ?_⟩
  · rintro p1 t16 w ⟨rfl, hp, h⟩
    replace hp := hq t16 hp
    unfold embrasureref03_Place_j1
    refine cond_both hp (fun hp => ?_) (fun hp => ?_)
    · replace h := h.sel [] 1
      dsimp only [pickL, pickR, nthH, delH, dropH, List.cons_append, List.nil_append] at h
      exact hR false _ h hp
    refine ⟨_, cellL h 0 3 rfl rfl rfl, ?_⟩
    refine cond_both hp (fun hp => ?_) (fun hp => ?_)
    · replace h := h.sel [] 1
      dsimp only [pickL, pickR, nthH, delH, dropH, List.cons_append, List.nil_append] at h
      exact hR true _ h hp
    refine ⟨_, cellL h 0 2 rfl rfl rfl, ?_⟩
    replace h := h.sel [] 1
    dsimp only [pickL, pickR, nthH, delH, dropH, List.cons_append, List.nil_append] at h
    exact hR (decide ((p_ID : Int) > 0)) _ h hp
  clear hq
  refine ⟨_, cellL h 0 0 rfl rfl rfl, _, cellL h 0 1 rfl rfl rfl, ?_⟩
  refine embrasureref03_May_ok h hp ?_
  intro r w h hp
  refine ⟨_, rfl, ?_⟩
  refine cond_both hp (fun hp => ?_) (fun hp => ?_)
  · exact ⟨rfl, hp, h⟩
  refine ⟨_, cellL h 0 2 rfl rfl rfl, ?_⟩
  refine cond_both hp (fun hp => ?_) (fun hp => ?_)
  · exact ⟨rfl, hp, h⟩
  refine ⟨_, cellL h 0 2 rfl rfl rfl, ?_⟩
  exact ⟨rfl, hp, h⟩

end Go.Proofs.Ytpdabbbemampbaa
