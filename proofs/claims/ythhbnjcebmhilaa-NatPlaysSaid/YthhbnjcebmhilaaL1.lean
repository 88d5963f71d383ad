/- Each function over plain data (printed by a program of this claim's author). -/
import Derived.Test.YthhbnjcebmhilaaD
import Derived.Test.YthhbnjcebmhilaaEngZ
import Derived.Test.YthhbnjcebmhilaaS33
import Derived.Test.YthhbnjcebmhilaaEngQ
namespace Go.Proofs.Ythhbnjcebmhilaa
open Go Go.Eng Go.Proofs
set_option maxRecDepth 100000
set_option maxHeartbeats 2000000

def enc24 (x : Int × Int) : List Value := [(Value.int .u32 x.1), (Value.int .i64 x.2)]
theorem encL24 : ∀ x, (enc24 x).length = 2 := fun _ => rfl
theorem encO24 : ∀ x, ∀ v ∈ enc24 x, v.oneCell' = true := by intro x v hv; simp only [enc24, List.mem_cons, List.not_mem_nil, or_false] at hv; rcases hv with rfl | rfl <;> rfl
def enc47 (x : Int × Int × Int × Int × Int × Int × Int × Int) : List Value := [(Value.int .i64 x.1), (Value.int .i64 x.2.1), (Value.int .u32 x.2.2.1), (Value.int .i64 x.2.2.2.1), (Value.int .u32 x.2.2.2.2.1), (Value.int .i64 x.2.2.2.2.2.1), (Value.int .i64 x.2.2.2.2.2.2.1), (Value.int .i64 x.2.2.2.2.2.2.2)]
theorem encL47 : ∀ x, (enc47 x).length = 8 := fun _ => rfl
theorem encO47 : ∀ x, ∀ v ∈ enc47 x, v.oneCell' = true := by intro x v hv; simp only [enc47, List.mem_cons, List.not_mem_nil, or_false] at hv; rcases hv with rfl | rfl | rfl | rfl | rfl | rfl | rfl | rfl <;> rfl
def enc51 (x : Int × Int × Int × Int × Int × Int × Bool) : List Value := [(Value.int .u32 x.1), (Value.int .i64 x.2.1), (Value.int .u32 x.2.2.1), (Value.int .i64 x.2.2.2.1), (Value.int .i64 x.2.2.2.2.1), (Value.int .i64 x.2.2.2.2.2.1), (Value.bool x.2.2.2.2.2.2)]
theorem encL51 : ∀ x, (enc51 x).length = 7 := fun _ => rfl
theorem encO51 : ∀ x, ∀ v ∈ enc51 x, v.oneCell' = true := by intro x v hv; simp only [enc51, List.mem_cons, List.not_mem_nil, or_false] at hv; rcases hv with rfl | rfl | rfl | rfl | rfl | rfl | rfl <;> rfl
def enc67 (x : Option Nat) : List Value := [(Value.pointer (pn x))]
theorem encL67 : ∀ x, (enc67 x).length = 1 := fun _ => rfl
theorem encO67 : ∀ x, ∀ v ∈ enc67 x, v.oneCell' = true := by intro x v hv; simp only [enc67, List.mem_cons, List.not_mem_nil, or_false] at hv; rcases hv with rfl <;> rfl
def enc84 (x : Int × Int × Int × Int × Int × Int × Bool × (Option Addr × Nat × Nat)) : List Value := [(Value.int .u32 x.1), (Value.int .i64 x.2.1), (Value.int .u32 x.2.2.1), (Value.int .i64 x.2.2.2.1), (Value.int .i64 x.2.2.2.2.1), (Value.int .i64 x.2.2.2.2.2.1), (Value.bool x.2.2.2.2.2.2.1), (Value.slice x.2.2.2.2.2.2.2.1 x.2.2.2.2.2.2.2.2.1 x.2.2.2.2.2.2.2.2.2)]
theorem encL84 : ∀ x, (enc84 x).length = 8 := fun _ => rfl
theorem encO84 : ∀ x, ∀ v ∈ enc84 x, v.oneCell' = true := by intro x v hv; simp only [enc84, List.mem_cons, List.not_mem_nil, or_false] at hv; rcases hv with rfl | rfl | rfl | rfl | rfl | rfl | rfl | rfl <;> rfl
def stoE71 (u : Option Addr × Nat) (b : Nat) (x : (Int × Int × Int × Int × Int × Int × Bool × (List (Int × Int)))) : HP := HL [cel b 71 [(Value.int .u32 x.1), (Value.int .i64 x.2.1), (Value.int .u32 x.2.2.1), (Value.int .i64 x.2.2.2.1), (Value.int .i64 x.2.2.2.2.1), (Value.int .i64 x.2.2.2.2.2.1), (Value.bool x.2.2.2.2.2.2.1), (Value.slice u.1 x.2.2.2.2.2.2.2.length u.2)], row enc24 24 2 u.1 u.2 x.2.2.2.2.2.2.2]
theorem stoX71 : StoE stoE71 := ⟨fun _ _ _ _ _ _ _ h => cel_two h, fun _ _ _ _ _ _ h => pt_two h⟩
def roE71 (FL : List HP) (b : Nat) (x : (Int × Int × Int × Int × Int × Int × Bool × (List (Int × Int)))) : Prop := ∃ (p7 : Option Addr) (c7 : Nat), x.2.2.2.2.2.2.2.length ≤ c7 ∧ (∀ w, Mem FL w → w.cell? ⟨b, 0, none⟩ = some (Value.int .u32 x.1)) ∧ (∀ w, Mem FL w → w.cell? ⟨b, 1, none⟩ = some (Value.int .i64 x.2.1)) ∧ (∀ w, Mem FL w → w.cell? ⟨b, 2, none⟩ = some (Value.int .u32 x.2.2.1)) ∧ (∀ w, Mem FL w → w.cell? ⟨b, 3, none⟩ = some (Value.int .i64 x.2.2.2.1)) ∧ (∀ w, Mem FL w → w.cell? ⟨b, 4, none⟩ = some (Value.int .i64 x.2.2.2.2.1)) ∧ (∀ w, Mem FL w → w.cell? ⟨b, 5, none⟩ = some (Value.int .i64 x.2.2.2.2.2.1)) ∧ (∀ w, Mem FL w → w.cell? ⟨b, 6, none⟩ = some (Value.bool x.2.2.2.2.2.2.1)) ∧ (∀ w, Mem FL w → w.cell? ⟨b, 7, none⟩ = some (Value.slice p7 x.2.2.2.2.2.2.2.length c7)) ∧ (∀ w, Mem FL w → Rd w 2 p7 enc24 x.2.2.2.2.2.2.2) ∧ (∀ w, Mem FL w → LiveC w b)
theorem roEm71 {FL FL2 : List HP} (hx : ∀ w, Mem FL2 w → Mem FL w) {b : Nat} {x : (Int × Int × Int × Int × Int × Int × Bool × (List (Int × Int)))} : roE71 FL b x → roE71 FL2 b x := by
  rintro ⟨p7, c7, k7, e0, e1, e2, e3, e4, e5, e6, e7, r7, lv⟩
  exact ⟨p7, c7, k7, fun w h => e0 w (hx w h), fun w h => e1 w (hx w h), fun w h => e2 w (hx w h), fun w h => e3 w (hx w h), fun w h => e4 w (hx w h), fun w h => e5 w (hx w h), fun w h => e6 w (hx w h), fun w h => e7 w (hx w h), fun w h => r7 w (hx w h), fun w h => lv w (hx w h)⟩
theorem roLive71 {FL : List HP} {b : Nat} {x : (Int × Int × Int × Int × Int × Int × Bool × (List (Int × Int)))} (h : roE71 FL b x) (w : World) (hw : Mem FL w) : LiveC w b := by
  obtain ⟨_, _, _, _, _, _, _, _, _, _, _, _, lv⟩ := h
  exact lv w hw
theorem stoRo71 {L : List HP} {w : World} (h : Mem L w) (k : Nat) {hd : Nat → Option Addr × Nat} {m : List (Nat × (Int × Int × Int × Int × Int × Int × Bool × (List (Int × Int))))} (hk : nthH L k = stoP stoE71 hd m) : ∀ (b : Nat) (x : (Int × Int × Int × Int × Int × Int × Bool × (List (Int × Int)))), getS m b = some x → roE71 L b x := by
  intro b x hx
  exact ⟨(hd b).1, (hd b).2, rowCap (stoOpen stoX71 h k hk hx).unpack 1 rfl, fun w h => cellL (stoOpen stoX71 h k hk hx).unpack 0 0 rfl rfl rfl, fun w h => cellL (stoOpen stoX71 h k hk hx).unpack 0 1 rfl rfl rfl, fun w h => cellL (stoOpen stoX71 h k hk hx).unpack 0 2 rfl rfl rfl, fun w h => cellL (stoOpen stoX71 h k hk hx).unpack 0 3 rfl rfl rfl, fun w h => cellL (stoOpen stoX71 h k hk hx).unpack 0 4 rfl rfl rfl, fun w h => cellL (stoOpen stoX71 h k hk hx).unpack 0 5 rfl rfl rfl, fun w h => cellL (stoOpen stoX71 h k hk hx).unpack 0 6 rfl rfl rfl, fun w h => cellL (stoOpen stoX71 h k hk hx).unpack 0 7 rfl rfl rfl, fun w h => rowRd (stoOpen stoX71 h k hk hx).unpack 1 encL24 rfl, fun w h => liveC (stoOpen stoX71 h k hk hx).unpack 0 rfl⟩
theorem sz3 : sizeT Try.prog 3 = some 1 := by kernel_rfl
theorem sz24 : sizeT Try.prog 24 = some 2 := by kernel_rfl
theorem sz25 : sizeT Try.prog 25 = some 1 := by kernel_rfl
theorem sz28 : sizeT Try.prog 28 = some 7 := by kernel_rfl
theorem sz31 : sizeT Try.prog 31 = some 1 := by kernel_rfl
theorem sz47 : sizeT Try.prog 47 = some 8 := by kernel_rfl
theorem sz56 : sizeT Try.prog 56 = some 1 := by kernel_rfl
theorem sz62 : sizeT Try.prog 62 = some 1 := by kernel_rfl
theorem sz67 : sizeT Try.prog 67 = some 1 := by kernel_rfl
theorem sz71 : sizeT Try.prog 71 = some 8 := by kernel_rfl
theorem sz84 : sizeT Try.prog 84 = some 8 := by kernel_rfl
theorem eqG24 : Try.prog.eqGuardType Try.prog.depth 24 = false := by kernel_rfl
theorem eqA24 : isAggB Try.prog 24 = true := by kernel_rfl
theorem eqT24 (a0 : Int) (a1 : Int) (b0 : Int) (b1 : Int) : eqT Try.prog 20 24 [(Value.int .u32 a0), (Value.int .i64 a1)] [(Value.int .u32 b0), (Value.int .i64 b1)] = some (((a0 : Int) == b0) && (((a1 : Int) == b1) && true)) := by kernel_rfl
theorem eqG28 : Try.prog.eqGuardType Try.prog.depth 28 = false := by kernel_rfl
theorem eqA28 : isAggB Try.prog 28 = true := by kernel_rfl
theorem eqT28 (a0 : Int) (a1 : Int) (a2 : Int) (a3 : Int) (a4 : Int) (a5 : Int) (a6 : Int) (b0 : Int) (b1 : Int) (b2 : Int) (b3 : Int) (b4 : Int) (b5 : Int) (b6 : Int) : eqT Try.prog 20 28 [(Value.int .u32 a0), (Value.int .i64 a1), (Value.int .i64 a2), (Value.int .i64 a3), (Value.int .i64 a4), (Value.int .i64 a5), (Value.int .i64 a6)] [(Value.int .u32 b0), (Value.int .i64 b1), (Value.int .i64 b2), (Value.int .i64 b3), (Value.int .i64 b4), (Value.int .i64 b5), (Value.int .i64 b6)] = some (((a0 : Int) == b0) && (((a1 : Int) == b1) && (((a2 : Int) == b2) && (((a3 : Int) == b3) && (((a4 : Int) == b4) && (((a5 : Int) == b5) && (((a6 : Int) == b6) && true))))))) := by kernel_rfl
theorem eqG51 : Try.prog.eqGuardType Try.prog.depth 51 = false := by kernel_rfl
theorem eqA51 : isAggB Try.prog 51 = true := by kernel_rfl
theorem eqT51 (a0 : Int) (a1 : Int) (a2 : Int) (a3 : Int) (a4 : Int) (a5 : Int) (a6 : Bool) (b0 : Int) (b1 : Int) (b2 : Int) (b3 : Int) (b4 : Int) (b5 : Int) (b6 : Bool) : eqT Try.prog 20 51 [(Value.int .u32 a0), (Value.int .i64 a1), (Value.int .u32 a2), (Value.int .i64 a3), (Value.int .i64 a4), (Value.int .i64 a5), (Value.bool a6)] [(Value.int .u32 b0), (Value.int .i64 b1), (Value.int .u32 b2), (Value.int .i64 b3), (Value.int .i64 b4), (Value.int .i64 b5), (Value.bool b6)] = some ((((a0 : Int) == b0) && (((a1 : Int) == b1) && true)) && ((((a2 : Int) == b2) && (((a3 : Int) == b3) && true)) && (((a4 : Int) == b4) && (((a5 : Int) == b5) && ((a6 == b6) && true))))) := by kernel_rfl
theorem zr24 : zeroOf Try.prog 24 = some (Value.agg #[(Value.int .u32 0), (Value.int .i64 0)]) := by kernel_rfl
theorem zr67 : zeroOf Try.prog 67 = some (Value.pointer none) := by kernel_rfl
theorem slt25 : SlT Try.prog 25 24 (Value.agg #[(Value.int .u32 0), (Value.int .i64 0)]) 2 16 := ⟨by kernel_rfl, by kernel_rfl, by kernel_rfl, by decide⟩
theorem slt42 : SlT Try.prog 42 51 (Value.agg #[(Value.int .u32 0), (Value.int .i64 0), (Value.int .u32 0), (Value.int .i64 0), (Value.int .i64 0), (Value.int .i64 0), (Value.bool false)]) 7 56 := ⟨by kernel_rfl, by kernel_rfl, by kernel_rfl, by decide⟩
theorem slt56 : SlT Try.prog 56 84 (Value.agg #[(Value.int .u32 0), (Value.int .i64 0), (Value.int .u32 0), (Value.int .i64 0), (Value.int .i64 0), (Value.int .i64 0), (Value.bool false), (Value.slice none 0 0)]) 8 80 := ⟨by kernel_rfl, by kernel_rfl, by kernel_rfl, by decide⟩
theorem slt62 : SlT Try.prog 62 67 (Value.pointer none) 1 8 := ⟨by kernel_rfl, by kernel_rfl, by kernel_rfl, by decide⟩
theorem undQ67 : Try.prog.underlying 67 = some (.pointer 71) := by kernel_rfl
theorem undP30 : Try.prog.underlying 30 = some (.pointer (Try.prog.pointee 30)) := by kernel_rfl
theorem undP67 : Try.prog.underlying 67 = some (.pointer (Try.prog.pointee 67)) := by kernel_rfl
theorem undB4 : Try.prog.underlying 4 = some .bool := by kernel_rfl
theorem und25 : Try.prog.underlying 25 = some (.slice 24) := by kernel_rfl
theorem und42 : Try.prog.underlying 42 = some (.slice 51) := by kernel_rfl
theorem und56 : Try.prog.underlying 56 = some (.slice 84) := by kernel_rfl
theorem und62 : Try.prog.underlying 62 = some (.slice 67) := by kernel_rfl


/-! embrasure/embrasurelaw08.Box (10) -/
def embrasurelaw08_Box_wp (classes : Int) (K : Int → Int → Int → Int → Int → Int → Int → Prop) : Prop :=
  K 3405803777 40000 40009 (Int.tmod (IntKind.wrap .i64 classes) 3) (Int.tmod (IntKind.wrap .i64 (Int.tdiv (IntKind.wrap .i64 classes) 3)) 3) 30 12
theorem embrasurelaw08_Box_ok {classes : Int} {FL : List HP} {w : World} {K : Int → Int → Int → Int → Int → Int → Int → Prop} {R : Value → World → Prop}
  (h : Mem (FL) w) (hp : embrasurelaw08_Box_wp classes K)
  (hR : ∀ (r : Int) (r_1 : Int) (r_2 : Int) (r_3 : Int) (r_4 : Int) (r_5 : Int) (r_6 : Int) (w : World), Mem (FL) w → K r r_1 r_2 r_3 r_4 r_5 r_6 → R (Value.agg #[(Value.int .u32 r), (Value.int .i64 r_1), (Value.int .i64 r_2), (Value.int .i64 r_3), (Value.int .i64 r_4), (Value.int .i64 r_5), (Value.int .i64 r_6)]) w) :
  CallV Try.prog 10 #[(Value.int .u8 classes)] w R := by
  refine embrasurelaw08_Box_call ?_
  unfold embrasurelaw08_Box
  unfold embrasurelaw08_Box_wp at hp
  refine newL (o := [(Value.int .u32 0), (Value.int .i64 0), (Value.int .i64 0), (Value.int .i64 0), (Value.int .i64 0), (Value.int .i64 0), (Value.int .i64 0)]) h ?_
  intro b_1 w h
  refine ⟨by decide, ?_⟩
  refine ⟨by decide, ?_⟩
  refine ⟨by decide, ?_⟩
  refine storeL (ys := [(Value.int .u32 3405803777), (Value.int .i64 40000), (Value.int .i64 40009), (Value.int .i64 (Int.tmod (IntKind.wrap .i64 classes) 3)), (Value.int .i64 (Int.tmod (IntKind.wrap .i64 (Int.tdiv (IntKind.wrap .i64 classes) 3)) 3)), (Value.int .i64 30), (Value.int .i64 12)]) h 0 0 rfl rfl rfl sz28 rfl rfl ?_
  intro w h
  dsimp only [setH, setVs, setV] at h
  refine ⟨_, cellL h 0 0 rfl rfl rfl, _, cellL h 0 1 rfl rfl rfl, _, cellL h 0 2 rfl rfl rfl, _, cellL h 0 3 rfl rfl rfl, _, cellL h 0 4 rfl rfl rfl, _, cellL h 0 5 rfl rfl rfl, _, cellL h 0 6 rfl rfl rfl, ?_⟩
  replace h := h.sel [] 1
  dsimp only [pickL, pickR, nthH, delH, dropH, List.cons_append, List.nil_append] at h
  exact hR 3405803777 40000 40009 (Int.tmod (IntKind.wrap .i64 classes) 3) (Int.tmod (IntKind.wrap .i64 (Int.tdiv (IntKind.wrap .i64 classes) 3)) 3) 30 12 _ h hp

/-! embrasure/nat.class (45) -/
def nat_class_wp (n_1 : Int) (K : Bool → Prop) : Prop :=
  cond (decide ((n_1 : Int) ≥ 0)) (K (decide ((n_1 : Int) ≤ 2))) (K false)
theorem nat_class_ok {n_1 : Int} {FL : List HP} {w : World} {K : Bool → Prop} {R : Value → World → Prop}
  (h : Mem (FL) w) (hp : nat_class_wp n_1 K)
  (hR : ∀ (r : Bool) (w : World), Mem (FL) w → K r → R (Value.bool r) w) :
  CallV Try.prog 45 #[(Value.int .i64 n_1)] w R := by
  refine nat_class_call ?_
  unfold nat_class
  unfold nat_class_wp at hp
  refine cond_both hp (fun hp => ?_) (fun hp => ?_)
  · exact hR (decide ((n_1 : Int) ≤ 2)) _ h hp
  exact hR false _ h hp

/-! embrasure/nat.may (26) -/
def nat_may_wp (b_Host : Int) (b_Lo : Int) (b_Hi : Int) (b_Map : Int) (b_Filter : Int) (b_Life : Int) (b_Most : Int) (K : Bool → Prop) : Prop :=
  joinP1 (fun (ports3 : Bool) => cond ((b_Host : Int) != 0) (cond ports3 (nat_class_wp b_Map (fun (r : Bool) => cond r (nat_class_wp b_Filter (fun (r_1 : Bool) => cond r_1 (cond (decide ((b_Life : Int) ≥ 1)) (cond (decide ((b_Life : Int) ≤ 1099511627776)) (cond (decide ((b_Most : Int) ≥ 1)) (K (decide ((b_Most : Int) ≤ 100))) (K false)) (K false)) (K false)) (K false))) (K false))) (K false)) (K false)) (fun (Q : Bool → Prop) => cond (decide ((b_Lo : Int) ≥ 1)) (cond (decide ((b_Lo : Int) ≤ b_Hi)) (Q (decide ((b_Hi : Int) ≤ 65535))) (Q false)) (Q false))
theorem nat_may_ok {b_Host : Int} {b_Lo : Int} {b_Hi : Int} {b_Map : Int} {b_Filter : Int} {b_Life : Int} {b_Most : Int} {FL : List HP} {w : World} {K : Bool → Prop} {R : Value → World → Prop}
  (h : Mem (FL) w) (hp : nat_may_wp b_Host b_Lo b_Hi b_Map b_Filter b_Life b_Most K)
  (hR : ∀ (r : Bool) (w : World), Mem (FL) w → K r → R (Value.bool r) w) :
  CallV Try.prog 26 #[(Value.agg #[(Value.int .u32 b_Host), (Value.int .i64 b_Lo), (Value.int .i64 b_Hi), (Value.int .i64 b_Map), (Value.int .i64 b_Filter), (Value.int .i64 b_Life), (Value.int .i64 b_Most)])] w R := by
  refine nat_may_call ?_
  unfold nat_may
  unfold nat_may_wp at hp
  refine newL (o := [(Value.int .u32 b_Host), (Value.int .i64 b_Lo), (Value.int .i64 b_Hi), (Value.int .i64 b_Map), (Value.int .i64 b_Filter), (Value.int .i64 b_Life), (Value.int .i64 b_Most)]) h ?_
  intro b_1 w h
  obtain ⟨Q, hq, hp⟩ := hp
  refine ⟨fun b1 ports3 w => (Addr.mk b_1 0 none) = b1 ∧ Q ports3 ∧ Mem (cel b_1 28 [(Value.int .u32 b_Host), (Value.int .i64 b_Lo), (Value.int .i64 b_Hi), (Value.int .i64 b_Map), (Value.int .i64 b_Filter), (Value.int .i64 b_Life), (Value.int .i64 b_Most)] :: FL) w, ?_, ?_⟩
  · rintro b1 ports3 w ⟨rfl, hp, h⟩
    replace hp := hq ports3 hp
    unfold nat_may_j1
    refine ⟨_, cellL h 0 0 rfl rfl rfl, ?_⟩
    refine cond_both' hp (fun hp => ?_) (fun hp => ?_)
    · replace h := h.sel [] 1
      dsimp only [pickL, pickR, nthH, delH, dropH, List.cons_append, List.nil_append] at h
      exact hR false _ h hp
    refine cond_both' hp (fun hp => ?_) (fun hp => ?_)
    · replace h := h.sel [] 1
      dsimp only [pickL, pickR, nthH, delH, dropH, List.cons_append, List.nil_append] at h
      exact hR false _ h hp
    refine ⟨_, cellL h 0 3 rfl rfl rfl, ?_⟩
    refine nat_class_ok h hp ?_
    intro r w h hp
    refine ⟨_, rfl, ?_⟩
    refine cond_both' hp (fun hp => ?_) (fun hp => ?_)
    · replace h := h.sel [] 1
      dsimp only [pickL, pickR, nthH, delH, dropH, List.cons_append, List.nil_append] at h
      exact hR false _ h hp
    refine ⟨_, cellL h 0 4 rfl rfl rfl, ?_⟩
    refine nat_class_ok h hp ?_
    intro r_1 w h hp
    refine ⟨_, rfl, ?_⟩
    refine cond_both' hp (fun hp => ?_) (fun hp => ?_)
    · replace h := h.sel [] 1
      dsimp only [pickL, pickR, nthH, delH, dropH, List.cons_append, List.nil_append] at h
      exact hR false _ h hp
    refine ⟨_, cellL h 0 5 rfl rfl rfl, ?_⟩
    refine cond_both' hp (fun hp => ?_) (fun hp => ?_)
    · replace h := h.sel [] 1
      dsimp only [pickL, pickR, nthH, delH, dropH, List.cons_append, List.nil_append] at h
      exact hR false _ h hp
    refine ⟨_, cellL h 0 5 rfl rfl rfl, ?_⟩
    refine cond_both' hp (fun hp => ?_) (fun hp => ?_)
    · replace h := h.sel [] 1
      dsimp only [pickL, pickR, nthH, delH, dropH, List.cons_append, List.nil_append] at h
      exact hR false _ h hp
    refine ⟨_, cellL h 0 6 rfl rfl rfl, ?_⟩
    refine cond_both' hp (fun hp => ?_) (fun hp => ?_)
    · replace h := h.sel [] 1
      dsimp only [pickL, pickR, nthH, delH, dropH, List.cons_append, List.nil_append] at h
      exact hR false _ h hp
    refine ⟨_, cellL h 0 6 rfl rfl rfl, ?_⟩
    replace h := h.sel [] 1
    dsimp only [pickL, pickR, nthH, delH, dropH, List.cons_append, List.nil_append] at h
    exact hR (decide ((b_Most : Int) ≤ 100)) _ h hp
  clear hq
  refine ⟨_, cellL h 0 1 rfl rfl rfl, ?_⟩
  refine cond_both' hp (fun hp => ?_) (fun hp => ?_)
  · exact ⟨rfl, hp, h⟩
  refine ⟨_, cellL h 0 1 rfl rfl rfl, ?_⟩
  refine ⟨_, cellL h 0 2 rfl rfl rfl, ?_⟩
  refine cond_both' hp (fun hp => ?_) (fun hp => ?_)
  · exact ⟨rfl, hp, h⟩
  refine ⟨_, cellL h 0 2 rfl rfl rfl, ?_⟩
  exact ⟨rfl, hp, h⟩

/-! embrasure/nat.New (11) -/
def nat_New_wp (b_Host : Int) (b_Lo : Int) (b_Hi : Int) (b_Map : Int) (b_Filter : Int) (b_Life : Int) (b_Most : Int) (K : Int → Prop) (KX1 : Int → Int → Int → Int → Int → Int → Int → Int → List (Option Nat) → Int → Prop) : Prop :=
  nat_may_wp b_Host b_Lo b_Hi b_Map b_Filter b_Life b_Most (fun (r : Bool) => cond (!r) (K 1) (KX1 0 b_Host b_Lo b_Hi b_Map b_Filter b_Life b_Most ([] : List (Option Nat)) 0))
theorem nat_New_ok {b_Host : Int} {b_Lo : Int} {b_Hi : Int} {b_Map : Int} {b_Filter : Int} {b_Life : Int} {b_Most : Int} {FL : List HP} {w : World} {K : Int → Prop} {KX1 : Int → Int → Int → Int → Int → Int → Int → Int → List (Option Nat) → Int → Prop} {R : Value → World → Prop}
  (h : Mem (FL) w) (hp : nat_New_wp b_Host b_Lo b_Hi b_Map b_Filter b_Life b_Most K KX1)
  (hR : ∀ (r : Int) (w : World), Mem (FL) w → K r → R (Value.tuple #[(Value.pointer none), (Value.int .i64 r)]) w)
  (hRX1 : ∀ (r : Int) (box : Int) (box_1 : Int) (box_2 : Int) (box_3 : Int) (box_4 : Int) (box_5 : Int) (box_6 : Int) (list : List (Option Nat)) (now : Int) (b_1 : Nat) (p_1 : Option Addr) (n_1 : Nat) (c_1 : Nat) (w : World), n_1 = list.length → Mem (cel b_1 64 [(Value.int .u32 box), (Value.int .i64 box_1), (Value.int .i64 box_2), (Value.int .i64 box_3), (Value.int .i64 box_4), (Value.int .i64 box_5), (Value.int .i64 box_6), (Value.slice p_1 n_1 c_1), (Value.int .i64 now)] :: row enc67 67 1 p_1 c_1 list :: FL) w → KX1 r box box_1 box_2 box_3 box_4 box_5 box_6 list now → R (Value.tuple #[(Value.pointer (some (Addr.mk b_1 0 none))), (Value.int .i64 r)]) w) :
  CallV Try.prog 11 #[(Value.agg #[(Value.int .u32 b_Host), (Value.int .i64 b_Lo), (Value.int .i64 b_Hi), (Value.int .i64 b_Map), (Value.int .i64 b_Filter), (Value.int .i64 b_Life), (Value.int .i64 b_Most)])] w R := by
  refine nat_New_call ?_
  unfold nat_New
  unfold nat_New_wp at hp
  refine newL (o := [(Value.int .u32 b_Host), (Value.int .i64 b_Lo), (Value.int .i64 b_Hi), (Value.int .i64 b_Map), (Value.int .i64 b_Filter), (Value.int .i64 b_Life), (Value.int .i64 b_Most)]) h ?_
  intro b_1 w h
  refine ⟨_, cellL h 0 0 rfl rfl rfl, _, cellL h 0 1 rfl rfl rfl, _, cellL h 0 2 rfl rfl rfl, _, cellL h 0 3 rfl rfl rfl, _, cellL h 0 4 rfl rfl rfl, _, cellL h 0 5 rfl rfl rfl, _, cellL h 0 6 rfl rfl rfl, ?_⟩
  refine nat_may_ok h hp ?_
  intro r w h hp
  refine ⟨_, rfl, ?_⟩
  refine cond_both hp (fun hp => ?_) (fun hp => ?_)
  · replace h := h.sel [] 1
    dsimp only [pickL, pickR, nthH, delH, dropH, List.cons_append, List.nil_append] at h
    exact hR 1 _ h hp
  refine ⟨_, cellL h 0 0 rfl rfl rfl, _, cellL h 0 1 rfl rfl rfl, _, cellL h 0 2 rfl rfl rfl, _, cellL h 0 3 rfl rfl rfl, _, cellL h 0 4 rfl rfl rfl, _, cellL h 0 5 rfl rfl rfl, _, cellL h 0 6 rfl rfl rfl, ?_⟩
  refine newL (o := [(Value.int .u32 b_Host), (Value.int .i64 b_Lo), (Value.int .i64 b_Hi), (Value.int .i64 b_Map), (Value.int .i64 b_Filter), (Value.int .i64 b_Life), (Value.int .i64 b_Most), (Value.slice none 0 0), (Value.int .i64 0)]) h ?_
  intro b_2 w h
  replace h := rowNil enc67 67 1 h
  replace h := h.sel [1, 0] 1
  dsimp only [pickL, pickR, nthH, delH, dropH, List.cons_append, List.nil_append] at h
  exact hRX1 0 b_Host b_Lo b_Hi b_Map b_Filter b_Life b_Most ([] : List (Option Nat)) 0 b_2 (none ) 0 0 _ rfl h hp

/-! embrasure/addr.May (27) -/
def addr_May_wp (a_Host : Int) (a_Port : Int) (K : Bool → Prop) : Prop :=
  cond ((a_Host : Int) != 0) (cond (decide ((a_Port : Int) ≥ 1)) (K (decide ((a_Port : Int) ≤ 65535))) (K false)) (K false)
theorem addr_May_ok {a_Host : Int} {a_Port : Int} {FL : List HP} {w : World} {K : Bool → Prop} {R : Value → World → Prop}
  (h : Mem (FL) w) (hp : addr_May_wp a_Host a_Port K)
  (hR : ∀ (r : Bool) (w : World), Mem (FL) w → K r → R (Value.bool r) w) :
  CallV Try.prog 27 #[(Value.agg #[(Value.int .u32 a_Host), (Value.int .i64 a_Port)])] w R := by
  refine addr_May_call ?_
  unfold addr_May
  unfold addr_May_wp at hp
  refine newL (o := [(Value.int .u32 a_Host), (Value.int .i64 a_Port)]) h ?_
  intro b_1 w h
  refine ⟨_, cellL h 0 0 rfl rfl rfl, ?_⟩
  refine cond_both' hp (fun hp => ?_) (fun hp => ?_)
  · replace h := h.sel [] 1
    dsimp only [pickL, pickR, nthH, delH, dropH, List.cons_append, List.nil_append] at h
    exact hR false _ h hp
  refine ⟨_, cellL h 0 1 rfl rfl rfl, ?_⟩
  refine cond_both' hp (fun hp => ?_) (fun hp => ?_)
  · replace h := h.sel [] 1
    dsimp only [pickL, pickR, nthH, delH, dropH, List.cons_append, List.nil_append] at h
    exact hR false _ h hp
  refine ⟨_, cellL h 0 1 rfl rfl rfl, ?_⟩
  replace h := h.sel [] 1
  dsimp only [pickL, pickR, nthH, delH, dropH, List.cons_append, List.nil_append] at h
  exact hR (decide ((a_Port : Int) ≤ 65535)) _ h hp

/-! (*embrasure/nat.Nat).on$1 (46) -/
def nat_Nat_on_c1_wp (b_1 : Option Nat) (t : Int) (m_1 : List (Nat × (Int × Int × Int × Int × Int × Int × Bool × (List (Int × Int))))) (K : Bool → Prop) : Prop :=
  ∃ (b_3 : Nat), b_1 = some b_3 ∧ (∃ (x_1 : Int × Int × Int × Int × Int × Int × Bool × (List (Int × Int))), getS m_1 b_3 = some x_1 ∧ (K (decide ((x_1.2.2.2.2.2.1 : Int) ≤ t))))
theorem nat_Nat_on_c1_ok {b_2 : Nat} {b_1 : Option Nat} {t : Int} {m_1 : List (Nat × (Int × Int × Int × Int × Int × Int × Bool × (List (Int × Int))))} {FL : List HP} {w : World} {K : Bool → Prop} {R : Value → World → Prop}
  (hS71 : ∀ (b : Nat) (x : Int × Int × Int × Int × Int × Int × Bool × (List (Int × Int))), getS m_1 b = some x → roE71 FL b x)
  (h : Mem (cel b_2 3 [(Value.int .i64 t)] :: FL) w) (hp : nat_Nat_on_c1_wp b_1 t m_1 K)
  (hR : ∀ (r : Bool) (w : World), Mem (cel b_2 3 [(Value.int .i64 t)] :: FL) w → K r → R (Value.bool r) w) :
  CallV Try.prog 46 #[(Value.pointer (pn b_1)), (Value.pointer (some (Addr.mk b_2 0 none)))] w R := by
  refine nat_Nat_on_c1_call ?_
  unfold nat_Nat_on_c1
  unfold nat_Nat_on_c1_wp at hp
  replace h := h.drew
  obtain ⟨b_3, hb_3, hp⟩ := hp
  refine ⟨_, pnSome hb_3, ?_⟩
  obtain ⟨x_1, hx_1, hp⟩ := hp
  obtain ⟨qp7, qc7, hc_qp7, qe0, qe1, qe2, qe3, qe4, qe5, qe6, qe7, hF_qp7, -⟩ := hS71 b_3 x_1 hx_1
  refine ⟨_, qe5 _ (h.drop 1), ?_⟩
  refine ⟨_, cellL h 0 0 rfl rfl rfl, ?_⟩
  exact hR (decide ((x_1.2.2.2.2.2.1 : Int) ≤ t)) _ h hp

/-! slices.IndexFunc[[]*embrasure/nat.bound,*embrasure/nat.bound] (60) -/
def slices_IndexFunc_nat_bound_nat_bound_wp {σ1 : Type} (s : List (Option Nat)) (s_1 : σ1) (Y1 : (Option Nat) → σ1 → (Bool → σ1 → Prop) → Prop) (K : Int → σ1 → Prop) : Prop :=
  ∃ (I : Nat → Int → σ1 → Prop), (∃ (n_4 : Nat), I n_4 0 s_1) ∧ ∀ (n_2 : Nat) (t8 : Int) (s_3 : σ1), I n_2 t8 s_3 → (cond (decide ((t8 : Int) < ((s.length : Nat) : Int))) (0 ≤ (t8 : Int) ∧ (t8 : Int) < ((s.length : Nat) : Int) ∧ (∀ (x_1 : Option Nat), s[Int.toNat t8]? = some x_1 → (Y1 x_1 s_3 (fun (t16 : Bool) (s_4 : σ1) => cond t16 (K t8 s_4) (∃ (n_3 : Nat), n_3 < n_2 ∧ I n_3 (IntKind.wrap .i64 (t8 + 1)) s_4))))) (K (-1) s_3))
theorem slices_IndexFunc_nat_bound_nat_bound_ok {σ1 : Type} {A1 : σ1 → HP} {p_1 : Option Addr} {n_1 : Nat} {c_1 : Nat} {ff1 : Fn} {fa1 : Array Value} {fc1 : Array Value} {s : List (Option Nat)} {s_1 : σ1} {Y1 : (Option Nat) → σ1 → (Bool → σ1 → Prop) → Prop} {FL : List HP} {w : World} {K : Int → σ1 → Prop} {R : Value → World → Prop}
  (hY1 : ∀ (x0 : Option Nat) (s : σ1) (K : Bool → σ1 → Prop) (FL2 : List HP) (w : World) (R : Value → World → Prop), (∀ w, Mem FL2 w → Mem FL w) → Mem (A1 s :: FL2) w → Y1 x0 s K → (∀ (r : Bool) (s : σ1) (w : World), Mem (A1 s :: FL2) w → K r s → R (Value.bool r) w) → CalleeV Try.prog (Value.func ff1 fa1 fc1) #[(Value.pointer (pn x0))] w R)
  (hF_s : ∀ w, Mem FL w → Rd w 1 p_1 enc67 s) (hl_s : n_1 = s.length) (hc_s : n_1 ≤ c_1)
  (h : Mem (A1 s_1 :: FL) w) (hp : slices_IndexFunc_nat_bound_nat_bound_wp s s_1 Y1 K)
  (hR : ∀ (r : Int) (s_2 : σ1) (w : World), Mem (A1 s_2 :: FL) w → K r s_2 → R (Value.int .i64 r) w) :
  CallV Try.prog 60 #[(Value.slice p_1 n_1 c_1), (Value.func ff1 fa1 fc1)] w R := by
  refine slices_IndexFunc_nat_bound_nat_bound_call ?_
  unfold slices_IndexFunc_nat_bound_nat_bound
  unfold slices_IndexFunc_nat_bound_nat_bound_wp at hp
  subst hl_s
  obtain ⟨I, ⟨n_4, h0⟩, hq⟩ := hp
  refine ⟨fun n_2 s0p s0l s0c f1 t7 t8 w => ∃ (s_3 : σ1), p_1 = s0p ∧ s.length = s0l ∧ c_1 = s0c ∧ (Value.func ff1 fa1 fc1) = f1 ∧ ((s.length : Nat) : Int) = t7 ∧ I n_2 t8 s_3 ∧ Mem (A1 s_3 :: FL) w, ⟨n_4, s_1, rfl, rfl, rfl, rfl, rfl, h0, h⟩, ?_⟩
  clear h0 h
  rintro n_2 s0p s0l s0c f1 t7 t8 w ⟨s_3, rfl, rfl, rfl, rfl, rfl, hp, h⟩
  replace hp := hq n_2 t8 s_3 hp
  clear hq
  unfold slices_IndexFunc_nat_bound_nat_bound_l1
  refine cond_both' hp (fun hp => ?_) (fun hp => ?_)
  · exact hR (-1) s_3 _ h hp
  obtain ⟨ia_1, ja_1, hp⟩ := hp
  obtain ⟨a_1, ha_1⟩ := rdAddr (hF_s _ (h.drop 1)) rfl ia_1 ja_1
  refine ⟨a_1, ha_1, ia_1, ja_1, ?_⟩
  obtain ⟨x_1, hx_1, hc⟩ := rdCell0 (hF_s _ (h.drop 1)) ha_1 rfl ia_1 ja_1
  replace hp := hp x_1 hx_1
  refine ⟨_, hc _ rfl, ?_⟩
  refine hY1 x_1 _ _ (FL) _ _ (fun _ h => Mem.drop 0 h) h hp ?_
  intro t16 s_4 w h hp
  refine ⟨_, rfl, ?_⟩
  refine cond_both hp (fun hp => ?_) (fun hp => ?_)
  · exact hR t8 s_4 _ h hp
  obtain ⟨n_3, hn, hp⟩ := hp
  exact ⟨n_3, hn, s_4, rfl, rfl, rfl, rfl, rfl, hp, h⟩

/-! slices.DeleteFunc[[]*embrasure/nat.bound,*embrasure/nat.bound] (43) -/
def slices_DeleteFunc_nat_bound_nat_bound_wp {σ1 : Type} (s : List (Option Nat)) (s_1 : σ1) (Y1 : (Option Nat) → σ1 → (Bool → σ1 → Prop) → Prop) (K : List (Option Nat) → σ1 → Prop) : Prop :=
  slices_IndexFunc_nat_bound_nat_bound_wp s s_1 Y1 (fun (r : Int) (s_3 : σ1) => cond ((r : Int) == (-1)) (K s s_3) (joinP3 (fun (s_4 : List (Option Nat)) (i5 : Int) (s_5 : σ1) => 0 ≤ (i5 : Int) ∧ (i5 : Int) ≤ ((s.length : Nat) : Int) ∧ (0 ≤ (i5 : Int) ∧ (i5 : Int) ≤ ((s.length : Nat) : Int) ∧ (K ((((s_4.take (Int.toNat i5)) ++ List.replicate (s.length - (Int.toNat i5)) (none : Option Nat) ++ (s_4.drop s.length)).take (Int.toNat i5)).drop 0) s_5))) (fun (Q : List (Option Nat) → Int → σ1 → Prop) => ∃ (I : Nat → List (Option Nat) → Int → Int → σ1 → Prop), (∃ (n_5 : Nat), I n_5 s r (IntKind.wrap .i64 (r + 1)) s_3) ∧ ∀ (n_2 : Nat) (s_6 : List (Option Nat)) (i5_1 : Int) (j6 : Int) (s_7 : σ1), I n_2 s_6 i5_1 j6 s_7 → (cond (decide ((j6 : Int) < ((s.length : Nat) : Int))) (0 ≤ (j6 : Int) ∧ (j6 : Int) < ((s.length : Nat) : Int) ∧ (∀ (x_1 : Option Nat), s_6[Int.toNat j6]? = some x_1 → (Y1 x_1 s_7 (fun (t28 : Bool) (s_8 : σ1) => cond (!t28) (0 ≤ (i5_1 : Int) ∧ (i5_1 : Int) < ((s.length : Nat) : Int) ∧ (∃ (n_3 : Nat), n_3 < n_2 ∧ I n_3 (List.set s_6 (Int.toNat i5_1) x_1) (IntKind.wrap .i64 (i5_1 + 1)) (IntKind.wrap .i64 (j6 + 1)) s_8)) (∃ (n_4 : Nat), n_4 < n_2 ∧ I n_4 s_6 i5_1 (IntKind.wrap .i64 (j6 + 1)) s_8))))) (Q s_6 i5_1 s_7)))))
theorem slices_DeleteFunc_nat_bound_nat_bound_ok {σ1 : Type} {A1 : σ1 → HP} {p_1 : Option Addr} {c_1 : Nat} {n_1 : Nat} {ff1 : Fn} {fa1 : Array Value} {fc1 : Array Value} {s : List (Option Nat)} {s_1 : σ1} {Y1 : (Option Nat) → σ1 → (Bool → σ1 → Prop) → Prop} {FL : List HP} {w : World} {K : List (Option Nat) → σ1 → Prop} {R : Value → World → Prop}
  (hY1 : ∀ (x0 : Option Nat) (s : σ1) (K : Bool → σ1 → Prop) (FL2 : List HP) (w : World) (R : Value → World → Prop), (∀ w, Mem FL2 w → Mem FL w) → Mem (A1 s :: FL2) w → Y1 x0 s K → (∀ (r : Bool) (s : σ1) (w : World), Mem (A1 s :: FL2) w → K r s → R (Value.bool r) w) → CalleeV Try.prog (Value.func ff1 fa1 fc1) #[(Value.pointer (pn x0))] w R) (hn_p_1 : n_1 = s.length)
  (h : Mem (row enc67 67 1 p_1 c_1 s :: A1 s_1 :: FL) w) (hp : slices_DeleteFunc_nat_bound_nat_bound_wp s s_1 Y1 K)
  (hR : ∀ (rs : List (Option Nat)) (s_2 : σ1) (p_2 : Option Addr) (n_2 : Nat) (c_2 : Nat) (w : World), n_2 = rs.length → Mem (row enc67 67 1 p_2 c_2 rs :: A1 s_2 :: FL) w → K rs s_2 → R (Value.slice p_2 n_2 c_2) w) :
  CallV Try.prog 43 #[(Value.slice p_1 n_1 c_1), (Value.func ff1 fa1 fc1)] w R := by
  refine slices_DeleteFunc_nat_bound_nat_bound_call ?_
  unfold slices_DeleteFunc_nat_bound_nat_bound
  unfold slices_DeleteFunc_nat_bound_nat_bound_wp at hp
  subst hn_p_1
  have cpp_1 := rowCap h 0 rfl
  replace h := h.pick [1]
  dsimp only [pickL, pickR, nthH, delH, dropH, List.cons_append, List.nil_append] at h
  refine slices_IndexFunc_nat_bound_nat_bound_ok (FL := row enc67 67 1 p_1 c_1 s :: FL) (A1 := A1) (Y1 := Y1) (σ1 := σ1) (s_1 := s_1) (fun _ _ _ FL2 w R hx => hY1 _ _ _ FL2 w R (fun w h => (Mem.drop 1 (hx w h)))) (fun w h => (rowRd h 0 encL67 rfl)) rfl cpp_1 h hp ?_
  intro r s_3 w h hp
  refine ⟨_, rfl, ?_⟩
  refine cond_both hp (fun hp => ?_) (fun hp => ?_)
  · replace h := h.sel [1, 0] 0
    dsimp only [pickL, pickR, nthH, delH, dropH, List.cons_append, List.nil_append] at h
    exact hR s s_3 p_1 s.length c_1 _ rfl h hp
  obtain ⟨Q, hq, hp⟩ := hp
  refine ⟨fun s0p s0l s0c i5 w => ∃ (s_4 : List (Option Nat)), ∃ (s_5 : σ1), p_1 = s0p ∧ s.length = s0l ∧ c_1 = s0c ∧ s.length = s_4.length ∧ Q s_4 i5 s_5 ∧ Mem (A1 s_5 :: row enc67 67 1 p_1 c_1 s_4 :: FL) w, ?_, ?_⟩
  · rintro s0p s0l s0c i5 w ⟨s_4, s_5, rfl, rfl, rfl, hl_s_4, hp, h⟩
    replace hp := hq s_4 i5 s_5 hp
    unfold slices_DeleteFunc_nat_bound_nat_bound_j1
    obtain ⟨g_1la, g_1lb, hp⟩ := hp
    have vg_1_lh : (Int.toNat i5) ≤ s.length := (natLe g_1la g_1lb)
    have vg_1_hm : s.length ≤ c_1 := cpp_1
    have vg_1_mc : c_1 ≤ c_1 := (Nat.le_refl _)
    have vg_1_hl : s.length ≤ s_4.length := (Nat.le_of_eq hl_s_4)
    refine ⟨g_1la, g_1lb, ?_⟩
    refine clearL (x0 := (none : Option Nat)) (lo := (Int.toNat i5)) (hi := s.length) (m := c_1) und62 zr67 h 1 encL67 rfl rfl rfl vg_1_lh vg_1_hm vg_1_hl rfl ?_
    intro w h
    dsimp only [setH, setVs, setV] at h
    refine ⟨rfl, ?_⟩
    obtain ⟨g_2ha, g_2hb, hp⟩ := hp
    have vg_2_lh : 0 ≤ (Int.toNat i5) := (Nat.zero_le _)
    have vg_2_hm : (Int.toNat i5) ≤ c_1 := (Nat.le_trans (natLe g_2ha g_2hb) cpp_1)
    have vg_2_mc : c_1 ≤ c_1 := (Nat.le_refl _)
    have vg_2_hl : (Int.toNat i5) ≤ ((s_4.take (Int.toNat i5)) ++ List.replicate (s.length - (Int.toNat i5)) (none : Option Nat) ++ (s_4.drop s.length)).length := (leLen g_2ha g_2hb (lenClear hl_s_4 vg_1_lh vg_1_hl))
    refine ⟨g_2ha, (leCap g_2hb cpp_1), ?_⟩
    replace h := rowShrink h 1 encL67 rfl (l := 0) (hi := (Int.toNat i5)) (m := c_1) vg_2_lh vg_2_hm vg_2_mc vg_2_hl
    dsimp only [setH, setVs, setV] at h
    replace h := h.sel [1, 0] 0
    dsimp only [pickL, pickR, nthH, delH, dropH, List.cons_append, List.nil_append] at h
    exact hR ((((s_4.take (Int.toNat i5)) ++ List.replicate (s.length - (Int.toNat i5)) (none : Option Nat) ++ (s_4.drop s.length)).take (Int.toNat i5)).drop 0) s_5 (slAddr p_1 1 0 c_1) ((Int.toNat i5) - 0) (c_1 - 0) _ (viewLen vg_2_hl) h hp
  clear hq
  obtain ⟨I, ⟨n_5, h0⟩, hq⟩ := hp
  refine ⟨fun n_2 s0_1p s0_1l s0_1c del1 i5_1 j6 w => ∃ (s_6 : List (Option Nat)), ∃ (s_7 : σ1), p_1 = s0_1p ∧ s.length = s0_1l ∧ c_1 = s0_1c ∧ (Value.func ff1 fa1 fc1) = del1 ∧ s.length = s_6.length ∧ I n_2 s_6 i5_1 j6 s_7 ∧ Mem (A1 s_7 :: row enc67 67 1 p_1 c_1 s_6 :: FL) w, ⟨n_5, s, s_3, rfl, rfl, rfl, rfl, rfl, h0, h⟩, ?_⟩
  clear h0 h
  rintro n_2 s0_1p s0_1l s0_1c del1 i5_1 j6 w ⟨s_6, s_7, rfl, rfl, rfl, rfl, hl_s_6, hp, h⟩
  replace hp := hq n_2 s_6 i5_1 j6 s_7 hp
  clear hq
  unfold slices_DeleteFunc_nat_bound_nat_bound_l2
  refine cond_both' hp (fun hp => ?_) (fun hp => ?_)
  · exact ⟨s_6, s_7, rfl, rfl, rfl, hl_s_6, hp, h⟩
  obtain ⟨ia_1, ja_1, hp⟩ := hp
  obtain ⟨a_1, ha_1⟩ := rdAddr (rowRd h 1 encL67 rfl) hl_s_6 ia_1 ja_1
  refine ⟨a_1, ha_1, ia_1, ja_1, ?_⟩
  obtain ⟨x_1, hx_1, hc⟩ := rdCell0 (rowRd h 1 encL67 rfl) ha_1 hl_s_6 ia_1 ja_1
  replace hp := hp x_1 hx_1
  refine ⟨_, hc _ rfl, ?_⟩
  refine hY1 x_1 _ _ (row enc67 67 1 p_1 c_1 s_6 :: FL) _ _ (fun _ h => Mem.drop 1 h) h hp ?_
  intro t28 s_8 w h hp
  refine ⟨_, rfl, ?_⟩
  refine cond_both' hp (fun hp => ?_) (fun hp => ?_)
  · obtain ⟨n_4, hn, hp⟩ := hp
    exact ⟨n_4, hn, s_6, s_8, rfl, rfl, rfl, rfl, hl_s_6, hp, h⟩
  obtain ⟨ia_2, ja_2, hp⟩ := hp
  obtain ⟨a_2, ha_2⟩ := rdAddr (rowRd h 1 encL67 rfl) hl_s_6 ia_2 ja_2
  refine ⟨a_2, ha_2, ia_2, ja_2, ?_⟩
  refine rowSetW (ys := [(Value.pointer (pn x_1))]) (x := x_1) h 1 encL67 rfl ha_2 hl_s_6 ia_2 ja_2 sz67 rfl rfl rfl ?_
  intro w h
  dsimp only [setH, setVs, setV] at h
  obtain ⟨n_3, hn, hp⟩ := hp
  exact ⟨n_3, hn, (List.set s_6 (Int.toNat i5_1) x_1), s_8, rfl, rfl, rfl, rfl, (lenSet hl_s_6), hp, h⟩

/-! (*embrasure/nat.Nat).on (28) -/
def nat_Nat_on_wp (box : Int) (box_1 : Int) (box_2 : Int) (box_3 : Int) (box_4 : Int) (box_5 : Int) (box_6 : Int) (list : List (Option Nat)) (now : Int) (now_1 : Int) (m_1 : List (Nat × (Int × Int × Int × Int × Int × Int × Bool × (List (Int × Int))))) (K : Bool → List (Option Nat) → Int → Prop) : Prop :=
  joinP1 (fun (t14 : Bool) => cond t14 (K false list now) (slices_DeleteFunc_nat_bound_nat_bound_wp list () (fun x_1 s K_1 => nat_Nat_on_c1_wp x_1 now_1 m_1 (fun (r : Bool) => K_1 r s)) (fun (rs : List (Option Nat)) (s_1 : (Unit)) => K true rs now_1))) (fun (Q : Bool → Prop) => cond (decide ((now_1 : Int) < now)) (Q true) (Q (decide ((now_1 : Int) > 1099511627776))))
theorem nat_Nat_on_ok {b_1 : Nat} {p_1 : Option Addr} {c_1 : Nat} {hd : Nat → Option Addr × Nat} {box : Int} {box_1 : Int} {box_2 : Int} {box_3 : Int} {box_4 : Int} {box_5 : Int} {box_6 : Int} {list : List (Option Nat)} {now : Int} {now_1 : Int} {m_1 : List (Nat × (Int × Int × Int × Int × Int × Int × Bool × (List (Int × Int))))} {FL : List HP} {w : World} {K : Bool → List (Option Nat) → Int → Prop} {R : Value → World → Prop}
  (h : Mem (cel b_1 64 [(Value.int .u32 box), (Value.int .i64 box_1), (Value.int .i64 box_2), (Value.int .i64 box_3), (Value.int .i64 box_4), (Value.int .i64 box_5), (Value.int .i64 box_6), (Value.slice p_1 list.length c_1), (Value.int .i64 now)] :: row enc67 67 1 p_1 c_1 list :: stoP stoE71 hd m_1 :: FL) w) (hp : nat_Nat_on_wp box box_1 box_2 box_3 box_4 box_5 box_6 list now now_1 m_1 K)
  (hR : ∀ (r : Bool) (list_1 : List (Option Nat)) (now_2 : Int) (p_2 : Option Addr) (n_1 : Nat) (c_2 : Nat) (w : World), n_1 = list_1.length → Mem (cel b_1 64 [(Value.int .u32 box), (Value.int .i64 box_1), (Value.int .i64 box_2), (Value.int .i64 box_3), (Value.int .i64 box_4), (Value.int .i64 box_5), (Value.int .i64 box_6), (Value.slice p_2 n_1 c_2), (Value.int .i64 now_2)] :: row enc67 67 1 p_2 c_2 list_1 :: stoP stoE71 hd m_1 :: FL) w → K r list_1 now_2 → R (Value.bool r) w) :
  CallV Try.prog 28 #[(Value.pointer (some (Addr.mk b_1 0 none))), (Value.int .i64 now_1)] w R := by
  refine nat_Nat_on_call ?_
  unfold nat_Nat_on
  unfold nat_Nat_on_wp at hp
  have cpp_1 := rowCap h 1 rfl
  refine newL (o := [(Value.int .i64 now_1)]) h ?_
  intro b_2 w h
  obtain ⟨Q, hq, hp⟩ := hp
  refine ⟨fun n0 now3 t14 w => (some (Addr.mk b_1 0 none)) = n0 ∧ (Addr.mk b_2 0 none) = now3 ∧ Q t14 ∧ Mem (cel b_2 3 [(Value.int .i64 now_1)] :: cel b_1 64 [(Value.int .u32 box), (Value.int .i64 box_1), (Value.int .i64 box_2), (Value.int .i64 box_3), (Value.int .i64 box_4), (Value.int .i64 box_5), (Value.int .i64 box_6), (Value.slice p_1 list.length c_1), (Value.int .i64 now)] :: row enc67 67 1 p_1 c_1 list :: stoP stoE71 hd m_1 :: FL) w, ?_, ?_⟩
  · rintro n0 now3 t14 w ⟨rfl, rfl, hp, h⟩
    replace hp := hq t14 hp
    unfold nat_Nat_on_j1
    refine cond_both hp (fun hp => ?_) (fun hp => ?_)
    · replace h := h.sel [1, 1, 1] 1
      dsimp only [pickL, pickR, nthH, delH, dropH, List.cons_append, List.nil_append] at h
      exact hR false list now p_1 list.length c_1 _ rfl h hp
    refine ⟨_, cellL h 0 0 rfl rfl rfl, ?_⟩
    refine ⟨_, rfl, ?_⟩
    refine storeL (ys := [(Value.int .i64 now_1)]) h 1 8 rfl rfl rfl sz3 rfl rfl ?_
    intro w h
    dsimp only [setH, setVs, setV] at h
    refine ⟨_, rfl, ?_⟩
    refine ⟨_, _, _, cellL h 1 7 rfl rfl rfl, ?_⟩
    replace h : Mem ((fun (_ : Unit) => HL [cel b_2 3 [(Value.int .i64 now_1)]]) () :: cel b_1 64 [(Value.int .u32 box), (Value.int .i64 box_1), (Value.int .i64 box_2), (Value.int .i64 box_3), (Value.int .i64 box_4), (Value.int .i64 box_5), (Value.int .i64 box_6), (Value.slice p_1 list.length c_1), (Value.int .i64 now_1)] :: row enc67 67 1 p_1 c_1 list :: stoP stoE71 hd m_1 :: FL) _ := h.pack 1 [cel b_2 3 [(Value.int .i64 now_1)]] rfl
    replace h := h.pick [2, 0]
    dsimp only [pickL, pickR, nthH, delH, dropH, List.cons_append, List.nil_append] at h
    have hSr71 := stoRo71 (h.drop 2) 1 rfl
    refine slices_DeleteFunc_nat_bound_nat_bound_ok (FL := cel b_1 64 [(Value.int .u32 box), (Value.int .i64 box_1), (Value.int .i64 box_2), (Value.int .i64 box_3), (Value.int .i64 box_4), (Value.int .i64 box_5), (Value.int .i64 box_6), (Value.slice p_1 list.length c_1), (Value.int .i64 now_1)] :: stoP stoE71 hd m_1 :: FL) (A1 := (fun (_ : Unit) => HL [cel b_2 3 [(Value.int .i64 now_1)]])) (Y1 := (fun x_1 s K_1 => nat_Nat_on_c1_wp x_1 now_1 m_1 (fun (r : Bool) => K_1 r s))) (σ1 := Unit) (s_1 := ()) ?_ rfl h hp ?_
    · intro x_1 s K FL2 w R hx h hp hR
      replace h := h.unpack
      dsimp only [pickL, pickR, nthH, delH, dropH, List.cons_append, List.nil_append] at h
      refine calleeFn (by kernel_rfl) ?_
      refine nat_Nat_on_c1_ok (fun b x hx_ => roEm71 (fun w h => (by first | exact hx _ h | exact hx _ (h.drop 1) | exact hx _ (h.drop 2) | exact hx _ (h.drop 3) | exact hx _ (h.drop 4) | exact hx _ (h.drop 5))) (hSr71 b x hx_)) h hp ?_
      intro r w h hp
      exact hR r s _ (h.pack 1 [cel b_2 3 [(Value.int .i64 now_1)]] rfl) hp
    rintro rs s_1 p_3 n_2 c_3 w rfl h hp
    have cpp_3 := rowCap h 0 rfl
    replace h := h.pick [1]
    dsimp only [pickL, pickR, nthH, delH, dropH, List.cons_append, List.nil_append] at h
    replace h := h.unpack
    dsimp only [pickL, pickR, nthH, delH, dropH, List.cons_append, List.nil_append] at h
    refine ⟨_, _, _, rfl, ?_⟩
    refine ⟨_, rfl, ?_⟩
    refine storeL (ys := [(Value.slice p_3 rs.length c_3)]) h 2 7 rfl rfl rfl sz62 rfl rfl ?_
    intro w h
    dsimp only [setH, setVs, setV] at h
    replace h := h.sel [2, 1, 1] 1
    dsimp only [pickL, pickR, nthH, delH, dropH, List.cons_append, List.nil_append] at h
    exact hR true rs now_1 p_3 rs.length c_3 _ rfl h hp
  clear hq
  replace h := h.drew
  refine ⟨_, cellL h 0 0 rfl rfl rfl, ?_⟩
  refine ⟨_, rfl, ?_⟩
  refine ⟨_, cellL h 1 8 rfl rfl rfl, ?_⟩
  refine cond_both hp (fun hp => ?_) (fun hp => ?_)
  · exact ⟨rfl, rfl, hp, h⟩
  refine ⟨_, cellL h 0 0 rfl rfl rfl, ?_⟩
  exact ⟨rfl, rfl, hp, h⟩

/-! (*embrasure/nat.Nat).of$1 (61) -/
def nat_Nat_of_c1_wp {σ0 : Type} (s : σ0) (Y0 : (Option Nat) → σ0 → (Bool → σ0 → Prop) → Prop) (box : Int) (box_1 : Int) (box_2 : Int) (box_3 : Int) (box_4 : Int) (box_5 : Int) (box_6 : Int) (list : List (Option Nat)) (now : Int) (Host : Int) (Port : Int) (m_1 : List (Nat × (Int × Int × Int × Int × Int × Int × Bool × (List (Int × Int))))) (K : σ0 → Prop) : Prop :=
  ∃ (I : Nat → Int → σ0 → Prop), (∃ (n_3 : Nat), I n_3 0 s) ∧ ∀ (n_1 : Nat) (t11 : Int) (s_2 : σ0), I n_1 t11 s_2 → (cond (decide ((t11 : Int) < ((list.length : Nat) : Int))) (0 ≤ (t11 : Int) ∧ (t11 : Int) < ((list.length : Nat) : Int) ∧ (∀ (x_1 : Option Nat), list[Int.toNat t11]? = some x_1 → (joinP2 (fun (t27 : Bool) (s_3 : σ0) => cond t27 (K s_3) (∃ (n_2 : Nat), n_2 < n_1 ∧ I n_2 (IntKind.wrap .i64 (t11 + 1)) s_3)) (fun (Q : Bool → σ0 → Prop) => ∃ (b_4 : Nat), x_1 = some b_4 ∧ (∃ (x_2 : Int × Int × Int × Int × Int × Int × Bool × (List (Int × Int))), getS m_1 b_4 = some x_2 ∧ (cond (((x_2.1 : Int) == Host) && (((x_2.2.1 : Int) == Port) && true)) (Y0 x_1 s_2 (fun (t25 : Bool) (s_4 : σ0) => Q (!t25) s_4)) (Q false s_2))))))) (K s_2))
theorem nat_Nat_of_c1_ok {σ0 : Type} {A0 : σ0 → HP} {ff0 : Fn} {fa0 : Array Value} {fc0 : Array Value} {b_1 : Nat} {b_2 : Nat} {p_1 : Option Addr} {c_1 : Nat} {b_3 : Nat} {s : σ0} {Y0 : (Option Nat) → σ0 → (Bool → σ0 → Prop) → Prop} {box : Int} {box_1 : Int} {box_2 : Int} {box_3 : Int} {box_4 : Int} {box_5 : Int} {box_6 : Int} {list : List (Option Nat)} {now : Int} {Host : Int} {Port : Int} {m_1 : List (Nat × (Int × Int × Int × Int × Int × Int × Bool × (List (Int × Int))))} {FL : List HP} {w : World} {K : σ0 → Prop} {R : Value → World → Prop}
  (hY0 : ∀ (x0 : Option Nat) (s : σ0) (K : Bool → σ0 → Prop) (FL2 : List HP) (w : World) (R : Value → World → Prop), (∀ w, Mem FL2 w → Mem FL w) → Mem (A0 s :: FL2) w → Y0 x0 s K → (∀ (r : Bool) (s : σ0) (w : World), Mem (A0 s :: FL2) w → K r s → R (Value.bool r) w) → CalleeV Try.prog (Value.func ff0 fa0 fc0) #[(Value.pointer (pn x0))] w R)
  (hS71 : ∀ (b : Nat) (x : Int × Int × Int × Int × Int × Int × Bool × (List (Int × Int))), getS m_1 b = some x → roE71 FL b x)
  (h : Mem (cel b_1 30 [(Value.pointer (some (Addr.mk b_2 0 none)))] :: cel b_2 64 [(Value.int .u32 box), (Value.int .i64 box_1), (Value.int .i64 box_2), (Value.int .i64 box_3), (Value.int .i64 box_4), (Value.int .i64 box_5), (Value.int .i64 box_6), (Value.slice p_1 list.length c_1), (Value.int .i64 now)] :: row enc67 67 1 p_1 c_1 list :: cel b_3 24 [(Value.int .u32 Host), (Value.int .i64 Port)] :: A0 s :: FL) w) (hp : nat_Nat_of_c1_wp s Y0 box box_1 box_2 box_3 box_4 box_5 box_6 list now Host Port m_1 K)
  (hR : ∀ (s_1 : σ0) (w : World), Mem (cel b_1 30 [(Value.pointer (some (Addr.mk b_2 0 none)))] :: cel b_2 64 [(Value.int .u32 box), (Value.int .i64 box_1), (Value.int .i64 box_2), (Value.int .i64 box_3), (Value.int .i64 box_4), (Value.int .i64 box_5), (Value.int .i64 box_6), (Value.slice p_1 list.length c_1), (Value.int .i64 now)] :: row enc67 67 1 p_1 c_1 list :: cel b_3 24 [(Value.int .u32 Host), (Value.int .i64 Port)] :: A0 s_1 :: FL) w → K s_1 → R undef w) :
  CallV Try.prog 61 #[(Value.func ff0 fa0 fc0), (Value.pointer (some (Addr.mk b_1 0 none))), (Value.pointer (some (Addr.mk b_3 0 none)))] w R := by
  refine nat_Nat_of_c1_call ?_
  unfold nat_Nat_of_c1
  unfold nat_Nat_of_c1_wp at hp
  have cpp_1 := rowCap h 2 rfl
  refine ⟨_, cellL h 0 0 rfl rfl rfl, ?_⟩
  refine ⟨_, rfl, ?_⟩
  refine ⟨_, _, _, cellL h 1 7 rfl rfl rfl, ?_⟩
  obtain ⟨I, ⟨n_3, h0⟩, hq⟩ := hp
  refine ⟨fun n_1 yield0 t2 t9p t9l t9c t10 t11 w => ∃ (s_2 : σ0), (Value.func ff0 fa0 fc0) = yield0 ∧ (Addr.mk b_3 0 none) = t2 ∧ p_1 = t9p ∧ list.length = t9l ∧ c_1 = t9c ∧ ((list.length : Nat) : Int) = t10 ∧ I n_1 t11 s_2 ∧ Mem (cel b_1 30 [(Value.pointer (some (Addr.mk b_2 0 none)))] :: cel b_2 64 [(Value.int .u32 box), (Value.int .i64 box_1), (Value.int .i64 box_2), (Value.int .i64 box_3), (Value.int .i64 box_4), (Value.int .i64 box_5), (Value.int .i64 box_6), (Value.slice p_1 list.length c_1), (Value.int .i64 now)] :: row enc67 67 1 p_1 c_1 list :: cel b_3 24 [(Value.int .u32 Host), (Value.int .i64 Port)] :: A0 s_2 :: FL) w, ⟨n_3, s, rfl, rfl, rfl, rfl, rfl, rfl, h0, h⟩, ?_⟩
  clear h0 h
  rintro n_1 yield0 t2 t9p t9l t9c t10 t11 w ⟨s_2, rfl, rfl, rfl, rfl, rfl, rfl, hp, h⟩
  replace hp := hq n_1 t11 s_2 hp
  clear hq
  unfold nat_Nat_of_c1_l1
  refine cond_both' hp (fun hp => ?_) (fun hp => ?_)
  · exact hR s_2 _ h hp
  obtain ⟨ia_1, ja_1, hp⟩ := hp
  obtain ⟨a_1, ha_1⟩ := rdAddr (rowRd h 2 encL67 rfl) rfl ia_1 ja_1
  refine ⟨a_1, ha_1, ia_1, ja_1, ?_⟩
  obtain ⟨x_1, hx_1, hc⟩ := rdCell0 (rowRd h 2 encL67 rfl) ha_1 rfl ia_1 ja_1
  replace hp := hp x_1 hx_1
  refine ⟨_, hc _ rfl, ?_⟩
  obtain ⟨Q, hq, hp⟩ := hp
  refine ⟨fun yield0_1 t2_1 t9_1p t9_1l t9_1c t10_1 t11_1 t27 w => ∃ (s_3 : σ0), (Value.func ff0 fa0 fc0) = yield0_1 ∧ (Addr.mk b_3 0 none) = t2_1 ∧ p_1 = t9_1p ∧ list.length = t9_1l ∧ c_1 = t9_1c ∧ ((list.length : Nat) : Int) = t10_1 ∧ t11 = t11_1 ∧ Q t27 s_3 ∧ Mem (cel b_1 30 [(Value.pointer (some (Addr.mk b_2 0 none)))] :: cel b_2 64 [(Value.int .u32 box), (Value.int .i64 box_1), (Value.int .i64 box_2), (Value.int .i64 box_3), (Value.int .i64 box_4), (Value.int .i64 box_5), (Value.int .i64 box_6), (Value.slice p_1 list.length c_1), (Value.int .i64 now)] :: row enc67 67 1 p_1 c_1 list :: cel b_3 24 [(Value.int .u32 Host), (Value.int .i64 Port)] :: A0 s_3 :: FL) w, ?_, ?_⟩
  · rintro yield0_1 t2_1 t9_1p t9_1l t9_1c t10_1 t11_1 t27 w ⟨s_3, rfl, rfl, rfl, rfl, rfl, rfl, rfl, hp, h⟩
    replace hp := hq t27 s_3 hp
    unfold nat_Nat_of_c1_j2
    refine cond_both hp (fun hp => ?_) (fun hp => ?_)
    · exact hR s_3 _ h hp
    obtain ⟨n_2, hn, hp⟩ := hp
    exact ⟨n_2, hn, s_3, rfl, rfl, rfl, rfl, rfl, rfl, hp, h⟩
  clear hq
  replace h := h.drew
  obtain ⟨b_4, hb_4, hp⟩ := hp
  refine ⟨_, pnSome hb_4, ?_⟩
  obtain ⟨x_2, hx_2, hp⟩ := hp
  obtain ⟨qp7, qc7, hc_qp7, qe0, qe1, qe2, qe3, qe4, qe5, qe6, qe7, hF_qp7, -⟩ := hS71 b_4 x_2 hx_2
  refine ⟨_, qe0 _ (h.drop 5), _, qe1 _ (h.drop 5), ?_⟩
  refine ⟨_, cellL h 3 0 rfl rfl rfl, _, cellL h 3 1 rfl rfl rfl, ?_⟩
  refine eqlAgg (xs := [(Value.int .u32 x_2.1), (Value.int .i64 x_2.2.1)]) (ys := [(Value.int .u32 Host), (Value.int .i64 Port)]) eqG24 eqA24 (eqT24 x_2.1 x_2.2.1 Host Port) ?_
  refine ⟨_, rfl, ?_⟩
  refine ⟨rfl, ?_⟩
  refine cond_both' hp (fun hp => ?_) (fun hp => ?_)
  · exact ⟨s_2, rfl, rfl, rfl, rfl, rfl, rfl, rfl, hp, h⟩
  replace h := h.pick [4]
  dsimp only [pickL, pickR, nthH, delH, dropH, List.cons_append, List.nil_append] at h
  refine hY0 x_1 _ _ (cel b_1 30 [(Value.pointer (some (Addr.mk b_2 0 none)))] :: cel b_2 64 [(Value.int .u32 box), (Value.int .i64 box_1), (Value.int .i64 box_2), (Value.int .i64 box_3), (Value.int .i64 box_4), (Value.int .i64 box_5), (Value.int .i64 box_6), (Value.slice p_1 list.length c_1), (Value.int .i64 now)] :: row enc67 67 1 p_1 c_1 list :: cel b_3 24 [(Value.int .u32 Host), (Value.int .i64 Port)] :: FL) _ _ (fun _ h => Mem.drop 4 h) h hp ?_
  intro t25 s_4 w h hp
  refine ⟨_, rfl, ?_⟩
  replace h := h.sel [1, 1, 1, 1, 0] 0
  dsimp only [pickL, pickR, nthH, delH, dropH, List.cons_append, List.nil_append] at h
  exact ⟨s_4, rfl, rfl, rfl, rfl, rfl, rfl, rfl, hp, h⟩

/-! (*embrasure/nat.Nat).of (48) -/
def nat_Nat_of_wp (box : Int) (box_1 : Int) (box_2 : Int) (box_3 : Int) (box_4 : Int) (box_5 : Int) (box_6 : Int) (now : Int) (in_Host : Int) (in_Port : Int) (K : Int → Int → Prop) : Prop :=
  K in_Host in_Port
theorem nat_Nat_of_ok {b_1 : Nat} {p_1 : Option Addr} {n_1 : Nat} {c_1 : Nat} {box : Int} {box_1 : Int} {box_2 : Int} {box_3 : Int} {box_4 : Int} {box_5 : Int} {box_6 : Int} {now : Int} {in_Host : Int} {in_Port : Int} {FL : List HP} {w : World} {K : Int → Int → Prop} {R : Value → World → Prop}
  (h : Mem (cel b_1 64 [(Value.int .u32 box), (Value.int .i64 box_1), (Value.int .i64 box_2), (Value.int .i64 box_3), (Value.int .i64 box_4), (Value.int .i64 box_5), (Value.int .i64 box_6), (Value.slice p_1 n_1 c_1), (Value.int .i64 now)] :: FL) w) (hp : nat_Nat_of_wp box box_1 box_2 box_3 box_4 box_5 box_6 now in_Host in_Port K)
  (hR : ∀ (Host : Int) (Port : Int) (b_2 : Nat) (b_3 : Nat) (w : World), Mem (cel b_2 30 [(Value.pointer (some (Addr.mk b_1 0 none)))] :: cel b_3 24 [(Value.int .u32 Host), (Value.int .i64 Port)] :: cel b_1 64 [(Value.int .u32 box), (Value.int .i64 box_1), (Value.int .i64 box_2), (Value.int .i64 box_3), (Value.int .i64 box_4), (Value.int .i64 box_5), (Value.int .i64 box_6), (Value.slice p_1 n_1 c_1), (Value.int .i64 now)] :: FL) w → K Host Port → R (Value.func (Fn.func 61) #[] #[(Value.pointer (some (Addr.mk b_2 0 none))), (Value.pointer (some (Addr.mk b_3 0 none)))]) w) :
  CallV Try.prog 48 #[(Value.pointer (some (Addr.mk b_1 0 none))), (Value.agg #[(Value.int .u32 in_Host), (Value.int .i64 in_Port)])] w R := by
  refine nat_Nat_of_call ?_
  unfold nat_Nat_of
  unfold nat_Nat_of_wp at hp
  refine newL (o := [(Value.pointer (some (Addr.mk b_1 0 none)))]) h ?_
  intro b_2 w h
  refine newL (o := [(Value.int .u32 in_Host), (Value.int .i64 in_Port)]) h ?_
  intro b_3 w h
  replace h := h.sel [1, 0, 0] 0
  dsimp only [pickL, pickR, nthH, delH, dropH, List.cons_append, List.nil_append] at h
  exact hR in_Host in_Port b_2 b_3 _ h hp

/-! (*embrasure/nat.Nat).asked (36) -/
def nat_Nat_asked_wp (box : Int) (box_1 : Int) (box_2 : Int) (box_3 : Int) (box_4 : Int) (box_5 : Int) (box_6 : Int) (list : List (Option Nat)) (now : Int) (in_Host : Int) (in_Port : Int) (m_1 : List (Nat × (Int × Int × Int × Int × Int × Int × Bool × (List (Int × Int))))) (K : Option Nat → Prop) : Prop :=
  joinP1 (fun (x_1 : Option Nat) => K (none : Option Nat)) (fun (Q : Option Nat → Prop) => nat_Nat_of_wp box box_1 box_2 box_3 box_4 box_5 box_6 now in_Host in_Port (fun (Host : Int) (Port : Int) => nat_Nat_of_c1_wp (0, (none : Option Nat)) (fun x_3 (s : Nat × Option Nat) K_1 => s.1 = 0 ∧ (∃ (b_6 : Nat), x_3 = some b_6 ∧ (∃ (x_4 : Int × Int × Int × Int × Int × Int × Bool × (List (Int × Int))), getS m_1 b_6 = some x_4 ∧ (cond (x_4.2.2.2.2.2.2.1) (K_1 false (1, x_3)) (K_1 true (0, s.2)))))) box box_1 box_2 box_3 box_4 box_5 box_6 list now Host Port m_1 (fun (s_1 : (Nat × Option Nat)) => (s_1.1 = 0 ∧ (Q s_1.2)) ∨ (s_1.1 ≠ 0 ∧ (K s_1.2)))))
theorem nat_Nat_asked_ok {b_1 : Nat} {p_1 : Option Addr} {c_1 : Nat} {box : Int} {box_1 : Int} {box_2 : Int} {box_3 : Int} {box_4 : Int} {box_5 : Int} {box_6 : Int} {list : List (Option Nat)} {now : Int} {in_Host : Int} {in_Port : Int} {m_1 : List (Nat × (Int × Int × Int × Int × Int × Int × Bool × (List (Int × Int))))} {FL : List HP} {w : World} {K : Option Nat → Prop} {R : Value → World → Prop}
  (hS71 : ∀ (b : Nat) (x : Int × Int × Int × Int × Int × Int × Bool × (List (Int × Int))), getS m_1 b = some x → roE71 FL b x)
  (h : Mem (cel b_1 64 [(Value.int .u32 box), (Value.int .i64 box_1), (Value.int .i64 box_2), (Value.int .i64 box_3), (Value.int .i64 box_4), (Value.int .i64 box_5), (Value.int .i64 box_6), (Value.slice p_1 list.length c_1), (Value.int .i64 now)] :: row enc67 67 1 p_1 c_1 list :: FL) w) (hp : nat_Nat_asked_wp box box_1 box_2 box_3 box_4 box_5 box_6 list now in_Host in_Port m_1 K)
  (hR : ∀ (r : Option Nat) (w : World), Mem (cel b_1 64 [(Value.int .u32 box), (Value.int .i64 box_1), (Value.int .i64 box_2), (Value.int .i64 box_3), (Value.int .i64 box_4), (Value.int .i64 box_5), (Value.int .i64 box_6), (Value.slice p_1 list.length c_1), (Value.int .i64 now)] :: row enc67 67 1 p_1 c_1 list :: FL) w → K r → R (Value.pointer (pn r)) w) :
  CallV Try.prog 36 #[(Value.pointer (some (Addr.mk b_1 0 none))), (Value.agg #[(Value.int .u32 in_Host), (Value.int .i64 in_Port)])] w R := by
  refine nat_Nat_asked_call ?_
  unfold nat_Nat_asked
  unfold nat_Nat_asked_wp at hp
  have cpp_1 := rowCap h 1 rfl
  replace h := marksNil h
  refine newL (o := [(Value.int .u32 in_Host), (Value.int .i64 in_Port)]) h ?_
  intro b_2 w h
  refine newL (o := [(Value.pointer none)]) h ?_
  intro b_3 w h
  obtain ⟨Q, hq, hp⟩ := hp
  refine ⟨fun t4 m_2 w => ∃ (x_1 : Option Nat), (Addr.mk b_3 0 none) = t4 ∧ Q x_1 ∧ Mem (cel b_3 67 [(Value.pointer (pn x_1))] :: cel b_2 24 [(Value.int .u32 in_Host), (Value.int .i64 in_Port)] :: cel b_1 64 [(Value.int .u32 box), (Value.int .i64 box_1), (Value.int .i64 box_2), (Value.int .i64 box_3), (Value.int .i64 box_4), (Value.int .i64 box_5), (Value.int .i64 box_6), (Value.slice p_1 list.length c_1), (Value.int .i64 now)] :: row enc67 67 1 p_1 c_1 list :: marksP m_2 :: FL) w, ?_, ?_⟩
  · rintro t4 m_2 w ⟨x_1, rfl, hp, h⟩
    replace hp := hq x_1 hp
    unfold nat_Nat_asked_j1
    refine storeL (ys := [(Value.pointer none)]) h 0 0 rfl rfl rfl sz67 rfl rfl ?_
    intro w h
    dsimp only [setH, setVs, setV] at h
    replace h := h.pick [4]
    dsimp only [pickL, pickR, nthH, delH, dropH, List.cons_append, List.nil_append] at h
    refine finishMarks _ h ?_
    intro w h
    refine ⟨_, cellL h 0 0 rfl rfl rfl, ?_⟩
    replace h := h.sel [2, 2] 2
    dsimp only [pickL, pickR, nthH, delH, dropH, List.cons_append, List.nil_append] at h
    exact hR (none : Option Nat) _ h hp
  clear hq
  refine ⟨_, cellL h 1 0 rfl rfl rfl, _, cellL h 1 1 rfl rfl rfl, ?_⟩
  replace h := h.pick [3]
  dsimp only [pickL, pickR, nthH, delH, dropH, List.cons_append, List.nil_append] at h
  refine nat_Nat_of_ok h hp ?_
  intro Host Port b_4 b_5 w h hp
  refine ⟨_, _, _, rfl, ?_⟩
  intro e_1 fn_e_1 he_e_1 hr_e_1
  refine newO h ?_
  intro d w h
  refine newO h ?_
  intro l_1 w h
  replace h := h.pick [1, 6]
  dsimp only [pickL, pickR, nthH, delH, dropH, List.cons_append, List.nil_append] at h
  replace h := marksPush h
  show rangeCallW _ (Value.func (Fn.func 61) _ _) _ _ _
  refine rangeCallFn (by kernel_rfl) ?_
  replace h := h.pick [1, 4, 4]
  dsimp only [pickL, pickR, nthH, delH, dropH, List.cons_append, List.nil_append] at h
  replace h : Mem ((fun (s : Nat × Option Nat) => HL [pt l_1 (loopS (nat_Nat_asked_lo1 fn_e_1 e_1 d) s.1 (fun (n : Nat) => ((if n = 0 then none else (some .ret)) : Option Code))), cel b_3 67 [(Value.pointer (pn s.2))], cel b_2 24 [(Value.int .u32 in_Host), (Value.int .i64 in_Port)]]) (0, (none : Option Nat)) :: marksP (d :: []) :: cel b_4 30 [(Value.pointer (some (Addr.mk b_1 0 none)))] :: cel b_5 24 [(Value.int .u32 Host), (Value.int .i64 Port)] :: cel b_1 64 [(Value.int .u32 box), (Value.int .i64 box_1), (Value.int .i64 box_2), (Value.int .i64 box_3), (Value.int .i64 box_4), (Value.int .i64 box_5), (Value.int .i64 box_6), (Value.slice p_1 list.length c_1), (Value.int .i64 now)] :: row enc67 67 1 p_1 c_1 list :: FL) _ := h.pack 3 [pt l_1 (loopS (nat_Nat_asked_lo1 fn_e_1 e_1 d) 0 (fun (n : Nat) => ((if n = 0 then none else (some .ret)) : Option Code))), cel b_3 67 [(Value.pointer none)], cel b_2 24 [(Value.int .u32 in_Host), (Value.int .i64 in_Port)]] rfl
  replace h := h.pick [2, 3, 3, 2, 0]
  dsimp only [pickL, pickR, nthH, delH, dropH, List.cons_append, List.nil_append] at h
  refine nat_Nat_of_c1_ok (FL := marksP (d :: []) :: FL) (A0 := (fun (s : Nat × Option Nat) => HL [pt l_1 (loopS (nat_Nat_asked_lo1 fn_e_1 e_1 d) s.1 (fun (n : Nat) => ((if n = 0 then none else (some .ret)) : Option Code))), cel b_3 67 [(Value.pointer (pn s.2))], cel b_2 24 [(Value.int .u32 in_Host), (Value.int .i64 in_Port)]])) (Y0 := (fun x_3 (s : Nat × Option Nat) K_1 => s.1 = 0 ∧ (∃ (b_6 : Nat), x_3 = some b_6 ∧ (∃ (x_4 : Int × Int × Int × Int × Int × Int × Bool × (List (Int × Int))), getS m_1 b_6 = some x_4 ∧ (cond (x_4.2.2.2.2.2.2.1) (K_1 false (1, x_3)) (K_1 true (0, s.2))))))) (σ0 := Nat × Option Nat) (s := (0, (none : Option Nat))) ?_ (fun b x hx_ => roEm71 (fun w h => (h.drop 1)) (hS71 b x hx_)) h hp ?_
  · intro x_3 s K_1 FL2 w R hx h hp hR
    replace h := h.unpack
    dsimp only [pickL, pickR, nthH, delH, dropH, List.cons_append, List.nil_append] at h
    obtain ⟨hst, hp⟩ := hp
    refine nat_Nat_asked_r1_yield (by have := objAt h 0 rfl; rw [hst] at this; exact this) he_e_1 hr_e_1 ?_
    unfold nat_Nat_asked_r1
    refine ⟨_, (by have := objAt h 0 rfl; rw [hst] at this; exact this : _ = some (Obj.loop (nat_Nat_asked_lo1 fn_e_1 e_1 d))), rfl, ?_⟩
    replace h := h.putK 0 rfl (.loop { nat_Nat_asked_lo1 fn_e_1 e_1 d with state := .busy })
    dsimp only [setH] at h
    obtain ⟨b_6, hb_6, hp⟩ := hp
    refine ⟨_, pnSome hb_6, ?_⟩
    obtain ⟨x_4, hx_4, hp⟩ := hp
    obtain ⟨qp7, qc7, hc_qp7, qe0, qe1, qe2, qe3, qe4, qe5, qe6, qe7, hF_qp7, -⟩ := hS71 b_6 x_4 hx_4
    refine ⟨_, qe6 _ (by first | exact hx _ (h.drop 3) | exact Mem.drop 1 (hx _ (h.drop 3)) | exact Mem.drop 2 (hx _ (h.drop 3)) | exact Mem.drop 3 (hx _ (h.drop 3)) | exact Mem.drop 4 (hx _ (h.drop 3)) | exact Mem.drop 5 (hx _ (h.drop 3)) | exact Mem.drop 6 (hx _ (h.drop 3)) | exact Mem.drop 7 (hx _ (h.drop 3)) | exact Mem.drop 8 (hx _ (h.drop 3))), ?_⟩
    refine cond_both' hp (fun hp => ?_) (fun hp => ?_)
    · refine ⟨_, objAt h 0 rfl, ?_⟩
      replace h := h.putK 0 rfl (loopS (nat_Nat_asked_lo1 fn_e_1 e_1 d) 0 (fun (n : Nat) => ((if n = 0 then none else (some .ret)) : Option Code)))
      dsimp only [setH] at h
      exact hR true (0, s.2) _ (h.pack 3 [pt l_1 (loopS (nat_Nat_asked_lo1 fn_e_1 e_1 d) 0 (fun (n : Nat) => ((if n = 0 then none else (some .ret)) : Option Code))), cel b_3 67 [(Value.pointer (pn s.2))], cel b_2 24 [(Value.int .u32 in_Host), (Value.int .i64 in_Port)]] rfl) hp
    refine storeL (ys := [(Value.pointer (pn x_3))]) h 1 0 rfl rfl rfl sz67 rfl rfl ?_
    intro w h
    dsimp only [setH, setVs, setV] at h
    refine ⟨_, objAt h 0 rfl, ?_⟩
    replace h := h.putK 0 rfl (loopS (nat_Nat_asked_lo1 fn_e_1 e_1 d) 1 (fun (n : Nat) => ((if n = 0 then none else (some .ret)) : Option Code)))
    dsimp only [setH] at h
    exact hR false (1, x_3) _ (h.pack 3 [pt l_1 (loopS (nat_Nat_asked_lo1 fn_e_1 e_1 d) 1 (fun (n : Nat) => ((if n = 0 then none else (some .ret)) : Option Code))), cel b_3 67 [(Value.pointer (pn x_3))], cel b_2 24 [(Value.int .u32 in_Host), (Value.int .i64 in_Port)]] rfl) hp
  intro s_1 w h hp
  have cpp_1 := rowCap h 2 rfl
  replace h := h.pick [4]
  dsimp only [pickL, pickR, nthH, delH, dropH, List.cons_append, List.nil_append] at h
  replace h := h.unpack
  dsimp only [pickL, pickR, nthH, delH, dropH, List.cons_append, List.nil_append] at h
  refine ⟨_, objAt h 0 rfl, loopS_ns _, ?_⟩
  replace h := h.putK 0 rfl (.loop { nat_Nat_asked_lo1 fn_e_1 e_1 d with state := .exhausted, pending := (fun (n : Nat) => ((if n = 0 then none else (some .ret)) : Option Code)) s_1.1 })
  dsimp only [setH] at h
  rcases hp with ⟨hst, hp⟩ | ⟨hst, hp⟩
  · refine Or.inl ?_
    refine ⟨congrArg (fun (n : Nat) => ((if n = 0 then none else (some .ret)) : Option Code)) hst, ?_⟩
    replace h := h.sel [1, 1, 2, 2, 3] 3
    dsimp only [pickL, pickR, nthH, delH, dropH, List.cons_append, List.nil_append] at h
    exact ⟨s_1.2, rfl, hp, h⟩
  · refine Or.inr (?_)
    refine ⟨show (fun (n : Nat) => ((if n = 0 then none else (some .ret)) : Option Code)) s_1.1 = _ from if_neg hst, ?_⟩
    replace h := h.pick [7]
    dsimp only [pickL, pickR, nthH, delH, dropH, List.cons_append, List.nil_append] at h
    refine ⟨(marksPop h).1, ?_⟩
    replace h := (marksPop h).2
    refine ⟨_, cellL h 2 0 rfl rfl rfl, ?_⟩
    replace h := h.sel [5, 5] 6
    dsimp only [pickL, pickR, nthH, delH, dropH, List.cons_append, List.nil_append] at h
    exact hR s_1.2 _ h hp

/-! (*embrasure/nat.Nat).towards (47) -/
def nat_Nat_towards_wp (box : Int) (box_1 : Int) (box_2 : Int) (box_3 : Int) (box_4 : Int) (box_5 : Int) (box_6 : Int) (now : Int) (to_Host : Int) (to_Port : Int) (K : Int → Int → Prop) : Prop :=
  cond ((box_3 : Int) == 0) (K 0 0) (cond ((box_3 : Int) == 1) (K to_Host 0) (K to_Host to_Port))
theorem nat_Nat_towards_ok {b_1 : Nat} {p_1 : Option Addr} {n_1 : Nat} {c_1 : Nat} {box : Int} {box_1 : Int} {box_2 : Int} {box_3 : Int} {box_4 : Int} {box_5 : Int} {box_6 : Int} {now : Int} {to_Host : Int} {to_Port : Int} {FL : List HP} {w : World} {K : Int → Int → Prop} {R : Value → World → Prop}
  (h : Mem (cel b_1 64 [(Value.int .u32 box), (Value.int .i64 box_1), (Value.int .i64 box_2), (Value.int .i64 box_3), (Value.int .i64 box_4), (Value.int .i64 box_5), (Value.int .i64 box_6), (Value.slice p_1 n_1 c_1), (Value.int .i64 now)] :: FL) w) (hp : nat_Nat_towards_wp box box_1 box_2 box_3 box_4 box_5 box_6 now to_Host to_Port K)
  (hR : ∀ (r : Int) (r_1 : Int) (w : World), Mem (cel b_1 64 [(Value.int .u32 box), (Value.int .i64 box_1), (Value.int .i64 box_2), (Value.int .i64 box_3), (Value.int .i64 box_4), (Value.int .i64 box_5), (Value.int .i64 box_6), (Value.slice p_1 n_1 c_1), (Value.int .i64 now)] :: FL) w → K r r_1 → R (Value.agg #[(Value.int .u32 r), (Value.int .i64 r_1)]) w) :
  CallV Try.prog 47 #[(Value.pointer (some (Addr.mk b_1 0 none))), (Value.agg #[(Value.int .u32 to_Host), (Value.int .i64 to_Port)])] w R := by
  refine nat_Nat_towards_call ?_
  unfold nat_Nat_towards
  unfold nat_Nat_towards_wp at hp
  refine newL (o := [(Value.int .u32 to_Host), (Value.int .i64 to_Port)]) h ?_
  intro b_2 w h
  refine newL (o := [(Value.int .u32 0), (Value.int .i64 0)]) h ?_
  intro b_3 w h
  refine ⟨_, rfl, ?_⟩
  refine ⟨_, cellL h 2 3 rfl rfl rfl, ?_⟩
  refine cond_both hp (fun hp => ?_) (fun hp => ?_)
  · refine storeL (ys := [(Value.int .u32 0), (Value.int .i64 0)]) h 0 0 rfl rfl rfl sz24 rfl rfl ?_
    intro w h
    dsimp only [setH, setVs, setV] at h
    refine ⟨_, cellL h 0 0 rfl rfl rfl, _, cellL h 0 1 rfl rfl rfl, ?_⟩
    replace h := h.sel [2] 2
    dsimp only [pickL, pickR, nthH, delH, dropH, List.cons_append, List.nil_append] at h
    exact hR 0 0 _ h hp
  refine cond_both hp (fun hp => ?_) (fun hp => ?_)
  · refine ⟨_, cellL h 1 0 rfl rfl rfl, ?_⟩
    refine storeL (ys := [(Value.int .u32 to_Host), (Value.int .i64 0)]) h 0 0 rfl rfl rfl sz24 rfl rfl ?_
    intro w h
    dsimp only [setH, setVs, setV] at h
    refine ⟨_, cellL h 0 0 rfl rfl rfl, _, cellL h 0 1 rfl rfl rfl, ?_⟩
    replace h := h.sel [2] 2
    dsimp only [pickL, pickR, nthH, delH, dropH, List.cons_append, List.nil_append] at h
    exact hR to_Host 0 _ h hp
  refine ⟨_, cellL h 1 0 rfl rfl rfl, _, cellL h 1 1 rfl rfl rfl, ?_⟩
  refine storeL (ys := [(Value.int .u32 to_Host), (Value.int .i64 to_Port)]) h 0 0 rfl rfl rfl sz24 rfl rfl ?_
  intro w h
  dsimp only [setH, setVs, setV] at h
  refine ⟨_, cellL h 0 0 rfl rfl rfl, _, cellL h 0 1 rfl rfl rfl, ?_⟩
  replace h := h.sel [2] 2
  dsimp only [pickL, pickR, nthH, delH, dropH, List.cons_append, List.nil_append] at h
  exact hR to_Host to_Port _ h hp

/-! (*embrasure/nat.Nat).at (31) -/
def nat_Nat_at_wp (box : Int) (box_1 : Int) (box_2 : Int) (box_3 : Int) (box_4 : Int) (box_5 : Int) (box_6 : Int) (list : List (Option Nat)) (now : Int) (port : Int) (m_1 : List (Nat × (Int × Int × Int × Int × Int × Int × Bool × (List (Int × Int))))) (K : Option Nat → Prop) : Prop :=
  ∃ (I : Nat → Int → Prop), (∃ (n_3 : Nat), I n_3 0) ∧ ∀ (n_1 : Nat) (t12 : Int), I n_1 t12 → (cond (decide ((t12 : Int) < ((list.length : Nat) : Int))) (0 ≤ (t12 : Int) ∧ (t12 : Int) < ((list.length : Nat) : Int) ∧ (∀ (x_1 : Option Nat), list[Int.toNat t12]? = some x_1 → (∃ (b_2 : Nat), x_1 = some b_2 ∧ (∃ (x_2 : Int × Int × Int × Int × Int × Int × Bool × (List (Int × Int))), getS m_1 b_2 = some x_2 ∧ (cond ((x_2.2.2.2.2.1 : Int) == port) (K x_1) (∃ (n_2 : Nat), n_2 < n_1 ∧ I n_2 (IntKind.wrap .i64 (t12 + 1)))))))) (K (none : Option Nat)))
theorem nat_Nat_at_ok {b_1 : Nat} {p_1 : Option Addr} {c_1 : Nat} {box : Int} {box_1 : Int} {box_2 : Int} {box_3 : Int} {box_4 : Int} {box_5 : Int} {box_6 : Int} {list : List (Option Nat)} {now : Int} {port : Int} {m_1 : List (Nat × (Int × Int × Int × Int × Int × Int × Bool × (List (Int × Int))))} {FL : List HP} {w : World} {K : Option Nat → Prop} {R : Value → World → Prop}
  (hS71 : ∀ (b : Nat) (x : Int × Int × Int × Int × Int × Int × Bool × (List (Int × Int))), getS m_1 b = some x → roE71 FL b x)
  (h : Mem (cel b_1 64 [(Value.int .u32 box), (Value.int .i64 box_1), (Value.int .i64 box_2), (Value.int .i64 box_3), (Value.int .i64 box_4), (Value.int .i64 box_5), (Value.int .i64 box_6), (Value.slice p_1 list.length c_1), (Value.int .i64 now)] :: row enc67 67 1 p_1 c_1 list :: FL) w) (hp : nat_Nat_at_wp box box_1 box_2 box_3 box_4 box_5 box_6 list now port m_1 K)
  (hR : ∀ (r : Option Nat) (w : World), Mem (cel b_1 64 [(Value.int .u32 box), (Value.int .i64 box_1), (Value.int .i64 box_2), (Value.int .i64 box_3), (Value.int .i64 box_4), (Value.int .i64 box_5), (Value.int .i64 box_6), (Value.slice p_1 list.length c_1), (Value.int .i64 now)] :: row enc67 67 1 p_1 c_1 list :: FL) w → K r → R (Value.pointer (pn r)) w) :
  CallV Try.prog 31 #[(Value.pointer (some (Addr.mk b_1 0 none))), (Value.int .i64 port)] w R := by
  refine nat_Nat_at_call ?_
  unfold nat_Nat_at
  unfold nat_Nat_at_wp at hp
  have cpp_1 := rowCap h 1 rfl
  refine ⟨_, rfl, ?_⟩
  refine ⟨_, _, _, cellL h 0 7 rfl rfl rfl, ?_⟩
  obtain ⟨I, ⟨n_3, h0⟩, hq⟩ := hp
  refine ⟨fun n_1 port1 t10p t10l t10c t11 t12 w => port = port1 ∧ p_1 = t10p ∧ list.length = t10l ∧ c_1 = t10c ∧ ((list.length : Nat) : Int) = t11 ∧ I n_1 t12 ∧ Mem (cel b_1 64 [(Value.int .u32 box), (Value.int .i64 box_1), (Value.int .i64 box_2), (Value.int .i64 box_3), (Value.int .i64 box_4), (Value.int .i64 box_5), (Value.int .i64 box_6), (Value.slice p_1 list.length c_1), (Value.int .i64 now)] :: row enc67 67 1 p_1 c_1 list :: FL) w, ⟨n_3, rfl, rfl, rfl, rfl, rfl, h0, h⟩, ?_⟩
  clear h0 h
  rintro n_1 port1 t10p t10l t10c t11 t12 w ⟨rfl, rfl, rfl, rfl, rfl, hp, h⟩
  replace hp := hq n_1 t12 hp
  clear hq
  unfold nat_Nat_at_l1
  refine cond_both' hp (fun hp => ?_) (fun hp => ?_)
  · exact hR (none : Option Nat) _ h hp
  obtain ⟨ia_1, ja_1, hp⟩ := hp
  obtain ⟨a_1, ha_1⟩ := rdAddr (rowRd h 1 encL67 rfl) rfl ia_1 ja_1
  refine ⟨a_1, ha_1, ia_1, ja_1, ?_⟩
  obtain ⟨x_1, hx_1, hc⟩ := rdCell0 (rowRd h 1 encL67 rfl) ha_1 rfl ia_1 ja_1
  replace hp := hp x_1 hx_1
  refine ⟨_, hc _ rfl, ?_⟩
  obtain ⟨b_2, hb_2, hp⟩ := hp
  refine ⟨_, pnSome hb_2, ?_⟩
  obtain ⟨x_2, hx_2, hp⟩ := hp
  obtain ⟨qp7, qc7, hc_qp7, qe0, qe1, qe2, qe3, qe4, qe5, qe6, qe7, hF_qp7, -⟩ := hS71 b_2 x_2 hx_2
  refine ⟨_, qe4 _ (h.drop 2), ?_⟩
  refine cond_both hp (fun hp => ?_) (fun hp => ?_)
  · exact hR x_1 _ h hp
  obtain ⟨n_2, hn, hp⟩ := hp
  exact ⟨n_2, hn, rfl, rfl, rfl, rfl, rfl, hp, h⟩

/-! (*embrasure/nat.Nat).choose (58) -/
def nat_Nat_choose_wp (box : Int) (box_1 : Int) (box_2 : Int) (box_3 : Int) (box_4 : Int) (box_5 : Int) (box_6 : Int) (list : List (Option Nat)) (now : Int) (wish : Int) (m_1 : List (Nat × (Int × Int × Int × Int × Int × Int × Bool × (List (Int × Int))))) (K : Int → Bool → Prop) : Prop :=
  joinP0 (∃ (I : Nat → Int → Prop), (∃ (n_6 : Nat), I n_6 box_1) ∧ ∀ (n_1 : Nat) (port6 : Int), I n_1 port6 → (cond (decide ((port6 : Int) ≤ box_2)) (∃ (I_1 : Nat → Int → Prop), (∃ (n_5 : Nat), I_1 n_5 0) ∧ ∀ (n_2 : Nat) (t51 : Int), I_1 n_2 t51 → (cond (decide ((t51 : Int) < ((list.length : Nat) : Int))) (0 ≤ (t51 : Int) ∧ (t51 : Int) < ((list.length : Nat) : Int) ∧ (∀ (x_1 : Option Nat), list[Int.toNat t51]? = some x_1 → (∃ (b_2 : Nat), x_1 = some b_2 ∧ (∃ (x_2 : Int × Int × Int × Int × Int × Int × Bool × (List (Int × Int))), getS m_1 b_2 = some x_2 ∧ (cond ((x_2.2.2.2.2.1 : Int) == port6) (∃ (n_3 : Nat), n_3 < n_1 ∧ I n_3 (IntKind.wrap .i64 (port6 + 1))) (∃ (n_4 : Nat), n_4 < n_2 ∧ I_1 n_4 (IntKind.wrap .i64 (t51 + 1)))))))) (K port6 true))) (K 0 false))) (fun (Q : Prop) => joinP1 (fun (t30 : Bool) => cond t30 (K wish true) (Q )) (fun (Q_1 : Bool → Prop) => cond (decide ((wish : Int) ≥ box_1)) (cond (decide ((wish : Int) ≤ box_2)) (nat_Nat_at_wp box box_1 box_2 box_3 box_4 box_5 box_6 list now wish m_1 (fun (r : Option Nat) => Q_1 (Option.isNone r))) (Q_1 false)) (Q_1 false)))
theorem nat_Nat_choose_ok {b_1 : Nat} {p_1 : Option Addr} {c_1 : Nat} {box : Int} {box_1 : Int} {box_2 : Int} {box_3 : Int} {box_4 : Int} {box_5 : Int} {box_6 : Int} {list : List (Option Nat)} {now : Int} {wish : Int} {m_1 : List (Nat × (Int × Int × Int × Int × Int × Int × Bool × (List (Int × Int))))} {FL : List HP} {w : World} {K : Int → Bool → Prop} {R : Value → World → Prop}
  (hS71 : ∀ (b : Nat) (x : Int × Int × Int × Int × Int × Int × Bool × (List (Int × Int))), getS m_1 b = some x → roE71 FL b x)
  (h : Mem (cel b_1 64 [(Value.int .u32 box), (Value.int .i64 box_1), (Value.int .i64 box_2), (Value.int .i64 box_3), (Value.int .i64 box_4), (Value.int .i64 box_5), (Value.int .i64 box_6), (Value.slice p_1 list.length c_1), (Value.int .i64 now)] :: row enc67 67 1 p_1 c_1 list :: FL) w) (hp : nat_Nat_choose_wp box box_1 box_2 box_3 box_4 box_5 box_6 list now wish m_1 K)
  (hR : ∀ (r : Int) (r_1 : Bool) (w : World), Mem (cel b_1 64 [(Value.int .u32 box), (Value.int .i64 box_1), (Value.int .i64 box_2), (Value.int .i64 box_3), (Value.int .i64 box_4), (Value.int .i64 box_5), (Value.int .i64 box_6), (Value.slice p_1 list.length c_1), (Value.int .i64 now)] :: row enc67 67 1 p_1 c_1 list :: FL) w → K r r_1 → R (Value.tuple #[(Value.int .i64 r), (Value.bool r_1)]) w) :
  CallV Try.prog 58 #[(Value.pointer (some (Addr.mk b_1 0 none))), (Value.int .i64 wish)] w R := by
  refine nat_Nat_choose_call ?_
  unfold nat_Nat_choose
  unfold nat_Nat_choose_wp at hp
  have cpp_1 := rowCap h 1 rfl
  obtain ⟨Q, hq, hp⟩ := hp
  refine ⟨fun n0 w => (some (Addr.mk b_1 0 none)) = n0 ∧ Q ∧ Mem (cel b_1 64 [(Value.int .u32 box), (Value.int .i64 box_1), (Value.int .i64 box_2), (Value.int .i64 box_3), (Value.int .i64 box_4), (Value.int .i64 box_5), (Value.int .i64 box_6), (Value.slice p_1 list.length c_1), (Value.int .i64 now)] :: row enc67 67 1 p_1 c_1 list :: FL) w, ?_, ?_⟩
  · rintro n0 w ⟨rfl, hp, h⟩
    replace hp := hq  hp
    unfold nat_Nat_choose_j1
    refine ⟨_, rfl, ?_⟩
    refine ⟨_, cellL h 0 1 rfl rfl rfl, ?_⟩
    obtain ⟨I, ⟨n_6, h0⟩, hq⟩ := hp
    refine ⟨fun n_1 n0_2 port6 w => (some (Addr.mk b_1 0 none)) = n0_2 ∧ I n_1 port6 ∧ Mem (cel b_1 64 [(Value.int .u32 box), (Value.int .i64 box_1), (Value.int .i64 box_2), (Value.int .i64 box_3), (Value.int .i64 box_4), (Value.int .i64 box_5), (Value.int .i64 box_6), (Value.slice p_1 list.length c_1), (Value.int .i64 now)] :: row enc67 67 1 p_1 c_1 list :: FL) w, ⟨n_6, rfl, h0, h⟩, ?_⟩
    clear h0 h
    rintro n_1 n0_2 port6 w ⟨rfl, hp, h⟩
    replace hp := hq n_1 port6 hp
    clear hq
    unfold nat_Nat_choose_l2
    refine ⟨_, rfl, ?_⟩
    refine ⟨_, cellL h 0 2 rfl rfl rfl, ?_⟩
    refine cond_both' hp (fun hp => ?_) (fun hp => ?_)
    · exact hR 0 false _ h hp
    refine ⟨_, rfl, ?_⟩
    refine ⟨_, _, _, cellL h 0 7 rfl rfl rfl, ?_⟩
    obtain ⟨I_1, ⟨n_5, h0⟩, hq⟩ := hp
    refine ⟨fun n_2 n0_3 port6_1 t49p t49l t49c t50 t51 w => (some (Addr.mk b_1 0 none)) = n0_3 ∧ port6 = port6_1 ∧ p_1 = t49p ∧ list.length = t49l ∧ c_1 = t49c ∧ ((list.length : Nat) : Int) = t50 ∧ I_1 n_2 t51 ∧ Mem (cel b_1 64 [(Value.int .u32 box), (Value.int .i64 box_1), (Value.int .i64 box_2), (Value.int .i64 box_3), (Value.int .i64 box_4), (Value.int .i64 box_5), (Value.int .i64 box_6), (Value.slice p_1 list.length c_1), (Value.int .i64 now)] :: row enc67 67 1 p_1 c_1 list :: FL) w, ⟨n_5, rfl, rfl, rfl, rfl, rfl, rfl, h0, h⟩, ?_⟩
    clear h0 h
    rintro n_2 n0_3 port6_1 t49p t49l t49c t50 t51 w ⟨rfl, rfl, rfl, rfl, rfl, rfl, hp, h⟩
    replace hp := hq n_2 t51 hp
    clear hq
    unfold nat_Nat_choose_l3
    refine cond_both' hp (fun hp => ?_) (fun hp => ?_)
    · exact hR port6 true _ h hp
    obtain ⟨ia_1, ja_1, hp⟩ := hp
    obtain ⟨a_1, ha_1⟩ := rdAddr (rowRd h 1 encL67 rfl) rfl ia_1 ja_1
    refine ⟨a_1, ha_1, ia_1, ja_1, ?_⟩
    obtain ⟨x_1, hx_1, hc⟩ := rdCell0 (rowRd h 1 encL67 rfl) ha_1 rfl ia_1 ja_1
    replace hp := hp x_1 hx_1
    refine ⟨_, hc _ rfl, ?_⟩
    obtain ⟨b_2, hb_2, hp⟩ := hp
    refine ⟨_, pnSome hb_2, ?_⟩
    obtain ⟨x_2, hx_2, hp⟩ := hp
    obtain ⟨qp7, qc7, hc_qp7, qe0, qe1, qe2, qe3, qe4, qe5, qe6, qe7, hF_qp7, -⟩ := hS71 b_2 x_2 hx_2
    refine ⟨_, qe4 _ (h.drop 2), ?_⟩
    refine cond_both hp (fun hp => ?_) (fun hp => ?_)
    · obtain ⟨n_3, hn, hp⟩ := hp
      exact ⟨n_3, hn, rfl, hp, h⟩
    obtain ⟨n_4, hn, hp⟩ := hp
    exact ⟨n_4, hn, rfl, rfl, rfl, rfl, rfl, rfl, hp, h⟩
  clear hq
  obtain ⟨Q_1, hq, hp⟩ := hp
  refine ⟨fun n0_1 wish1 t30 w => (some (Addr.mk b_1 0 none)) = n0_1 ∧ wish = wish1 ∧ Q_1 t30 ∧ Mem (cel b_1 64 [(Value.int .u32 box), (Value.int .i64 box_1), (Value.int .i64 box_2), (Value.int .i64 box_3), (Value.int .i64 box_4), (Value.int .i64 box_5), (Value.int .i64 box_6), (Value.slice p_1 list.length c_1), (Value.int .i64 now)] :: row enc67 67 1 p_1 c_1 list :: FL) w, ?_, ?_⟩
  · rintro n0_1 wish1 t30 w ⟨rfl, rfl, hp, h⟩
    replace hp := hq t30 hp
    unfold nat_Nat_choose_j4
    refine cond_both hp (fun hp => ?_) (fun hp => ?_)
    · exact hR wish true _ h hp
    exact ⟨rfl, hp, h⟩
  clear hq
  refine ⟨_, rfl, ?_⟩
  refine ⟨_, cellL h 0 1 rfl rfl rfl, ?_⟩
  refine cond_both' hp (fun hp => ?_) (fun hp => ?_)
  · exact ⟨rfl, rfl, hp, h⟩
  refine ⟨_, rfl, ?_⟩
  refine ⟨_, cellL h 0 2 rfl rfl rfl, ?_⟩
  refine cond_both' hp (fun hp => ?_) (fun hp => ?_)
  · exact ⟨rfl, rfl, hp, h⟩
  refine nat_Nat_at_ok (FL := FL) (fun b x hx_ => roEm71 (fun w h => (h.drop 0)) (hS71 b x hx_)) h hp ?_
  intro r w h hp
  have cpp_1 := rowCap h 1 rfl
  refine ⟨_, rfl, ?_⟩
  refine eqlPn undP67 ?_
  refine ⟨_, rfl, ?_⟩
  exact ⟨rfl, rfl, hp, h⟩

/-! (*embrasure/nat.Nat).made (37) -/
def nat_Nat_made_wp (box : Int) (box_1 : Int) (box_2 : Int) (box_3 : Int) (box_4 : Int) (box_5 : Int) (box_6 : Int) (list : List (Option Nat)) (now : Int) (b_In : Int) (b_In_1 : Int) (b_To : Int) (b_To_1 : Int) (b_Port : Int) (b_Until : Int) (b_Asked : Bool) (wish : Int) (m_1 : List (Nat × (Int × Int × Int × Int × Int × Int × Bool × (List (Int × Int))))) (K : Option Nat → Int → List (Option Nat) → List (Nat × (Int × Int × Int × Int × Int × Int × Bool × (List (Int × Int)))) → Prop) : Prop :=
  nat_Nat_choose_wp box box_1 box_2 box_3 box_4 box_5 box_6 list now wish m_1 (fun (r : Int) (r_1 : Bool) => joinP1 (fun (t31 : Bool) => cond t31 (K (none : Option Nat) 10 list m_1) (∀ (b_3 : Nat), getS m_1 b_3 = none → ((list.length + [(some b_3)].length) * 8 ≤ 140737488355328 ∧ (K (some b_3) 0 (list ++ [(some b_3)]) (putS m_1 b_3 (b_In, b_In_1, b_To, b_To_1, r, b_Until, b_Asked, ([] : List (Int × Int)))))))) (fun (Q : Bool → Prop) => cond (!r_1) (Q true) (Q (decide ((((list.length : Nat) : Int) : Int) ≥ box_6)))))
theorem nat_Nat_made_ok {b_1 : Nat} {p_1 : Option Addr} {c_1 : Nat} {hd : Nat → Option Addr × Nat} {box : Int} {box_1 : Int} {box_2 : Int} {box_3 : Int} {box_4 : Int} {box_5 : Int} {box_6 : Int} {list : List (Option Nat)} {now : Int} {b_In : Int} {b_In_1 : Int} {b_To : Int} {b_To_1 : Int} {b_Port : Int} {b_Until : Int} {b_Asked : Bool} {wish : Int} {m_1 : List (Nat × (Int × Int × Int × Int × Int × Int × Bool × (List (Int × Int))))} {FL : List HP} {w : World} {K : Option Nat → Int → List (Option Nat) → List (Nat × (Int × Int × Int × Int × Int × Int × Bool × (List (Int × Int)))) → Prop} {R : Value → World → Prop}
  (h : Mem (cel b_1 64 [(Value.int .u32 box), (Value.int .i64 box_1), (Value.int .i64 box_2), (Value.int .i64 box_3), (Value.int .i64 box_4), (Value.int .i64 box_5), (Value.int .i64 box_6), (Value.slice p_1 list.length c_1), (Value.int .i64 now)] :: row enc67 67 1 p_1 c_1 list :: stoP stoE71 hd m_1 :: FL) w) (hp : nat_Nat_made_wp box box_1 box_2 box_3 box_4 box_5 box_6 list now b_In b_In_1 b_To b_To_1 b_Port b_Until b_Asked wish m_1 K)
  (hR : ∀ (r : Option Nat) (r_1 : Int) (list_1 : List (Option Nat)) (m_2 : List (Nat × (Int × Int × Int × Int × Int × Int × Bool × (List (Int × Int))))) (p_2 : Option Addr) (n_1 : Nat) (c_2 : Nat) (hd_1 : Nat → Option Addr × Nat) (w : World), n_1 = list_1.length → Mem (cel b_1 64 [(Value.int .u32 box), (Value.int .i64 box_1), (Value.int .i64 box_2), (Value.int .i64 box_3), (Value.int .i64 box_4), (Value.int .i64 box_5), (Value.int .i64 box_6), (Value.slice p_2 n_1 c_2), (Value.int .i64 now)] :: row enc67 67 1 p_2 c_2 list_1 :: stoP stoE71 hd_1 m_2 :: FL) w → K r r_1 list_1 m_2 → R (Value.tuple #[(Value.pointer (pn r)), (Value.int .i64 r_1)]) w) :
  CallV Try.prog 37 #[(Value.pointer (some (Addr.mk b_1 0 none))), (Value.agg #[(Value.int .u32 b_In), (Value.int .i64 b_In_1), (Value.int .u32 b_To), (Value.int .i64 b_To_1), (Value.int .i64 b_Port), (Value.int .i64 b_Until), (Value.bool b_Asked)]), (Value.int .i64 wish)] w R := by
  refine nat_Nat_made_call ?_
  unfold nat_Nat_made
  unfold nat_Nat_made_wp at hp
  have cpp_1 := rowCap h 1 rfl
  refine newL (o := [(Value.int .u32 b_In), (Value.int .i64 b_In_1), (Value.int .u32 b_To), (Value.int .i64 b_To_1), (Value.int .i64 b_Port), (Value.int .i64 b_Until), (Value.bool b_Asked)]) h ?_
  intro b_2 w h
  replace h := h.pick [1, 1]
  dsimp only [pickL, pickR, nthH, delH, dropH, List.cons_append, List.nil_append] at h
  have hSr71 := stoRo71 (h.drop 2) 1 rfl
  refine nat_Nat_choose_ok (FL := cel b_2 51 [(Value.int .u32 b_In), (Value.int .i64 b_In_1), (Value.int .u32 b_To), (Value.int .i64 b_To_1), (Value.int .i64 b_Port), (Value.int .i64 b_Until), (Value.bool b_Asked)] :: stoP stoE71 hd m_1 :: FL) hSr71 h hp ?_
  intro r r_1 w h hp
  have cpp_1 := rowCap h 1 rfl
  refine ⟨_, _, rfl, ?_⟩
  refine ⟨_, rfl, ?_⟩
  obtain ⟨Q, hq, hp⟩ := hp
  refine ⟨fun n0 b4 port8 t31 w => (some (Addr.mk b_1 0 none)) = n0 ∧ (Addr.mk b_2 0 none) = b4 ∧ r = port8 ∧ Q t31 ∧ Mem (cel b_1 64 [(Value.int .u32 box), (Value.int .i64 box_1), (Value.int .i64 box_2), (Value.int .i64 box_3), (Value.int .i64 box_4), (Value.int .i64 box_5), (Value.int .i64 box_6), (Value.slice p_1 list.length c_1), (Value.int .i64 now)] :: row enc67 67 1 p_1 c_1 list :: cel b_2 51 [(Value.int .u32 b_In), (Value.int .i64 b_In_1), (Value.int .u32 b_To), (Value.int .i64 b_To_1), (Value.int .i64 b_Port), (Value.int .i64 b_Until), (Value.bool b_Asked)] :: stoP stoE71 hd m_1 :: FL) w, ?_, ?_⟩
  · rintro n0 b4 port8 t31 w ⟨rfl, rfl, rfl, hp, h⟩
    replace hp := hq t31 hp
    unfold nat_Nat_made_j1
    refine cond_both hp (fun hp => ?_) (fun hp => ?_)
    · replace h := h.sel [0, 0, 1] 1
      dsimp only [pickL, pickR, nthH, delH, dropH, List.cons_append, List.nil_append] at h
      exact hR (none : Option Nat) 10 list m_1 p_1 list.length c_1 hd _ rfl h hp
    refine storeL (ys := [(Value.int .i64 r)]) h 2 4 rfl rfl rfl sz3 rfl rfl ?_
    intro w h
    dsimp only [setH, setVs, setV] at h
    refine ⟨_, cellL h 2 0 rfl rfl rfl, _, cellL h 2 1 rfl rfl rfl, _, cellL h 2 2 rfl rfl rfl, _, cellL h 2 3 rfl rfl rfl, _, cellL h 2 4 rfl rfl rfl, _, cellL h 2 5 rfl rfl rfl, _, cellL h 2 6 rfl rfl rfl, ?_⟩
    refine newL (o := [(Value.int .u32 b_In), (Value.int .i64 b_In_1), (Value.int .u32 b_To), (Value.int .i64 b_To_1), (Value.int .i64 r), (Value.int .i64 b_Until), (Value.bool b_Asked), (Value.slice none 0 0)]) h ?_
    intro b_3 w h
    have hf_b_3 := stoFresh stoX71 h 3 rfl
    replace hp := hp b_3 hf_b_3
    replace h := stoFreshen h 4 rfl hf_b_3
    dsimp only [setH] at h
    refine ⟨_, rfl, ?_⟩
    refine ⟨_, _, _, cellL h 1 7 rfl rfl rfl, ?_⟩
    refine newL (o := [(Value.pointer (some (Addr.mk b_3 0 none)))]) h ?_
    intro b_4 w h
    have sr := (celRd h 0 encL67 rfl [(some b_3)] rfl)
    obtain ⟨hb, hp⟩ := hp
    refine appendL slt62 und62 encL67 encO67 h 3 rfl rfl sr rfl hb ?_
    intro p_3 c_3 w h
    dsimp only [setH, setVs, setV] at h
    have cpp_3 := rowCap h 3 rfl
    refine ⟨_, _, _, rfl, ?_⟩
    refine ⟨_, rfl, ?_⟩
    refine storeL (ys := [(Value.slice p_3 (list ++ [(some b_3)]).length c_3)]) h 2 7 rfl rfl rfl sz62 rfl rfl ?_
    intro w h
    dsimp only [setH, setVs, setV] at h
    replace h := rowNil enc24 24 2 h
    replace h := h.pick [2, 0]
    dsimp only [pickL, pickR, nthH, delH, dropH, List.cons_append, List.nil_append] at h
    replace h : Mem (stoE71 (none , 0) b_3 (b_In, b_In_1, b_To, b_To_1, r, b_Until, b_Asked, ([] : List (Int × Int))) :: cel b_4 67 [(Value.pointer (some (Addr.mk b_3 0 none)))] :: cel b_1 64 [(Value.int .u32 box), (Value.int .i64 box_1), (Value.int .i64 box_2), (Value.int .i64 box_3), (Value.int .i64 box_4), (Value.int .i64 box_5), (Value.int .i64 box_6), (Value.slice p_3 (list ++ [(some b_3)]).length c_3), (Value.int .i64 now)] :: row enc67 67 1 p_3 c_3 (list ++ [(some b_3)]) :: cel b_2 51 [(Value.int .u32 b_In), (Value.int .i64 b_In_1), (Value.int .u32 b_To), (Value.int .i64 b_To_1), (Value.int .i64 r), (Value.int .i64 b_Until), (Value.bool b_Asked)] :: stoP stoE71 hd (delS m_1 b_3) :: FL) _ := h.pack 2 [cel b_3 71 [(Value.int .u32 b_In), (Value.int .i64 b_In_1), (Value.int .u32 b_To), (Value.int .i64 b_To_1), (Value.int .i64 r), (Value.int .i64 b_Until), (Value.bool b_Asked), (Value.slice none  0 0)], row enc24 24 2 (none ) 0 ([] : List (Int × Int))] rfl
    replace h := stoClose h 4 (by simp only [List.length_cons]; omega) rfl
    dsimp only [setH] at h
    replace h := h.sel [1, 1, 2] 2
    dsimp only [pickL, pickR, nthH, delH, dropH, List.cons_append, List.nil_append] at h
    exact hR (some b_3) 0 (list ++ [(some b_3)]) (putS m_1 b_3 (b_In, b_In_1, b_To, b_To_1, r, b_Until, b_Asked, ([] : List (Int × Int)))) p_3 ((list ++ [(some b_3)]).length) c_3 (updF hd b_3 (none , 0)) _ rfl h hp
  clear hq
  replace h := h.drew
  refine cond_both hp (fun hp => ?_) (fun hp => ?_)
  · exact ⟨rfl, rfl, rfl, hp, h⟩
  refine ⟨_, rfl, ?_⟩
  refine ⟨_, _, _, cellL h 0 7 rfl rfl rfl, ?_⟩
  refine ⟨rfl, ?_⟩
  refine ⟨_, rfl, ?_⟩
  refine ⟨_, cellL h 0 6 rfl rfl rfl, ?_⟩
  exact ⟨rfl, rfl, rfl, hp, h⟩

/-! (*embrasure/nat.Nat).by (29) -/
def nat_Nat_by_wp (box : Int) (box_1 : Int) (box_2 : Int) (box_3 : Int) (box_4 : Int) (box_5 : Int) (box_6 : Int) (list : List (Option Nat)) (now : Int) (in_Host : Int) (in_Port : Int) (to_Host : Int) (to_Port : Int) (m_1 : List (Nat × (Int × Int × Int × Int × Int × Int × Bool × (List (Int × Int))))) (K : Option Nat → Int → List (Option Nat) → List (Nat × (Int × Int × Int × Int × Int × Int × Bool × (List (Int × Int)))) → Prop) : Prop :=
  nat_Nat_asked_wp box box_1 box_2 box_3 box_4 box_5 box_6 list now in_Host in_Port m_1 (fun (r : Option Nat) => cond (!(Option.isNone r)) (K r 0 list m_1) (nat_Nat_towards_wp box box_1 box_2 box_3 box_4 box_5 box_6 now to_Host to_Port (fun (r_1 : Int) (r_2 : Int) => joinP1 (fun (x_1 : Option Nat) => nat_Nat_made_wp box box_1 box_2 box_3 box_4 box_5 box_6 list now in_Host in_Port r_1 r_2 0 0 false in_Port m_1 (fun (r_3 : Option Nat) (r_4 : Int) (list_2 : List (Option Nat)) (m_4 : List (Nat × (Int × Int × Int × Int × Int × Int × Bool × (List (Int × Int))))) => K r_3 r_4 list_2 m_4)) (fun (Q : Option Nat → Prop) => nat_Nat_of_wp box box_1 box_2 box_3 box_4 box_5 box_6 now in_Host in_Port (fun (Host : Int) (Port : Int) => nat_Nat_of_c1_wp (0, (none : Option Nat)) (fun x_3 (s : Nat × Option Nat) K_1 => s.1 = 0 ∧ (∃ (b_9 : Nat), x_3 = some b_9 ∧ (∃ (x_4 : Int × Int × Int × Int × Int × Int × Bool × (List (Int × Int))), getS m_1 b_9 = some x_4 ∧ (cond (((x_4.2.2.1 : Int) == r_1) && (((x_4.2.2.2.1 : Int) == r_2) && true)) (K_1 false (1, x_3)) (K_1 true (0, s.2)))))) box box_1 box_2 box_3 box_4 box_5 box_6 list now Host Port m_1 (fun (s_1 : (Nat × Option Nat)) => (s_1.1 = 0 ∧ (Q s_1.2)) ∨ (s_1.1 ≠ 0 ∧ (K s_1.2 0 list m_1))))))))
theorem nat_Nat_by_ok {b_1 : Nat} {p_1 : Option Addr} {c_1 : Nat} {hd : Nat → Option Addr × Nat} {box : Int} {box_1 : Int} {box_2 : Int} {box_3 : Int} {box_4 : Int} {box_5 : Int} {box_6 : Int} {list : List (Option Nat)} {now : Int} {in_Host : Int} {in_Port : Int} {to_Host : Int} {to_Port : Int} {m_1 : List (Nat × (Int × Int × Int × Int × Int × Int × Bool × (List (Int × Int))))} {FL : List HP} {w : World} {K : Option Nat → Int → List (Option Nat) → List (Nat × (Int × Int × Int × Int × Int × Int × Bool × (List (Int × Int)))) → Prop} {R : Value → World → Prop}
  (h : Mem (cel b_1 64 [(Value.int .u32 box), (Value.int .i64 box_1), (Value.int .i64 box_2), (Value.int .i64 box_3), (Value.int .i64 box_4), (Value.int .i64 box_5), (Value.int .i64 box_6), (Value.slice p_1 list.length c_1), (Value.int .i64 now)] :: row enc67 67 1 p_1 c_1 list :: stoP stoE71 hd m_1 :: FL) w) (hp : nat_Nat_by_wp box box_1 box_2 box_3 box_4 box_5 box_6 list now in_Host in_Port to_Host to_Port m_1 K)
  (hR : ∀ (r : Option Nat) (r_1 : Int) (list_1 : List (Option Nat)) (m_2 : List (Nat × (Int × Int × Int × Int × Int × Int × Bool × (List (Int × Int))))) (p_2 : Option Addr) (n_1 : Nat) (c_2 : Nat) (hd_1 : Nat → Option Addr × Nat) (w : World), n_1 = list_1.length → Mem (cel b_1 64 [(Value.int .u32 box), (Value.int .i64 box_1), (Value.int .i64 box_2), (Value.int .i64 box_3), (Value.int .i64 box_4), (Value.int .i64 box_5), (Value.int .i64 box_6), (Value.slice p_2 n_1 c_2), (Value.int .i64 now)] :: row enc67 67 1 p_2 c_2 list_1 :: stoP stoE71 hd_1 m_2 :: FL) w → K r r_1 list_1 m_2 → R (Value.tuple #[(Value.pointer (pn r)), (Value.int .i64 r_1)]) w) :
  CallV Try.prog 29 #[(Value.pointer (some (Addr.mk b_1 0 none))), (Value.agg #[(Value.int .u32 in_Host), (Value.int .i64 in_Port)]), (Value.agg #[(Value.int .u32 to_Host), (Value.int .i64 to_Port)])] w R := by
  refine nat_Nat_by_call ?_
  unfold nat_Nat_by
  unfold nat_Nat_by_wp at hp
  have cpp_1 := rowCap h 1 rfl
  replace h := marksNil h
  refine newL (o := [(Value.int .u32 in_Host), (Value.int .i64 in_Port)]) h ?_
  intro b_2 w h
  refine newL (o := [(Value.int .u32 to_Host), (Value.int .i64 to_Port)]) h ?_
  intro b_3 w h
  refine newL (o := [(Value.pointer none)]) h ?_
  intro b_4 w h
  refine newL (o := [(Value.int .i64 0)]) h ?_
  intro b_5 w h
  refine ⟨_, cellL h 3 0 rfl rfl rfl, _, cellL h 3 1 rfl rfl rfl, ?_⟩
  replace h := h.pick [5, 5]
  dsimp only [pickL, pickR, nthH, delH, dropH, List.cons_append, List.nil_append] at h
  have hSr71 := stoRo71 (h.drop 2) 5 rfl
  refine nat_Nat_asked_ok (FL := cel b_5 31 [(Value.int .i64 0)] :: cel b_4 67 [(Value.pointer none)] :: cel b_3 24 [(Value.int .u32 to_Host), (Value.int .i64 to_Port)] :: cel b_2 24 [(Value.int .u32 in_Host), (Value.int .i64 in_Port)] :: marksP [] :: stoP stoE71 hd m_1 :: FL) hSr71 h hp ?_
  intro r w h hp
  have cpp_1 := rowCap h 1 rfl
  refine ⟨_, rfl, ?_⟩
  refine neqPn undP67 ?_
  refine ⟨_, rfl, ?_⟩
  refine cond_both hp (fun hp => ?_) (fun hp => ?_)
  · refine storeL (ys := [(Value.pointer (pn r))]) h 3 0 rfl rfl rfl sz67 rfl rfl ?_
    intro w h
    dsimp only [setH, setVs, setV] at h
    refine storeL (ys := [(Value.int .i64 0)]) h 2 0 rfl rfl rfl sz31 rfl rfl ?_
    intro w h
    dsimp only [setH, setVs, setV] at h
    replace h := h.pick [6]
    dsimp only [pickL, pickR, nthH, delH, dropH, List.cons_append, List.nil_append] at h
    refine ⟨_, cellL h 4 0 rfl rfl rfl, ?_⟩
    refine ⟨_, cellL h 3 0 rfl rfl rfl, ?_⟩
    replace h := h.sel [1, 1, 5] 5
    dsimp only [pickL, pickR, nthH, delH, dropH, List.cons_append, List.nil_append] at h
    exact hR r 0 list m_1 p_1 list.length c_1 hd _ rfl h hp
  refine ⟨_, cellL h 4 0 rfl rfl rfl, _, cellL h 4 1 rfl rfl rfl, ?_⟩
  refine nat_Nat_towards_ok h hp ?_
  intro r_1 r_2 w h hp
  refine ⟨_, _, rfl, ?_⟩
  refine newL (o := [(Value.int .u32 0), (Value.int .i64 0)]) h ?_
  intro b_6 w h
  refine storeL (ys := [(Value.int .u32 r_1), (Value.int .i64 r_2)]) h 0 0 rfl rfl rfl sz24 rfl rfl ?_
  intro w h
  dsimp only [setH, setVs, setV] at h
  obtain ⟨Q, hq, hp⟩ := hp
  refine ⟨fun n0 in4 t6 t7 key9 m_3 w => ∃ (x_1 : Option Nat), (some (Addr.mk b_1 0 none)) = n0 ∧ (Addr.mk b_2 0 none) = in4 ∧ (Addr.mk b_4 0 none) = t6 ∧ (Addr.mk b_5 0 none) = t7 ∧ (Addr.mk b_6 0 none) = key9 ∧ Q x_1 ∧ Mem (cel b_6 24 [(Value.int .u32 r_1), (Value.int .i64 r_2)] :: cel b_1 64 [(Value.int .u32 box), (Value.int .i64 box_1), (Value.int .i64 box_2), (Value.int .i64 box_3), (Value.int .i64 box_4), (Value.int .i64 box_5), (Value.int .i64 box_6), (Value.slice p_1 list.length c_1), (Value.int .i64 now)] :: row enc67 67 1 p_1 c_1 list :: cel b_5 31 [(Value.int .i64 0)] :: cel b_4 67 [(Value.pointer (pn x_1))] :: cel b_3 24 [(Value.int .u32 to_Host), (Value.int .i64 to_Port)] :: cel b_2 24 [(Value.int .u32 in_Host), (Value.int .i64 in_Port)] :: marksP m_3 :: stoP stoE71 hd m_1 :: FL) w, ?_, ?_⟩
  · rintro n0 in4 t6 t7 key9 m_3 w ⟨x_1, rfl, rfl, rfl, rfl, rfl, hp, h⟩
    replace hp := hq x_1 hp
    unfold nat_Nat_by_j1
    refine ⟨_, cellL h 6 0 rfl rfl rfl, _, cellL h 6 1 rfl rfl rfl, ?_⟩
    refine ⟨_, cellL h 0 0 rfl rfl rfl, _, cellL h 0 1 rfl rfl rfl, ?_⟩
    refine ⟨_, cellL h 6 1 rfl rfl rfl, ?_⟩
    replace h := h.pick [1, 1, 6]
    dsimp only [pickL, pickR, nthH, delH, dropH, List.cons_append, List.nil_append] at h
    refine nat_Nat_made_ok h hp ?_
    rintro r_3 r_4 list_2 m_4 p_3 n_2 c_3 hd_2 w rfl h hp
    have cpp_3 := rowCap h 1 rfl
    refine ⟨_, _, rfl, ?_⟩
    refine ⟨_, rfl, ?_⟩
    refine ⟨_, rfl, ?_⟩
    refine storeL (ys := [(Value.pointer (pn r_3))]) h 5 0 rfl rfl rfl sz67 rfl rfl ?_
    intro w h
    dsimp only [setH, setVs, setV] at h
    refine storeL (ys := [(Value.int .i64 r_4)]) h 4 0 rfl rfl rfl sz31 rfl rfl ?_
    intro w h
    dsimp only [setH, setVs, setV] at h
    replace h := h.pick [8]
    dsimp only [pickL, pickR, nthH, delH, dropH, List.cons_append, List.nil_append] at h
    refine finishMarks _ h ?_
    intro w h
    refine ⟨_, cellL h 5 0 rfl rfl rfl, ?_⟩
    refine ⟨_, cellL h 4 0 rfl rfl rfl, ?_⟩
    replace h := h.sel [0, 0, 0] 5
    dsimp only [pickL, pickR, nthH, delH, dropH, List.cons_append, List.nil_append] at h
    exact hR r_3 r_4 list_2 m_4 p_3 list_2.length c_3 hd_2 _ rfl h hp
  clear hq
  refine ⟨_, cellL h 6 0 rfl rfl rfl, _, cellL h 6 1 rfl rfl rfl, ?_⟩
  replace h := h.pick [1]
  dsimp only [pickL, pickR, nthH, delH, dropH, List.cons_append, List.nil_append] at h
  refine nat_Nat_of_ok h hp ?_
  intro Host Port b_7 b_8 w h hp
  refine ⟨_, _, _, rfl, ?_⟩
  intro e_1 fn_e_1 he_e_1 hr_e_1
  refine newO h ?_
  intro d w h
  refine newO h ?_
  intro l_1 w h
  replace h := h.pick [1, 10]
  dsimp only [pickL, pickR, nthH, delH, dropH, List.cons_append, List.nil_append] at h
  replace h := marksPush h
  show rangeCallW _ (Value.func (Fn.func 61) _ _) _ _ _
  refine rangeCallFn (by kernel_rfl) ?_
  replace h := h.pick [1, 4, 5, 5, 5, 5]
  dsimp only [pickL, pickR, nthH, delH, dropH, List.cons_append, List.nil_append] at h
  replace h : Mem ((fun (s : Nat × Option Nat) => HL [pt l_1 (loopS (nat_Nat_by_lo1 fn_e_1 e_1 d) s.1 (fun (n : Nat) => ((if n = 0 then none else (some .ret)) : Option Code))), cel b_6 24 [(Value.int .u32 r_1), (Value.int .i64 r_2)], cel b_5 31 [(Value.int .i64 0)], cel b_4 67 [(Value.pointer (pn s.2))], cel b_3 24 [(Value.int .u32 to_Host), (Value.int .i64 to_Port)], cel b_2 24 [(Value.int .u32 in_Host), (Value.int .i64 in_Port)]]) (0, (none : Option Nat)) :: marksP (d :: []) :: cel b_7 30 [(Value.pointer (some (Addr.mk b_1 0 none)))] :: cel b_8 24 [(Value.int .u32 Host), (Value.int .i64 Port)] :: cel b_1 64 [(Value.int .u32 box), (Value.int .i64 box_1), (Value.int .i64 box_2), (Value.int .i64 box_3), (Value.int .i64 box_4), (Value.int .i64 box_5), (Value.int .i64 box_6), (Value.slice p_1 list.length c_1), (Value.int .i64 now)] :: row enc67 67 1 p_1 c_1 list :: stoP stoE71 hd m_1 :: FL) _ := h.pack 6 [pt l_1 (loopS (nat_Nat_by_lo1 fn_e_1 e_1 d) 0 (fun (n : Nat) => ((if n = 0 then none else (some .ret)) : Option Code))), cel b_6 24 [(Value.int .u32 r_1), (Value.int .i64 r_2)], cel b_5 31 [(Value.int .i64 0)], cel b_4 67 [(Value.pointer none)], cel b_3 24 [(Value.int .u32 to_Host), (Value.int .i64 to_Port)], cel b_2 24 [(Value.int .u32 in_Host), (Value.int .i64 in_Port)]] rfl
  replace h := h.pick [2, 3, 3, 2, 0]
  dsimp only [pickL, pickR, nthH, delH, dropH, List.cons_append, List.nil_append] at h
  have hSr71 := stoRo71 (h.drop 5) 1 rfl
  refine nat_Nat_of_c1_ok (FL := marksP (d :: []) :: stoP stoE71 hd m_1 :: FL) (A0 := (fun (s : Nat × Option Nat) => HL [pt l_1 (loopS (nat_Nat_by_lo1 fn_e_1 e_1 d) s.1 (fun (n : Nat) => ((if n = 0 then none else (some .ret)) : Option Code))), cel b_6 24 [(Value.int .u32 r_1), (Value.int .i64 r_2)], cel b_5 31 [(Value.int .i64 0)], cel b_4 67 [(Value.pointer (pn s.2))], cel b_3 24 [(Value.int .u32 to_Host), (Value.int .i64 to_Port)], cel b_2 24 [(Value.int .u32 in_Host), (Value.int .i64 in_Port)]])) (Y0 := (fun x_3 (s : Nat × Option Nat) K_1 => s.1 = 0 ∧ (∃ (b_9 : Nat), x_3 = some b_9 ∧ (∃ (x_4 : Int × Int × Int × Int × Int × Int × Bool × (List (Int × Int))), getS m_1 b_9 = some x_4 ∧ (cond (((x_4.2.2.1 : Int) == r_1) && (((x_4.2.2.2.1 : Int) == r_2) && true)) (K_1 false (1, x_3)) (K_1 true (0, s.2))))))) (σ0 := Nat × Option Nat) (s := (0, (none : Option Nat))) ?_ hSr71 h hp ?_
  · intro x_3 s K_1 FL2 w R hx h hp hR
    replace h := h.unpack
    dsimp only [pickL, pickR, nthH, delH, dropH, List.cons_append, List.nil_append] at h
    obtain ⟨hst, hp⟩ := hp
    refine nat_Nat_by_r1_yield (by have := objAt h 0 rfl; rw [hst] at this; exact this) he_e_1 hr_e_1 ?_
    unfold nat_Nat_by_r1
    have hSx71 := fun b x hx_ => roEm71 hx (hSr71 b x hx_)
    refine ⟨_, (by have := objAt h 0 rfl; rw [hst] at this; exact this : _ = some (Obj.loop (nat_Nat_by_lo1 fn_e_1 e_1 d))), rfl, ?_⟩
    replace h := h.putK 0 rfl (.loop { nat_Nat_by_lo1 fn_e_1 e_1 d with state := .busy })
    dsimp only [setH] at h
    replace h := h.drew
    obtain ⟨b_9, hb_9, hp⟩ := hp
    refine ⟨_, pnSome hb_9, ?_⟩
    obtain ⟨x_4, hx_4, hp⟩ := hp
    obtain ⟨qp7, qc7, hc_qp7, qe0, qe1, qe2, qe3, qe4, qe5, qe6, qe7, hF_qp7, -⟩ := hSx71 b_9 x_4 hx_4
    refine ⟨_, qe2 _ (h.drop 6), _, qe3 _ (h.drop 6), ?_⟩
    refine ⟨_, cellL h 1 0 rfl rfl rfl, _, cellL h 1 1 rfl rfl rfl, ?_⟩
    refine eqlAgg (xs := [(Value.int .u32 x_4.2.2.1), (Value.int .i64 x_4.2.2.2.1)]) (ys := [(Value.int .u32 r_1), (Value.int .i64 r_2)]) eqG24 eqA24 (eqT24 x_4.2.2.1 x_4.2.2.2.1 r_1 r_2) ?_
    refine ⟨_, rfl, ?_⟩
    refine ⟨rfl, ?_⟩
    refine cond_both' hp (fun hp => ?_) (fun hp => ?_)
    · refine ⟨_, objAt h 0 rfl, ?_⟩
      replace h := h.putK 0 rfl (loopS (nat_Nat_by_lo1 fn_e_1 e_1 d) 0 (fun (n : Nat) => ((if n = 0 then none else (some .ret)) : Option Code)))
      dsimp only [setH] at h
      exact hR true (0, s.2) _ (h.pack 6 [pt l_1 (loopS (nat_Nat_by_lo1 fn_e_1 e_1 d) 0 (fun (n : Nat) => ((if n = 0 then none else (some .ret)) : Option Code))), cel b_6 24 [(Value.int .u32 r_1), (Value.int .i64 r_2)], cel b_5 31 [(Value.int .i64 0)], cel b_4 67 [(Value.pointer (pn s.2))], cel b_3 24 [(Value.int .u32 to_Host), (Value.int .i64 to_Port)], cel b_2 24 [(Value.int .u32 in_Host), (Value.int .i64 in_Port)]] rfl) hp
    refine storeL (ys := [(Value.pointer (pn x_3))]) h 3 0 rfl rfl rfl sz67 rfl rfl ?_
    intro w h
    dsimp only [setH, setVs, setV] at h
    refine storeL (ys := [(Value.int .i64 0)]) h 2 0 rfl rfl rfl sz31 rfl rfl ?_
    intro w h
    dsimp only [setH, setVs, setV] at h
    refine ⟨_, objAt h 0 rfl, ?_⟩
    replace h := h.putK 0 rfl (loopS (nat_Nat_by_lo1 fn_e_1 e_1 d) 1 (fun (n : Nat) => ((if n = 0 then none else (some .ret)) : Option Code)))
    dsimp only [setH] at h
    exact hR false (1, x_3) _ (h.pack 6 [pt l_1 (loopS (nat_Nat_by_lo1 fn_e_1 e_1 d) 1 (fun (n : Nat) => ((if n = 0 then none else (some .ret)) : Option Code))), cel b_6 24 [(Value.int .u32 r_1), (Value.int .i64 r_2)], cel b_5 31 [(Value.int .i64 0)], cel b_4 67 [(Value.pointer (pn x_3))], cel b_3 24 [(Value.int .u32 to_Host), (Value.int .i64 to_Port)], cel b_2 24 [(Value.int .u32 in_Host), (Value.int .i64 in_Port)]] rfl) hp
  intro s_1 w h hp
  have cpp_1 := rowCap h 2 rfl
  replace h := h.pick [4]
  dsimp only [pickL, pickR, nthH, delH, dropH, List.cons_append, List.nil_append] at h
  replace h := h.unpack
  dsimp only [pickL, pickR, nthH, delH, dropH, List.cons_append, List.nil_append] at h
  refine ⟨_, objAt h 0 rfl, loopS_ns _, ?_⟩
  replace h := h.putK 0 rfl (.loop { nat_Nat_by_lo1 fn_e_1 e_1 d with state := .exhausted, pending := (fun (n : Nat) => ((if n = 0 then none else (some .ret)) : Option Code)) s_1.1 })
  dsimp only [setH] at h
  rcases hp with ⟨hst, hp⟩ | ⟨hst, hp⟩
  · refine Or.inl ?_
    refine ⟨congrArg (fun (n : Nat) => ((if n = 0 then none else (some .ret)) : Option Code)) hst, ?_⟩
    replace h := h.sel [1, 6, 6, 1, 1, 1, 1, 3, 3] 3
    dsimp only [pickL, pickR, nthH, delH, dropH, List.cons_append, List.nil_append] at h
    exact ⟨s_1.2, rfl, rfl, rfl, rfl, rfl, hp, h⟩
  · refine Or.inr (?_)
    refine ⟨show (fun (n : Nat) => ((if n = 0 then none else (some .ret)) : Option Code)) s_1.1 = _ from if_neg hst, ?_⟩
    replace h := h.pick [10]
    dsimp only [pickL, pickR, nthH, delH, dropH, List.cons_append, List.nil_append] at h
    refine ⟨(marksPop h).1, ?_⟩
    replace h := (marksPop h).2
    refine ⟨_, cellL h 4 0 rfl rfl rfl, ?_⟩
    refine ⟨_, cellL h 3 0 rfl rfl rfl, ?_⟩
    replace h := h.sel [8, 8, 9] 9
    dsimp only [pickL, pickR, nthH, delH, dropH, List.cons_append, List.nil_append] at h
    exact hR s_1.2 0 list m_1 p_1 list.length c_1 hd _ rfl h hp

/-! (*embrasure/nat.bound).see$1 (50) -/
def nat_bound_see_c1_wp (a_Host : Int) (a_Port : Int) (Host : Int) (Port : Int) (K : Bool → Prop) : Prop :=
  K (((a_Host : Int) == Host) && (((a_Port : Int) == Port) && true))
theorem nat_bound_see_c1_ok {b_1 : Nat} {a_Host : Int} {a_Port : Int} {Host : Int} {Port : Int} {FL : List HP} {w : World} {K : Bool → Prop} {R : Value → World → Prop}
  (h : Mem (cel b_1 24 [(Value.int .u32 Host), (Value.int .i64 Port)] :: FL) w) (hp : nat_bound_see_c1_wp a_Host a_Port Host Port K)
  (hR : ∀ (r : Bool) (w : World), Mem (cel b_1 24 [(Value.int .u32 Host), (Value.int .i64 Port)] :: FL) w → K r → R (Value.bool r) w) :
  CallV Try.prog 50 #[(Value.agg #[(Value.int .u32 a_Host), (Value.int .i64 a_Port)]), (Value.pointer (some (Addr.mk b_1 0 none)))] w R := by
  refine nat_bound_see_c1_call ?_
  unfold nat_bound_see_c1
  unfold nat_bound_see_c1_wp at hp
  refine newL (o := [(Value.int .u32 a_Host), (Value.int .i64 a_Port)]) h ?_
  intro b_2 w h
  refine ⟨_, cellL h 0 0 rfl rfl rfl, _, cellL h 0 1 rfl rfl rfl, ?_⟩
  refine ⟨_, cellL h 1 0 rfl rfl rfl, _, cellL h 1 1 rfl rfl rfl, ?_⟩
  refine eqlAgg (xs := [(Value.int .u32 a_Host), (Value.int .i64 a_Port)]) (ys := [(Value.int .u32 Host), (Value.int .i64 Port)]) eqG24 eqA24 (eqT24 a_Host a_Port Host Port) ?_
  refine ⟨_, rfl, ?_⟩
  replace h := h.sel [1] 1
  dsimp only [pickL, pickR, nthH, delH, dropH, List.cons_append, List.nil_append] at h
  exact hR (((a_Host : Int) == Host) && (((a_Port : Int) == Port) && true)) _ h hp

/-! slices.IndexFunc[[]embrasure/api.Addr,embrasure/api.Addr] (62) -/
def slices_IndexFunc_sl_api_Addr_api_Addr_wp {σ1 : Type} (s : List (Int × Int)) (s_1 : σ1) (Y1 : (Int × Int) → σ1 → (Bool → σ1 → Prop) → Prop) (K : Int → σ1 → Prop) : Prop :=
  ∃ (I : Nat → Int → σ1 → Prop), (∃ (n_4 : Nat), I n_4 0 s_1) ∧ ∀ (n_2 : Nat) (t8 : Int) (s_3 : σ1), I n_2 t8 s_3 → (cond (decide ((t8 : Int) < ((s.length : Nat) : Int))) (0 ≤ (t8 : Int) ∧ (t8 : Int) < ((s.length : Nat) : Int) ∧ (∀ (x_1 : Int × Int), s[Int.toNat t8]? = some x_1 → (Y1 x_1 s_3 (fun (t16 : Bool) (s_4 : σ1) => cond t16 (K t8 s_4) (∃ (n_3 : Nat), n_3 < n_2 ∧ I n_3 (IntKind.wrap .i64 (t8 + 1)) s_4))))) (K (-1) s_3))
theorem slices_IndexFunc_sl_api_Addr_api_Addr_ok {σ1 : Type} {A1 : σ1 → HP} {p_1 : Option Addr} {n_1 : Nat} {c_1 : Nat} {ff1 : Fn} {fa1 : Array Value} {fc1 : Array Value} {s : List (Int × Int)} {s_1 : σ1} {Y1 : (Int × Int) → σ1 → (Bool → σ1 → Prop) → Prop} {FL : List HP} {w : World} {K : Int → σ1 → Prop} {R : Value → World → Prop}
  (hY1 : ∀ (x0 : Int × Int) (s : σ1) (K : Bool → σ1 → Prop) (FL2 : List HP) (w : World) (R : Value → World → Prop), (∀ w, Mem FL2 w → Mem FL w) → Mem (A1 s :: FL2) w → Y1 x0 s K → (∀ (r : Bool) (s : σ1) (w : World), Mem (A1 s :: FL2) w → K r s → R (Value.bool r) w) → CalleeV Try.prog (Value.func ff1 fa1 fc1) #[(Value.agg #[(Value.int .u32 x0.1), (Value.int .i64 x0.2)])] w R)
  (hF_s : ∀ w, Mem FL w → Rd w 2 p_1 enc24 s) (hl_s : n_1 = s.length) (hc_s : n_1 ≤ c_1)
  (h : Mem (A1 s_1 :: FL) w) (hp : slices_IndexFunc_sl_api_Addr_api_Addr_wp s s_1 Y1 K)
  (hR : ∀ (r : Int) (s_2 : σ1) (w : World), Mem (A1 s_2 :: FL) w → K r s_2 → R (Value.int .i64 r) w) :
  CallV Try.prog 62 #[(Value.slice p_1 n_1 c_1), (Value.func ff1 fa1 fc1)] w R := by
  refine slices_IndexFunc_sl_api_Addr_api_Addr_call ?_
  unfold slices_IndexFunc_sl_api_Addr_api_Addr
  unfold slices_IndexFunc_sl_api_Addr_api_Addr_wp at hp
  subst hl_s
  obtain ⟨I, ⟨n_4, h0⟩, hq⟩ := hp
  refine ⟨fun n_2 s0p s0l s0c f1 t7 t8 w => ∃ (s_3 : σ1), p_1 = s0p ∧ s.length = s0l ∧ c_1 = s0c ∧ (Value.func ff1 fa1 fc1) = f1 ∧ ((s.length : Nat) : Int) = t7 ∧ I n_2 t8 s_3 ∧ Mem (A1 s_3 :: FL) w, ⟨n_4, s_1, rfl, rfl, rfl, rfl, rfl, h0, h⟩, ?_⟩
  clear h0 h
  rintro n_2 s0p s0l s0c f1 t7 t8 w ⟨s_3, rfl, rfl, rfl, rfl, rfl, hp, h⟩
  replace hp := hq n_2 t8 s_3 hp
  clear hq
  unfold slices_IndexFunc_sl_api_Addr_api_Addr_l1
  refine cond_both' hp (fun hp => ?_) (fun hp => ?_)
  · exact hR (-1) s_3 _ h hp
  obtain ⟨ia_1, ja_1, hp⟩ := hp
  obtain ⟨a_1, ha_1⟩ := rdAddr (hF_s _ (h.drop 1)) rfl ia_1 ja_1
  refine ⟨a_1, ha_1, ia_1, ja_1, ?_⟩
  obtain ⟨x_1, hx_1, hc⟩ := rdCell (hF_s _ (h.drop 1)) ha_1 rfl ia_1 ja_1
  replace hp := hp x_1 hx_1
  refine ⟨_, hc 0 _ rfl, _, hc 1 _ rfl, ?_⟩
  refine hY1 x_1 _ _ (FL) _ _ (fun _ h => Mem.drop 0 h) h hp ?_
  intro t16 s_4 w h hp
  refine ⟨_, rfl, ?_⟩
  refine cond_both hp (fun hp => ?_) (fun hp => ?_)
  · exact hR t8 s_4 _ h hp
  obtain ⟨n_3, hn, hp⟩ := hp
  exact ⟨n_3, hn, s_4, rfl, rfl, rfl, rfl, rfl, hp, h⟩

/-! slices.DeleteFunc[[]embrasure/api.Addr,embrasure/api.Addr] (49) -/
def slices_DeleteFunc_sl_api_Addr_api_Addr_wp {σ1 : Type} (s : List (Int × Int)) (s_1 : σ1) (Y1 : (Int × Int) → σ1 → (Bool → σ1 → Prop) → Prop) (K : List (Int × Int) → σ1 → Prop) : Prop :=
  slices_IndexFunc_sl_api_Addr_api_Addr_wp s s_1 Y1 (fun (r : Int) (s_3 : σ1) => cond ((r : Int) == (-1)) (K s s_3) (joinP3 (fun (s_4 : List (Int × Int)) (i5 : Int) (s_5 : σ1) => 0 ≤ (i5 : Int) ∧ (i5 : Int) ≤ ((s.length : Nat) : Int) ∧ (0 ≤ (i5 : Int) ∧ (i5 : Int) ≤ ((s.length : Nat) : Int) ∧ (K ((((s_4.take (Int.toNat i5)) ++ List.replicate (s.length - (Int.toNat i5)) (0, 0) ++ (s_4.drop s.length)).take (Int.toNat i5)).drop 0) s_5))) (fun (Q : List (Int × Int) → Int → σ1 → Prop) => ∃ (I : Nat → List (Int × Int) → Int → Int → σ1 → Prop), (∃ (n_5 : Nat), I n_5 s r (IntKind.wrap .i64 (r + 1)) s_3) ∧ ∀ (n_2 : Nat) (s_6 : List (Int × Int)) (i5_1 : Int) (j6 : Int) (s_7 : σ1), I n_2 s_6 i5_1 j6 s_7 → (cond (decide ((j6 : Int) < ((s.length : Nat) : Int))) (0 ≤ (j6 : Int) ∧ (j6 : Int) < ((s.length : Nat) : Int) ∧ (∀ (x_1 : Int × Int), s_6[Int.toNat j6]? = some x_1 → (Y1 x_1 s_7 (fun (t28 : Bool) (s_8 : σ1) => cond (!t28) (0 ≤ (i5_1 : Int) ∧ (i5_1 : Int) < ((s.length : Nat) : Int) ∧ (∃ (n_3 : Nat), n_3 < n_2 ∧ I n_3 (List.set s_6 (Int.toNat i5_1) x_1) (IntKind.wrap .i64 (i5_1 + 1)) (IntKind.wrap .i64 (j6 + 1)) s_8)) (∃ (n_4 : Nat), n_4 < n_2 ∧ I n_4 s_6 i5_1 (IntKind.wrap .i64 (j6 + 1)) s_8))))) (Q s_6 i5_1 s_7)))))
theorem slices_DeleteFunc_sl_api_Addr_api_Addr_ok {σ1 : Type} {A1 : σ1 → HP} {p_1 : Option Addr} {c_1 : Nat} {n_1 : Nat} {ff1 : Fn} {fa1 : Array Value} {fc1 : Array Value} {s : List (Int × Int)} {s_1 : σ1} {Y1 : (Int × Int) → σ1 → (Bool → σ1 → Prop) → Prop} {FL : List HP} {w : World} {K : List (Int × Int) → σ1 → Prop} {R : Value → World → Prop}
  (hY1 : ∀ (x0 : Int × Int) (s : σ1) (K : Bool → σ1 → Prop) (FL2 : List HP) (w : World) (R : Value → World → Prop), (∀ w, Mem FL2 w → Mem FL w) → Mem (A1 s :: FL2) w → Y1 x0 s K → (∀ (r : Bool) (s : σ1) (w : World), Mem (A1 s :: FL2) w → K r s → R (Value.bool r) w) → CalleeV Try.prog (Value.func ff1 fa1 fc1) #[(Value.agg #[(Value.int .u32 x0.1), (Value.int .i64 x0.2)])] w R) (hn_p_1 : n_1 = s.length)
  (h : Mem (row enc24 24 2 p_1 c_1 s :: A1 s_1 :: FL) w) (hp : slices_DeleteFunc_sl_api_Addr_api_Addr_wp s s_1 Y1 K)
  (hR : ∀ (rs : List (Int × Int)) (s_2 : σ1) (p_2 : Option Addr) (n_2 : Nat) (c_2 : Nat) (w : World), n_2 = rs.length → Mem (row enc24 24 2 p_2 c_2 rs :: A1 s_2 :: FL) w → K rs s_2 → R (Value.slice p_2 n_2 c_2) w) :
  CallV Try.prog 49 #[(Value.slice p_1 n_1 c_1), (Value.func ff1 fa1 fc1)] w R := by
  refine slices_DeleteFunc_sl_api_Addr_api_Addr_call ?_
  unfold slices_DeleteFunc_sl_api_Addr_api_Addr
  unfold slices_DeleteFunc_sl_api_Addr_api_Addr_wp at hp
  subst hn_p_1
  have cpp_1 := rowCap h 0 rfl
  replace h := h.pick [1]
  dsimp only [pickL, pickR, nthH, delH, dropH, List.cons_append, List.nil_append] at h
  refine slices_IndexFunc_sl_api_Addr_api_Addr_ok (FL := row enc24 24 2 p_1 c_1 s :: FL) (A1 := A1) (Y1 := Y1) (σ1 := σ1) (s_1 := s_1) (fun _ _ _ FL2 w R hx => hY1 _ _ _ FL2 w R (fun w h => (Mem.drop 1 (hx w h)))) (fun w h => (rowRd h 0 encL24 rfl)) rfl cpp_1 h hp ?_
  intro r s_3 w h hp
  refine ⟨_, rfl, ?_⟩
  refine cond_both hp (fun hp => ?_) (fun hp => ?_)
  · replace h := h.sel [1, 0] 0
    dsimp only [pickL, pickR, nthH, delH, dropH, List.cons_append, List.nil_append] at h
    exact hR s s_3 p_1 s.length c_1 _ rfl h hp
  obtain ⟨Q, hq, hp⟩ := hp
  refine ⟨fun s0p s0l s0c i5 w => ∃ (s_4 : List (Int × Int)), ∃ (s_5 : σ1), p_1 = s0p ∧ s.length = s0l ∧ c_1 = s0c ∧ s.length = s_4.length ∧ Q s_4 i5 s_5 ∧ Mem (A1 s_5 :: row enc24 24 2 p_1 c_1 s_4 :: FL) w, ?_, ?_⟩
  · rintro s0p s0l s0c i5 w ⟨s_4, s_5, rfl, rfl, rfl, hl_s_4, hp, h⟩
    replace hp := hq s_4 i5 s_5 hp
    unfold slices_DeleteFunc_sl_api_Addr_api_Addr_j1
    obtain ⟨g_1la, g_1lb, hp⟩ := hp
    have vg_1_lh : (Int.toNat i5) ≤ s.length := (natLe g_1la g_1lb)
    have vg_1_hm : s.length ≤ c_1 := cpp_1
    have vg_1_mc : c_1 ≤ c_1 := (Nat.le_refl _)
    have vg_1_hl : s.length ≤ s_4.length := (Nat.le_of_eq hl_s_4)
    refine ⟨g_1la, g_1lb, ?_⟩
    refine clearL (x0 := (0, 0)) (lo := (Int.toNat i5)) (hi := s.length) (m := c_1) und25 zr24 h 1 encL24 rfl rfl rfl vg_1_lh vg_1_hm vg_1_hl rfl ?_
    intro w h
    dsimp only [setH, setVs, setV] at h
    refine ⟨rfl, ?_⟩
    obtain ⟨g_2ha, g_2hb, hp⟩ := hp
    have vg_2_lh : 0 ≤ (Int.toNat i5) := (Nat.zero_le _)
    have vg_2_hm : (Int.toNat i5) ≤ c_1 := (Nat.le_trans (natLe g_2ha g_2hb) cpp_1)
    have vg_2_mc : c_1 ≤ c_1 := (Nat.le_refl _)
    have vg_2_hl : (Int.toNat i5) ≤ ((s_4.take (Int.toNat i5)) ++ List.replicate (s.length - (Int.toNat i5)) (0, 0) ++ (s_4.drop s.length)).length := (leLen g_2ha g_2hb (lenClear hl_s_4 vg_1_lh vg_1_hl))
    refine ⟨g_2ha, (leCap g_2hb cpp_1), ?_⟩
    replace h := rowShrink h 1 encL24 rfl (l := 0) (hi := (Int.toNat i5)) (m := c_1) vg_2_lh vg_2_hm vg_2_mc vg_2_hl
    dsimp only [setH, setVs, setV] at h
    replace h := h.sel [1, 0] 0
    dsimp only [pickL, pickR, nthH, delH, dropH, List.cons_append, List.nil_append] at h
    exact hR ((((s_4.take (Int.toNat i5)) ++ List.replicate (s.length - (Int.toNat i5)) (0, 0) ++ (s_4.drop s.length)).take (Int.toNat i5)).drop 0) s_5 (slAddr p_1 2 0 c_1) ((Int.toNat i5) - 0) (c_1 - 0) _ (viewLen vg_2_hl) h hp
  clear hq
  obtain ⟨I, ⟨n_5, h0⟩, hq⟩ := hp
  refine ⟨fun n_2 s0_1p s0_1l s0_1c del1 i5_1 j6 w => ∃ (s_6 : List (Int × Int)), ∃ (s_7 : σ1), p_1 = s0_1p ∧ s.length = s0_1l ∧ c_1 = s0_1c ∧ (Value.func ff1 fa1 fc1) = del1 ∧ s.length = s_6.length ∧ I n_2 s_6 i5_1 j6 s_7 ∧ Mem (A1 s_7 :: row enc24 24 2 p_1 c_1 s_6 :: FL) w, ⟨n_5, s, s_3, rfl, rfl, rfl, rfl, rfl, h0, h⟩, ?_⟩
  clear h0 h
  rintro n_2 s0_1p s0_1l s0_1c del1 i5_1 j6 w ⟨s_6, s_7, rfl, rfl, rfl, rfl, hl_s_6, hp, h⟩
  replace hp := hq n_2 s_6 i5_1 j6 s_7 hp
  clear hq
  unfold slices_DeleteFunc_sl_api_Addr_api_Addr_l2
  refine cond_both' hp (fun hp => ?_) (fun hp => ?_)
  · exact ⟨s_6, s_7, rfl, rfl, rfl, hl_s_6, hp, h⟩
  obtain ⟨ia_1, ja_1, hp⟩ := hp
  obtain ⟨a_1, ha_1⟩ := rdAddr (rowRd h 1 encL24 rfl) hl_s_6 ia_1 ja_1
  refine ⟨a_1, ha_1, ia_1, ja_1, ?_⟩
  obtain ⟨x_1, hx_1, hc⟩ := rdCell (rowRd h 1 encL24 rfl) ha_1 hl_s_6 ia_1 ja_1
  replace hp := hp x_1 hx_1
  refine ⟨_, hc 0 _ rfl, _, hc 1 _ rfl, ?_⟩
  refine newL (o := [(Value.int .u32 0), (Value.int .i64 0)]) h ?_
  intro b_1 w h
  refine storeL (ys := [(Value.int .u32 x_1.1), (Value.int .i64 x_1.2)]) h 0 0 rfl rfl rfl sz24 rfl rfl ?_
  intro w h
  dsimp only [setH, setVs, setV] at h
  refine ⟨_, cellL h 0 0 rfl rfl rfl, _, cellL h 0 1 rfl rfl rfl, ?_⟩
  replace h := h.pick [1]
  dsimp only [pickL, pickR, nthH, delH, dropH, List.cons_append, List.nil_append] at h
  refine hY1 x_1 _ _ (cel b_1 24 [(Value.int .u32 x_1.1), (Value.int .i64 x_1.2)] :: row enc24 24 2 p_1 c_1 s_6 :: FL) _ _ (fun _ h => Mem.drop 2 h) h hp ?_
  intro t28 s_8 w h hp
  refine ⟨_, rfl, ?_⟩
  refine cond_both' hp (fun hp => ?_) (fun hp => ?_)
  · replace h := h.sel [0, 1] 1
    dsimp only [pickL, pickR, nthH, delH, dropH, List.cons_append, List.nil_append] at h
    obtain ⟨n_4, hn, hp⟩ := hp
    exact ⟨n_4, hn, s_6, s_8, rfl, rfl, rfl, rfl, hl_s_6, hp, h⟩
  refine ⟨_, cellL h 1 0 rfl rfl rfl, _, cellL h 1 1 rfl rfl rfl, ?_⟩
  obtain ⟨ia_2, ja_2, hp⟩ := hp
  obtain ⟨a_2, ha_2⟩ := rdAddr (rowRd h 2 encL24 rfl) hl_s_6 ia_2 ja_2
  refine ⟨a_2, ha_2, ia_2, ja_2, ?_⟩
  refine rowSetW (ys := [(Value.int .u32 x_1.1), (Value.int .i64 x_1.2)]) (x := x_1) h 2 encL24 rfl ha_2 hl_s_6 ia_2 ja_2 sz24 rfl rfl rfl ?_
  intro w h
  dsimp only [setH, setVs, setV] at h
  replace h := h.sel [0, 1] 1
  dsimp only [pickL, pickR, nthH, delH, dropH, List.cons_append, List.nil_append] at h
  obtain ⟨n_3, hn, hp⟩ := hp
  exact ⟨n_3, hn, (List.set s_6 (Int.toNat i5_1) x_1), s_8, rfl, rfl, rfl, rfl, (lenSet hl_s_6), hp, h⟩

/-! slices.Clone[[]embrasure/api.Addr,embrasure/api.Addr] (51) -/
def slices_Clone_sl_api_Addr_api_Addr_wp (s : List (Int × Int)) (K : List (Int × Int) → Prop) : Prop :=
  ∀ (nil : Bool), (nil = true → s = []) → (cond nil (K ([] : List (Int × Int))) ((([] : List (Int × Int)).length + s.length) * 16 ≤ 140737488355328 ∧ (K (([] : List (Int × Int)) ++ s))))
theorem slices_Clone_sl_api_Addr_api_Addr_ok {p_1 : Option Addr} {n_1 : Nat} {c_1 : Nat} {s : List (Int × Int)} {FL : List HP} {w : World} {K : List (Int × Int) → Prop} {R : Value → World → Prop}
  (hF_s : ∀ w, Mem FL w → Rd w 2 p_1 enc24 s) (hl_s : n_1 = s.length) (hc_s : n_1 ≤ c_1)
  (h : Mem (FL) w) (hp : slices_Clone_sl_api_Addr_api_Addr_wp s K)
  (hR : ∀ (rs : List (Int × Int)) (p_2 : Option Addr) (n_2 : Nat) (c_2 : Nat) (w : World), n_2 = rs.length → Mem (row enc24 24 2 p_2 c_2 rs :: FL) w → K rs → R (Value.slice p_2 n_2 c_2) w) :
  CallV Try.prog 51 #[(Value.slice p_1 n_1 c_1)] w R := by
  refine slices_Clone_sl_api_Addr_api_Addr_call ?_
  unfold slices_Clone_sl_api_Addr_api_Addr
  unfold slices_Clone_sl_api_Addr_api_Addr_wp at hp
  subst hl_s
  obtain ⟨nil, hnil⟩ : ∃ b : Bool, Option.isNone p_1 = b := ⟨_, rfl⟩
  replace hp := hp nil (nilEmpty (hF_s _ (h.drop 0)) hnil)
  refine eqlSlNil und25 hnil ?_
  refine ⟨_, rfl, ?_⟩
  refine cond_both hp (fun hp => ?_) (fun hp => ?_)
  · replace h := rowNil enc24 24 2 h
    exact hR ([] : List (Int × Int)) (none ) 0 0 _ rfl h hp
  refine newL (o := []) h ?_
  intro b_1 w h
  have sr := (hF_s _ (h.drop 1))
  replace h := rowOfCel h 0 encL24 rfl ([] : List (Int × Int)) rfl
  dsimp only [setH, setVs, setV] at h
  obtain ⟨hb, hp⟩ := hp
  refine appendL slt25 und25 encL24 encO24 h 0 rfl rfl sr rfl hb ?_
  intro p_3 c_2 w h
  dsimp only [setH, setVs, setV] at h
  have cpp_3 := rowCap h 0 rfl
  refine ⟨_, _, _, rfl, ?_⟩
  exact hR (([] : List (Int × Int)) ++ s) p_3 ((([] : List (Int × Int)) ++ s).length) c_2 _ rfl h hp

/-! (*embrasure/nat.bound).see (30) -/
def nat_bound_see_wp (b_1 : Option Nat) (to_Host : Int) (to_Port : Int) (m_1 : List (Nat × (Int × Int × Int × Int × Int × Int × Bool × (List (Int × Int))))) (K : List (Nat × (Int × Int × Int × Int × Int × Int × Bool × (List (Int × Int)))) → Prop) : Prop :=
  ∃ (b_3 : Nat), b_1 = some b_3 ∧ (∃ (x_1 : Int × Int × Int × Int × Int × Int × Bool × (List (Int × Int))), getS m_1 b_3 = some x_1 ∧ (slices_DeleteFunc_sl_api_Addr_api_Addr_wp x_1.2.2.2.2.2.2.2 () (fun x_2 s K_1 => nat_bound_see_c1_wp x_2.1 x_2.2 to_Host to_Port (fun (r : Bool) => K_1 r s)) (fun (rs : List (Int × Int)) (s_1 : (Unit)) => (rs.length + [(to_Host, to_Port)].length) * 16 ≤ 140737488355328 ∧ (0 ≤ ((if ((IntKind.wrap .i64 ((((rs ++ [(to_Host, to_Port)]).length : Nat) : Int) - 16)) : Int) > 0 then (IntKind.wrap .i64 ((((rs ++ [(to_Host, to_Port)]).length : Nat) : Int) - 16)) else 0) : Int) ∧ ((if ((IntKind.wrap .i64 ((((rs ++ [(to_Host, to_Port)]).length : Nat) : Int) - 16)) : Int) > 0 then (IntKind.wrap .i64 ((((rs ++ [(to_Host, to_Port)]).length : Nat) : Int) - 16)) else 0) : Int) ≤ (((rs ++ [(to_Host, to_Port)]).length : Nat) : Int) ∧ (slices_Clone_sl_api_Addr_api_Addr_wp (((rs ++ [(to_Host, to_Port)]).take (rs ++ [(to_Host, to_Port)]).length).drop (Int.toNat (if ((IntKind.wrap .i64 ((((rs ++ [(to_Host, to_Port)]).length : Nat) : Int) - 16)) : Int) > 0 then (IntKind.wrap .i64 ((((rs ++ [(to_Host, to_Port)]).length : Nat) : Int) - 16)) else 0))) (fun (rs_1 : List (Int × Int)) => K (putS m_1 b_3 (x_1.1, x_1.2.1, x_1.2.2.1, x_1.2.2.2.1, x_1.2.2.2.2.1, x_1.2.2.2.2.2.1, x_1.2.2.2.2.2.2.1, rs_1))))))))
theorem nat_bound_see_ok {hd : Nat → Option Addr × Nat} {b_1 : Option Nat} {to_Host : Int} {to_Port : Int} {m_1 : List (Nat × (Int × Int × Int × Int × Int × Int × Bool × (List (Int × Int))))} {FL : List HP} {w : World} {K : List (Nat × (Int × Int × Int × Int × Int × Int × Bool × (List (Int × Int)))) → Prop} {R : Value → World → Prop}
  (h : Mem (stoP stoE71 hd m_1 :: FL) w) (hp : nat_bound_see_wp b_1 to_Host to_Port m_1 K)
  (hR : ∀ (m_2 : List (Nat × (Int × Int × Int × Int × Int × Int × Bool × (List (Int × Int))))) (hd_1 : Nat → Option Addr × Nat) (w : World), Mem (stoP stoE71 hd_1 m_2 :: FL) w → K m_2 → R undef w) :
  CallV Try.prog 30 #[(Value.pointer (pn b_1)), (Value.agg #[(Value.int .u32 to_Host), (Value.int .i64 to_Port)])] w R := by
  refine nat_bound_see_call ?_
  unfold nat_bound_see
  unfold nat_bound_see_wp at hp
  refine newL (o := [(Value.int .u32 to_Host), (Value.int .i64 to_Port)]) h ?_
  intro b_2 w h
  obtain ⟨b_3, hb_3, hp⟩ := hp
  refine ⟨_, pnSome hb_3, ?_⟩
  obtain ⟨x_1, hx_1, hp⟩ := hp
  replace h := stoOpen stoX71 h 1 rfl hx_1
  dsimp only [setH] at h
  obtain ⟨p_1, c_1, hux_1⟩ : ∃ p_1 c_1, hd b_3 = (p_1, c_1) := ⟨_, _, rfl⟩
  rw [hux_1] at h
  replace h : Mem (cel b_3 71 [(Value.int .u32 x_1.1), (Value.int .i64 x_1.2.1), (Value.int .u32 x_1.2.2.1), (Value.int .i64 x_1.2.2.2.1), (Value.int .i64 x_1.2.2.2.2.1), (Value.int .i64 x_1.2.2.2.2.2.1), (Value.bool x_1.2.2.2.2.2.2.1), (Value.slice p_1 x_1.2.2.2.2.2.2.2.length c_1)] :: row enc24 24 2 p_1 c_1 x_1.2.2.2.2.2.2.2 :: cel b_2 24 [(Value.int .u32 to_Host), (Value.int .i64 to_Port)] :: stoP stoE71 hd (delS m_1 b_3) :: FL) _ := h.unpack
  have cpp_1 := rowCap h 1 rfl
  refine ⟨_, _, _, cellL h 0 7 rfl rfl rfl, ?_⟩
  replace h := h.pick [2]
  dsimp only [pickL, pickR, nthH, delH, dropH, List.cons_append, List.nil_append] at h
  replace h : Mem ((fun (_ : Unit) => HL [cel b_2 24 [(Value.int .u32 to_Host), (Value.int .i64 to_Port)]]) () :: cel b_3 71 [(Value.int .u32 x_1.1), (Value.int .i64 x_1.2.1), (Value.int .u32 x_1.2.2.1), (Value.int .i64 x_1.2.2.2.1), (Value.int .i64 x_1.2.2.2.2.1), (Value.int .i64 x_1.2.2.2.2.2.1), (Value.bool x_1.2.2.2.2.2.2.1), (Value.slice p_1 x_1.2.2.2.2.2.2.2.length c_1)] :: row enc24 24 2 p_1 c_1 x_1.2.2.2.2.2.2.2 :: stoP stoE71 hd (delS m_1 b_3) :: FL) _ := h.pack 1 [cel b_2 24 [(Value.int .u32 to_Host), (Value.int .i64 to_Port)]] rfl
  replace h := h.pick [2, 0]
  dsimp only [pickL, pickR, nthH, delH, dropH, List.cons_append, List.nil_append] at h
  have hSr71 := stoRo71 (h.drop 2) 1 rfl
  refine slices_DeleteFunc_sl_api_Addr_api_Addr_ok (FL := cel b_3 71 [(Value.int .u32 x_1.1), (Value.int .i64 x_1.2.1), (Value.int .u32 x_1.2.2.1), (Value.int .i64 x_1.2.2.2.1), (Value.int .i64 x_1.2.2.2.2.1), (Value.int .i64 x_1.2.2.2.2.2.1), (Value.bool x_1.2.2.2.2.2.2.1), (Value.slice p_1 x_1.2.2.2.2.2.2.2.length c_1)] :: stoP stoE71 hd (delS m_1 b_3) :: FL) (A1 := (fun (_ : Unit) => HL [cel b_2 24 [(Value.int .u32 to_Host), (Value.int .i64 to_Port)]])) (Y1 := (fun x_2 s K_1 => nat_bound_see_c1_wp x_2.1 x_2.2 to_Host to_Port (fun (r : Bool) => K_1 r s))) (σ1 := Unit) (s_1 := ()) ?_ rfl h hp ?_
  · intro x_2 s K FL2 w R hx h hp hR
    replace h := h.unpack
    dsimp only [pickL, pickR, nthH, delH, dropH, List.cons_append, List.nil_append] at h
    refine calleeFn (by kernel_rfl) ?_
    refine nat_bound_see_c1_ok h hp ?_
    intro r w h hp
    exact hR r s _ (h.pack 1 [cel b_2 24 [(Value.int .u32 to_Host), (Value.int .i64 to_Port)]] rfl) hp
  rintro rs s_1 p_2 n_1 c_2 w rfl h hp
  have cpp_2 := rowCap h 0 rfl
  replace h := h.pick [1]
  dsimp only [pickL, pickR, nthH, delH, dropH, List.cons_append, List.nil_append] at h
  replace h := h.unpack
  dsimp only [pickL, pickR, nthH, delH, dropH, List.cons_append, List.nil_append] at h
  refine ⟨_, _, _, rfl, ?_⟩
  refine ⟨_, pnSome hb_3, ?_⟩
  refine storeL (ys := [(Value.slice p_2 rs.length c_2)]) h 2 7 rfl rfl rfl sz25 rfl rfl ?_
  intro w h
  dsimp only [setH, setVs, setV] at h
  replace h := h.drew
  refine ⟨fun w => Mem (cel b_3 71 [(Value.int .u32 x_1.1), (Value.int .i64 x_1.2.1), (Value.int .u32 x_1.2.2.1), (Value.int .i64 x_1.2.2.2.1), (Value.int .i64 x_1.2.2.2.2.1), (Value.int .i64 x_1.2.2.2.2.2.1), (Value.bool x_1.2.2.2.2.2.2.1), (Value.slice p_2 rs.length c_2)] :: FL) w, (h.sel [2] 3), ?_⟩
  refine ⟨_, pnSome hb_3, ?_⟩
  refine ⟨_, _, _, cellL h 2 7 rfl rfl rfl, ?_⟩
  refine ⟨?_, ?_⟩
  · intro w h
    change Mem _ _ at h
    refine ⟨_, _, _, cellL h 0 7 rfl rfl rfl, ?_⟩
    exact ⟨rfl, rfl⟩
  refine ⟨_, cellL h 0 0 rfl rfl rfl, _, cellL h 0 1 rfl rfl rfl, ?_⟩
  refine newL (o := [(Value.int .u32 to_Host), (Value.int .i64 to_Port)]) h ?_
  intro b_4 w h
  refine ⟨(h.sel [3] 4), ?_⟩
  have sr := (celRd h 0 encL24 rfl [(to_Host, to_Port)] rfl)
  obtain ⟨hb, hp⟩ := hp
  refine appendL slt25 und25 encL24 encO24 h 2 rfl rfl sr rfl hb ?_
  intro p_3 c_3 w h
  dsimp only [setH, setVs, setV] at h
  have cpp_3 := rowCap h 2 rfl
  refine ⟨_, _, _, rfl, ?_⟩
  refine ⟨_, pnSome hb_3, ?_⟩
  refine storeL (ys := [(Value.slice p_3 (rs ++ [(to_Host, to_Port)]).length c_3)]) h 3 7 rfl rfl rfl sz25 rfl rfl ?_
  intro w h
  dsimp only [setH, setVs, setV] at h
  replace h := h.drew
  refine ⟨_, pnSome hb_3, ?_⟩
  refine ⟨_, _, _, cellL h 3 7 rfl rfl rfl, ?_⟩
  refine ⟨_, pnSome hb_3, ?_⟩
  refine ⟨_, _, _, cellL h 3 7 rfl rfl rfl, ?_⟩
  refine ⟨rfl, ?_⟩
  obtain ⟨g_1la, g_1lb, hp⟩ := hp
  have vg_1_lh : (Int.toNat (if ((IntKind.wrap .i64 ((((rs ++ [(to_Host, to_Port)]).length : Nat) : Int) - 16)) : Int) > 0 then (IntKind.wrap .i64 ((((rs ++ [(to_Host, to_Port)]).length : Nat) : Int) - 16)) else 0)) ≤ (rs ++ [(to_Host, to_Port)]).length := (natLe g_1la g_1lb)
  have vg_1_hm : (rs ++ [(to_Host, to_Port)]).length ≤ c_3 := cpp_3
  have vg_1_mc : c_3 ≤ c_3 := (Nat.le_refl _)
  have vg_1_hl : (rs ++ [(to_Host, to_Port)]).length ≤ (rs ++ [(to_Host, to_Port)]).length := (Nat.le_of_eq rfl)
  refine ⟨g_1la, g_1lb, ?_⟩
  refine slices_Clone_sl_api_Addr_api_Addr_ok (FL := cel b_4 24 [(Value.int .u32 to_Host), (Value.int .i64 to_Port)] :: cel b_2 24 [(Value.int .u32 to_Host), (Value.int .i64 to_Port)] :: row enc24 24 2 p_3 c_3 (rs ++ [(to_Host, to_Port)]) :: cel b_3 71 [(Value.int .u32 x_1.1), (Value.int .i64 x_1.2.1), (Value.int .u32 x_1.2.2.1), (Value.int .i64 x_1.2.2.2.1), (Value.int .i64 x_1.2.2.2.2.1), (Value.int .i64 x_1.2.2.2.2.2.1), (Value.bool x_1.2.2.2.2.2.2.1), (Value.slice p_3 (rs ++ [(to_Host, to_Port)]).length c_3)] :: stoP stoE71 hd (delS m_1 b_3) :: FL) (fun w h => (Rd.view (rowRd h 2 encL24 rfl) (l := (Int.toNat (if ((IntKind.wrap .i64 ((((rs ++ [(to_Host, to_Port)]).length : Nat) : Int) - 16)) : Int) > 0 then (IntKind.wrap .i64 ((((rs ++ [(to_Host, to_Port)]).length : Nat) : Int) - 16)) else 0))) (h := (rs ++ [(to_Host, to_Port)]).length) (m := c_3) vg_1_hm)) (viewLen vg_1_hl) (Nat.sub_le_sub_right vg_1_hm _) h hp ?_
  rintro rs_1 p_4 n_2 c_4 w rfl h hp
  have cpp_4 := rowCap h 0 rfl
  refine ⟨_, _, _, rfl, ?_⟩
  refine ⟨_, pnSome hb_3, ?_⟩
  refine storeL (ys := [(Value.slice p_4 rs_1.length c_4)]) h 4 7 rfl rfl rfl sz25 rfl rfl ?_
  intro w h
  dsimp only [setH, setVs, setV] at h
  replace h := h.pick [4, 0]
  dsimp only [pickL, pickR, nthH, delH, dropH, List.cons_append, List.nil_append] at h
  replace h : Mem (stoE71 (p_4, c_4) b_3 (x_1.1, x_1.2.1, x_1.2.2.1, x_1.2.2.2.1, x_1.2.2.2.2.1, x_1.2.2.2.2.2.1, x_1.2.2.2.2.2.2.1, rs_1) :: cel b_4 24 [(Value.int .u32 to_Host), (Value.int .i64 to_Port)] :: cel b_2 24 [(Value.int .u32 to_Host), (Value.int .i64 to_Port)] :: row enc24 24 2 p_3 c_3 (rs ++ [(to_Host, to_Port)]) :: stoP stoE71 hd (delS m_1 b_3) :: FL) _ := h.pack 2 [cel b_3 71 [(Value.int .u32 x_1.1), (Value.int .i64 x_1.2.1), (Value.int .u32 x_1.2.2.1), (Value.int .i64 x_1.2.2.2.1), (Value.int .i64 x_1.2.2.2.2.1), (Value.int .i64 x_1.2.2.2.2.2.1), (Value.bool x_1.2.2.2.2.2.2.1), (Value.slice p_4 rs_1.length c_4)], row enc24 24 2 p_4 c_4 rs_1] rfl
  replace h := stoClose h 3 (by simp only [List.length_cons]; omega) rfl
  dsimp only [setH] at h
  replace h := h.sel [3] 3
  dsimp only [pickL, pickR, nthH, delH, dropH, List.cons_append, List.nil_append] at h
  exact hR (putS m_1 b_3 (x_1.1, x_1.2.1, x_1.2.2.1, x_1.2.2.2.1, x_1.2.2.2.2.1, x_1.2.2.2.2.2.1, x_1.2.2.2.2.2.2.1, rs_1)) (updF hd b_3 (p_4, c_4)) _ h hp

/-! (*embrasure/nat.Nat).Out (12) -/
def nat_Nat_Out_wp (box : Int) (box_1 : Int) (box_2 : Int) (box_3 : Int) (box_4 : Int) (box_5 : Int) (box_6 : Int) (list : List (Option Nat)) (now : Int) (now_1 : Int) (in_Host : Int) (in_Port : Int) (to_Host : Int) (to_Port : Int) (m_1 : List (Nat × (Int × Int × Int × Int × Int × Int × Bool × (List (Int × Int))))) (K : Int → Int → Int → List (Option Nat) → Int → List (Nat × (Int × Int × Int × Int × Int × Int × Bool × (List (Int × Int)))) → Prop) : Prop :=
  joinP3 (fun (list_2 : List (Option Nat)) (now_3 : Int) (t25 : Bool) => cond t25 (K 0 0 1 list_2 now_3 m_1) (nat_Nat_by_wp box box_1 box_2 box_3 box_4 box_5 box_6 list_2 now_3 in_Host in_Port to_Host to_Port m_1 (fun (r_3 : Option Nat) (r_4 : Int) (list_4 : List (Option Nat)) (m_3 : List (Nat × (Int × Int × Int × Int × Int × Int × Bool × (List (Int × Int))))) => cond ((r_4 : Int) != 0) (K 0 0 r_4 list_4 now_3 m_3) (joinP1 (fun (m_4 : List (Nat × (Int × Int × Int × Int × Int × Int × Bool × (List (Int × Int))))) => nat_bound_see_wp r_3 to_Host to_Port m_4 (fun (m_5 : List (Nat × (Int × Int × Int × Int × Int × Int × Bool × (List (Int × Int))))) => ∃ (b_6 : Nat), r_3 = some b_6 ∧ (∃ (x_2 : Int × Int × Int × Int × Int × Int × Bool × (List (Int × Int))), getS m_5 b_6 = some x_2 ∧ (K box x_2.2.2.2.2.1 0 list_4 now_3 (putS m_5 b_6 x_2))))) (fun (Q_1 : List (Nat × (Int × Int × Int × Int × Int × Int × Bool × (List (Int × Int)))) → Prop) => ∃ (b_5 : Nat), r_3 = some b_5 ∧ (∃ (x_1 : Int × Int × Int × Int × Int × Int × Bool × (List (Int × Int))), getS m_3 b_5 = some x_1 ∧ (cond (!x_1.2.2.2.2.2.2.1) (Q_1 (putS m_3 b_5 (x_1.1, x_1.2.1, x_1.2.2.1, x_1.2.2.2.1, x_1.2.2.2.2.1, (if (1099511627776 : Int) < (IntKind.wrap .i64 (now_1 + box_5)) then 1099511627776 else (IntKind.wrap .i64 (now_1 + box_5))), x_1.2.2.2.2.2.2.1, x_1.2.2.2.2.2.2.2))) (Q_1 (putS m_3 b_5 x_1))))))))) (fun (Q : List (Option Nat) → Int → Bool → Prop) => addr_May_wp in_Host in_Port (fun (r : Bool) => cond (!r) (Q list now true) (addr_May_wp to_Host to_Port (fun (r_1 : Bool) => cond (!r_1) (Q list now true) (nat_Nat_on_wp box box_1 box_2 box_3 box_4 box_5 box_6 list now now_1 m_1 (fun (r_2 : Bool) (list_3 : List (Option Nat)) (now_4 : Int) => Q list_3 now_4 (!r_2)))))))
theorem nat_Nat_Out_ok {b_1 : Nat} {p_1 : Option Addr} {c_1 : Nat} {hd : Nat → Option Addr × Nat} {box : Int} {box_1 : Int} {box_2 : Int} {box_3 : Int} {box_4 : Int} {box_5 : Int} {box_6 : Int} {list : List (Option Nat)} {now : Int} {now_1 : Int} {in_Host : Int} {in_Port : Int} {to_Host : Int} {to_Port : Int} {m_1 : List (Nat × (Int × Int × Int × Int × Int × Int × Bool × (List (Int × Int))))} {FL : List HP} {w : World} {K : Int → Int → Int → List (Option Nat) → Int → List (Nat × (Int × Int × Int × Int × Int × Int × Bool × (List (Int × Int)))) → Prop} {R : Value → World → Prop}
  (h : Mem (cel b_1 64 [(Value.int .u32 box), (Value.int .i64 box_1), (Value.int .i64 box_2), (Value.int .i64 box_3), (Value.int .i64 box_4), (Value.int .i64 box_5), (Value.int .i64 box_6), (Value.slice p_1 list.length c_1), (Value.int .i64 now)] :: row enc67 67 1 p_1 c_1 list :: stoP stoE71 hd m_1 :: FL) w) (hp : nat_Nat_Out_wp box box_1 box_2 box_3 box_4 box_5 box_6 list now now_1 in_Host in_Port to_Host to_Port m_1 K)
  (hR : ∀ (r : Int) (r_1 : Int) (r_2 : Int) (list_1 : List (Option Nat)) (now_2 : Int) (m_2 : List (Nat × (Int × Int × Int × Int × Int × Int × Bool × (List (Int × Int))))) (p_2 : Option Addr) (n_1 : Nat) (c_2 : Nat) (hd_1 : Nat → Option Addr × Nat) (w : World), n_1 = list_1.length → Mem (cel b_1 64 [(Value.int .u32 box), (Value.int .i64 box_1), (Value.int .i64 box_2), (Value.int .i64 box_3), (Value.int .i64 box_4), (Value.int .i64 box_5), (Value.int .i64 box_6), (Value.slice p_2 n_1 c_2), (Value.int .i64 now_2)] :: row enc67 67 1 p_2 c_2 list_1 :: stoP stoE71 hd_1 m_2 :: FL) w → K r r_1 r_2 list_1 now_2 m_2 → R (Value.tuple #[(Value.agg #[(Value.int .u32 r), (Value.int .i64 r_1)]), (Value.int .i64 r_2)]) w) :
  CallV Try.prog 12 #[(Value.pointer (some (Addr.mk b_1 0 none))), (Value.int .i64 now_1), (Value.agg #[(Value.int .u32 in_Host), (Value.int .i64 in_Port)]), (Value.agg #[(Value.int .u32 to_Host), (Value.int .i64 to_Port)])] w R := by
  refine nat_Nat_Out_call ?_
  unfold nat_Nat_Out
  unfold nat_Nat_Out_wp at hp
  have cpp_1 := rowCap h 1 rfl
  refine newL (o := [(Value.int .u32 in_Host), (Value.int .i64 in_Port)]) h ?_
  intro b_2 w h
  refine newL (o := [(Value.int .u32 to_Host), (Value.int .i64 to_Port)]) h ?_
  intro b_3 w h
  refine newL (o := [(Value.int .u32 0), (Value.int .i64 0)]) h ?_
  intro b_4 w h
  obtain ⟨Q, hq, hp⟩ := hp
  refine ⟨fun n0 now1 in6 to7 t8 t25 w => ∃ (list_2 : List (Option Nat)), ∃ (p_3 : Option Addr), ∃ (n_2 : Nat), ∃ (c_3 : Nat), ∃ (now_3 : Int), (some (Addr.mk b_1 0 none)) = n0 ∧ now_1 = now1 ∧ (Addr.mk b_2 0 none) = in6 ∧ (Addr.mk b_3 0 none) = to7 ∧ (Addr.mk b_4 0 none) = t8 ∧ n_2 = list_2.length ∧ Q list_2 now_3 t25 ∧ Mem (cel b_4 24 [(Value.int .u32 0), (Value.int .i64 0)] :: cel b_3 24 [(Value.int .u32 to_Host), (Value.int .i64 to_Port)] :: cel b_2 24 [(Value.int .u32 in_Host), (Value.int .i64 in_Port)] :: cel b_1 64 [(Value.int .u32 box), (Value.int .i64 box_1), (Value.int .i64 box_2), (Value.int .i64 box_3), (Value.int .i64 box_4), (Value.int .i64 box_5), (Value.int .i64 box_6), (Value.slice p_3 n_2 c_3), (Value.int .i64 now_3)] :: row enc67 67 1 p_3 c_3 list_2 :: stoP stoE71 hd m_1 :: FL) w, ?_, ?_⟩
  · rintro n0 now1 in6 to7 t8 t25 w ⟨list_2, p_3, n_2, c_3, now_3, rfl, rfl, rfl, rfl, rfl, rfl, hp, h⟩
    replace hp := hq list_2 now_3 t25 hp
    unfold nat_Nat_Out_j1
    have cpp_3 := rowCap h 4 rfl
    refine cond_both hp (fun hp => ?_) (fun hp => ?_)
    · refine storeL (ys := [(Value.int .u32 0), (Value.int .i64 0)]) h 0 0 rfl rfl rfl sz24 rfl rfl ?_
      intro w h
      dsimp only [setH, setVs, setV] at h
      refine ⟨_, cellL h 0 0 rfl rfl rfl, _, cellL h 0 1 rfl rfl rfl, ?_⟩
      replace h := h.sel [3, 3, 3] 3
      dsimp only [pickL, pickR, nthH, delH, dropH, List.cons_append, List.nil_append] at h
      exact hR 0 0 1 list_2 now_3 m_1 p_3 list_2.length c_3 hd _ rfl h hp
    refine ⟨_, cellL h 2 0 rfl rfl rfl, _, cellL h 2 1 rfl rfl rfl, ?_⟩
    refine ⟨_, cellL h 1 0 rfl rfl rfl, _, cellL h 1 1 rfl rfl rfl, ?_⟩
    replace h := h.pick [3, 3, 3]
    dsimp only [pickL, pickR, nthH, delH, dropH, List.cons_append, List.nil_append] at h
    refine nat_Nat_by_ok h hp ?_
    rintro r_3 r_4 list_4 m_3 p_5 n_4 c_5 hd_2 w rfl h hp
    have cpp_5 := rowCap h 1 rfl
    refine ⟨_, _, rfl, ?_⟩
    refine ⟨_, rfl, ?_⟩
    refine ⟨_, rfl, ?_⟩
    refine cond_both hp (fun hp => ?_) (fun hp => ?_)
    · refine storeL (ys := [(Value.int .u32 0), (Value.int .i64 0)]) h 3 0 rfl rfl rfl sz24 rfl rfl ?_
      intro w h
      dsimp only [setH, setVs, setV] at h
      refine ⟨_, cellL h 3 0 rfl rfl rfl, _, cellL h 3 1 rfl rfl rfl, ?_⟩
      replace h := h.sel [0, 0, 0] 3
      dsimp only [pickL, pickR, nthH, delH, dropH, List.cons_append, List.nil_append] at h
      exact hR 0 0 r_4 list_4 now_3 m_3 p_5 list_4.length c_5 hd_2 _ rfl h hp
    obtain ⟨Q_1, hq, hp⟩ := hp
    refine ⟨fun n0_1 to7_1 t8_1 b10 w => ∃ (m_4 : List (Nat × (Int × Int × Int × Int × Int × Int × Bool × (List (Int × Int))))), ∃ (hd_3 : Nat → Option Addr × Nat), (some (Addr.mk b_1 0 none)) = n0_1 ∧ (Addr.mk b_3 0 none) = to7_1 ∧ (Addr.mk b_4 0 none) = t8_1 ∧ (pn r_3) = b10 ∧ Q_1 m_4 ∧ Mem (cel b_1 64 [(Value.int .u32 box), (Value.int .i64 box_1), (Value.int .i64 box_2), (Value.int .i64 box_3), (Value.int .i64 box_4), (Value.int .i64 box_5), (Value.int .i64 box_6), (Value.slice p_5 list_4.length c_5), (Value.int .i64 now_3)] :: row enc67 67 1 p_5 c_5 list_4 :: cel b_4 24 [(Value.int .u32 0), (Value.int .i64 0)] :: cel b_3 24 [(Value.int .u32 to_Host), (Value.int .i64 to_Port)] :: cel b_2 24 [(Value.int .u32 in_Host), (Value.int .i64 in_Port)] :: stoP stoE71 hd_3 m_4 :: FL) w, ?_, ?_⟩
    · rintro n0_1 to7_1 t8_1 b10 w ⟨m_4, hd_3, rfl, rfl, rfl, rfl, hp, h⟩
      replace hp := hq m_4 hp
      unfold nat_Nat_Out_j2
      refine ⟨_, cellL h 3 0 rfl rfl rfl, _, cellL h 3 1 rfl rfl rfl, ?_⟩
      replace h := h.pick [5]
      dsimp only [pickL, pickR, nthH, delH, dropH, List.cons_append, List.nil_append] at h
      refine nat_bound_see_ok h hp ?_
      intro m_5 hd_4 w h hp
      refine ⟨rfl, ?_⟩
      obtain ⟨b_6, hb_6, hp⟩ := hp
      obtain ⟨x_2, hx_2, hp⟩ := hp
      replace h := stoOpen stoX71 h 0 rfl hx_2
      dsimp only [setH] at h
      obtain ⟨p_7, c_7, hux_2⟩ : ∃ p_7 c_7, hd_4 b_6 = (p_7, c_7) := ⟨_, _, rfl⟩
      rw [hux_2] at h
      replace h : Mem (cel b_6 71 [(Value.int .u32 x_2.1), (Value.int .i64 x_2.2.1), (Value.int .u32 x_2.2.2.1), (Value.int .i64 x_2.2.2.2.1), (Value.int .i64 x_2.2.2.2.2.1), (Value.int .i64 x_2.2.2.2.2.2.1), (Value.bool x_2.2.2.2.2.2.2.1), (Value.slice p_7 x_2.2.2.2.2.2.2.2.length c_7)] :: row enc24 24 2 p_7 c_7 x_2.2.2.2.2.2.2.2 :: stoP stoE71 hd_4 (delS m_5 b_6) :: cel b_1 64 [(Value.int .u32 box), (Value.int .i64 box_1), (Value.int .i64 box_2), (Value.int .i64 box_3), (Value.int .i64 box_4), (Value.int .i64 box_5), (Value.int .i64 box_6), (Value.slice p_5 list_4.length c_5), (Value.int .i64 now_3)] :: row enc67 67 1 p_5 c_5 list_4 :: cel b_4 24 [(Value.int .u32 0), (Value.int .i64 0)] :: cel b_3 24 [(Value.int .u32 to_Host), (Value.int .i64 to_Port)] :: cel b_2 24 [(Value.int .u32 in_Host), (Value.int .i64 in_Port)] :: FL) _ := h.unpack
      have cpp_7 := rowCap h 1 rfl
      replace h := h.drew
      refine ⟨_, rfl, ?_⟩
      refine ⟨_, cellL h 3 0 rfl rfl rfl, ?_⟩
      refine ⟨_, pnSome hb_6, ?_⟩
      refine ⟨_, cellL h 0 4 rfl rfl rfl, ?_⟩
      refine storeL (ys := [(Value.int .u32 box), (Value.int .i64 x_2.2.2.2.2.1)]) h 5 0 rfl rfl rfl sz24 rfl rfl ?_
      intro w h
      dsimp only [setH, setVs, setV] at h
      refine ⟨_, cellL h 5 0 rfl rfl rfl, _, cellL h 5 1 rfl rfl rfl, ?_⟩
      replace h : Mem (stoE71 (p_7, c_7) b_6 x_2 :: stoP stoE71 hd_4 (delS m_5 b_6) :: cel b_1 64 [(Value.int .u32 box), (Value.int .i64 box_1), (Value.int .i64 box_2), (Value.int .i64 box_3), (Value.int .i64 box_4), (Value.int .i64 box_5), (Value.int .i64 box_6), (Value.slice p_5 list_4.length c_5), (Value.int .i64 now_3)] :: row enc67 67 1 p_5 c_5 list_4 :: cel b_4 24 [(Value.int .u32 box), (Value.int .i64 x_2.2.2.2.2.1)] :: cel b_3 24 [(Value.int .u32 to_Host), (Value.int .i64 to_Port)] :: cel b_2 24 [(Value.int .u32 in_Host), (Value.int .i64 in_Port)] :: FL) _ := h.pack 2 [cel b_6 71 [(Value.int .u32 x_2.1), (Value.int .i64 x_2.2.1), (Value.int .u32 x_2.2.2.1), (Value.int .i64 x_2.2.2.2.1), (Value.int .i64 x_2.2.2.2.2.1), (Value.int .i64 x_2.2.2.2.2.2.1), (Value.bool x_2.2.2.2.2.2.2.1), (Value.slice p_7 x_2.2.2.2.2.2.2.2.length c_7)], row enc24 24 2 p_7 c_7 x_2.2.2.2.2.2.2.2] rfl
      replace h := stoClose h 0 (by simp only [List.length_cons]; omega) rfl
      dsimp only [setH] at h
      replace h := h.sel [1, 1, 0] 3
      dsimp only [pickL, pickR, nthH, delH, dropH, List.cons_append, List.nil_append] at h
      exact hR box x_2.2.2.2.2.1 0 list_4 now_3 (putS m_5 b_6 x_2) p_5 list_4.length c_5 (updF hd_4 b_6 (p_7, c_7)) _ rfl h hp
    clear hq
    obtain ⟨b_5, hb_5, hp⟩ := hp
    refine ⟨_, pnSome hb_5, ?_⟩
    obtain ⟨x_1, hx_1, hp⟩ := hp
    replace h := stoOpen stoX71 h 2 rfl hx_1
    dsimp only [setH] at h
    obtain ⟨p_6, c_6, hux_1⟩ : ∃ p_6 c_6, hd_2 b_5 = (p_6, c_6) := ⟨_, _, rfl⟩
    rw [hux_1] at h
    replace h : Mem (cel b_5 71 [(Value.int .u32 x_1.1), (Value.int .i64 x_1.2.1), (Value.int .u32 x_1.2.2.1), (Value.int .i64 x_1.2.2.2.1), (Value.int .i64 x_1.2.2.2.2.1), (Value.int .i64 x_1.2.2.2.2.2.1), (Value.bool x_1.2.2.2.2.2.2.1), (Value.slice p_6 x_1.2.2.2.2.2.2.2.length c_6)] :: row enc24 24 2 p_6 c_6 x_1.2.2.2.2.2.2.2 :: cel b_1 64 [(Value.int .u32 box), (Value.int .i64 box_1), (Value.int .i64 box_2), (Value.int .i64 box_3), (Value.int .i64 box_4), (Value.int .i64 box_5), (Value.int .i64 box_6), (Value.slice p_5 list_4.length c_5), (Value.int .i64 now_3)] :: row enc67 67 1 p_5 c_5 list_4 :: stoP stoE71 hd_2 (delS m_3 b_5) :: cel b_4 24 [(Value.int .u32 0), (Value.int .i64 0)] :: cel b_3 24 [(Value.int .u32 to_Host), (Value.int .i64 to_Port)] :: cel b_2 24 [(Value.int .u32 in_Host), (Value.int .i64 in_Port)] :: FL) _ := h.unpack
    have cpp_6 := rowCap h 1 rfl
    refine ⟨_, cellL h 0 6 rfl rfl rfl, ?_⟩
    refine cond_both' hp (fun hp => ?_) (fun hp => ?_)
    · replace h : Mem (stoE71 (p_6, c_6) b_5 x_1 :: cel b_1 64 [(Value.int .u32 box), (Value.int .i64 box_1), (Value.int .i64 box_2), (Value.int .i64 box_3), (Value.int .i64 box_4), (Value.int .i64 box_5), (Value.int .i64 box_6), (Value.slice p_5 list_4.length c_5), (Value.int .i64 now_3)] :: row enc67 67 1 p_5 c_5 list_4 :: stoP stoE71 hd_2 (delS m_3 b_5) :: cel b_4 24 [(Value.int .u32 0), (Value.int .i64 0)] :: cel b_3 24 [(Value.int .u32 to_Host), (Value.int .i64 to_Port)] :: cel b_2 24 [(Value.int .u32 in_Host), (Value.int .i64 in_Port)] :: FL) _ := h.pack 2 [cel b_5 71 [(Value.int .u32 x_1.1), (Value.int .i64 x_1.2.1), (Value.int .u32 x_1.2.2.1), (Value.int .i64 x_1.2.2.2.1), (Value.int .i64 x_1.2.2.2.2.1), (Value.int .i64 x_1.2.2.2.2.2.1), (Value.bool x_1.2.2.2.2.2.2.1), (Value.slice p_6 x_1.2.2.2.2.2.2.2.length c_6)], row enc24 24 2 p_6 c_6 x_1.2.2.2.2.2.2.2] rfl
      replace h := stoClose h 2 (by simp only [List.length_cons]; omega) rfl
      dsimp only [setH] at h
      replace h := h.sel [0, 0, 1, 1, 1, 0] 0
      dsimp only [pickL, pickR, nthH, delH, dropH, List.cons_append, List.nil_append] at h
      exact ⟨(putS m_3 b_5 x_1), (updF hd_2 b_5 (p_6, c_6)), rfl, rfl, rfl, rfl, hp, h⟩
    refine ⟨_, rfl, ?_⟩
    refine ⟨_, cellL h 2 5 rfl rfl rfl, ?_⟩
    refine ⟨_, pnSome hb_5, ?_⟩
    refine storeL (ys := [(Value.int .i64 (if (1099511627776 : Int) < (IntKind.wrap .i64 (now_1 + box_5)) then 1099511627776 else (IntKind.wrap .i64 (now_1 + box_5))))]) h 0 5 rfl rfl rfl sz3 rfl rfl ?_
    intro w h
    dsimp only [setH, setVs, setV] at h
    replace h : Mem (stoE71 (p_6, c_6) b_5 (x_1.1, x_1.2.1, x_1.2.2.1, x_1.2.2.2.1, x_1.2.2.2.2.1, (if (1099511627776 : Int) < (IntKind.wrap .i64 (now_1 + box_5)) then 1099511627776 else (IntKind.wrap .i64 (now_1 + box_5))), x_1.2.2.2.2.2.2.1, x_1.2.2.2.2.2.2.2) :: cel b_1 64 [(Value.int .u32 box), (Value.int .i64 box_1), (Value.int .i64 box_2), (Value.int .i64 box_3), (Value.int .i64 box_4), (Value.int .i64 box_5), (Value.int .i64 box_6), (Value.slice p_5 list_4.length c_5), (Value.int .i64 now_3)] :: row enc67 67 1 p_5 c_5 list_4 :: stoP stoE71 hd_2 (delS m_3 b_5) :: cel b_4 24 [(Value.int .u32 0), (Value.int .i64 0)] :: cel b_3 24 [(Value.int .u32 to_Host), (Value.int .i64 to_Port)] :: cel b_2 24 [(Value.int .u32 in_Host), (Value.int .i64 in_Port)] :: FL) _ := h.pack 2 [cel b_5 71 [(Value.int .u32 x_1.1), (Value.int .i64 x_1.2.1), (Value.int .u32 x_1.2.2.1), (Value.int .i64 x_1.2.2.2.1), (Value.int .i64 x_1.2.2.2.2.1), (Value.int .i64 (if (1099511627776 : Int) < (IntKind.wrap .i64 (now_1 + box_5)) then 1099511627776 else (IntKind.wrap .i64 (now_1 + box_5)))), (Value.bool x_1.2.2.2.2.2.2.1), (Value.slice p_6 x_1.2.2.2.2.2.2.2.length c_6)], row enc24 24 2 p_6 c_6 x_1.2.2.2.2.2.2.2] rfl
    replace h := stoClose h 2 (by simp only [List.length_cons]; omega) rfl
    dsimp only [setH] at h
    replace h := h.sel [0, 0, 1, 1, 1, 0] 0
    dsimp only [pickL, pickR, nthH, delH, dropH, List.cons_append, List.nil_append] at h
    exact ⟨(putS m_3 b_5 (x_1.1, x_1.2.1, x_1.2.2.1, x_1.2.2.2.1, x_1.2.2.2.2.1, (if (1099511627776 : Int) < (IntKind.wrap .i64 (now_1 + box_5)) then 1099511627776 else (IntKind.wrap .i64 (now_1 + box_5))), x_1.2.2.2.2.2.2.1, x_1.2.2.2.2.2.2.2)), (updF hd_2 b_5 (p_6, c_6)), rfl, rfl, rfl, rfl, hp, h⟩
  clear hq
  refine ⟨_, cellL h 2 0 rfl rfl rfl, _, cellL h 2 1 rfl rfl rfl, ?_⟩
  refine addr_May_ok h hp ?_
  intro r w h hp
  refine ⟨_, rfl, ?_⟩
  refine cond_both hp (fun hp => ?_) (fun hp => ?_)
  · exact ⟨list, p_1, list.length, c_1, now, rfl, rfl, rfl, rfl, rfl, rfl, hp, h⟩
  refine ⟨_, cellL h 1 0 rfl rfl rfl, _, cellL h 1 1 rfl rfl rfl, ?_⟩
  refine addr_May_ok h hp ?_
  intro r_1 w h hp
  refine ⟨_, rfl, ?_⟩
  refine cond_both hp (fun hp => ?_) (fun hp => ?_)
  · exact ⟨list, p_1, list.length, c_1, now, rfl, rfl, rfl, rfl, rfl, rfl, hp, h⟩
  replace h := h.pick [3, 3, 3]
  dsimp only [pickL, pickR, nthH, delH, dropH, List.cons_append, List.nil_append] at h
  refine nat_Nat_on_ok h hp ?_
  rintro r_2 list_3 now_4 p_4 n_3 c_4 w rfl h hp
  have cpp_4 := rowCap h 1 rfl
  refine ⟨_, rfl, ?_⟩
  replace h := h.sel [3, 3, 3, 0, 0, 0] 0
  dsimp only [pickL, pickR, nthH, delH, dropH, List.cons_append, List.nil_append] at h
  exact ⟨list_3, p_4, list_3.length, c_4, now_4, rfl, rfl, rfl, rfl, rfl, rfl, hp, h⟩

/-! (*embrasure/nat.Nat).lets$1 (53) -/
def nat_Nat_lets_c1_wp (a_Host : Int) (a_Port : Int) (Host : Int) (Port : Int) (K : Bool → Prop) : Prop :=
  K ((a_Host : Int) == Host)
theorem nat_Nat_lets_c1_ok {b_1 : Nat} {a_Host : Int} {a_Port : Int} {Host : Int} {Port : Int} {FL : List HP} {w : World} {K : Bool → Prop} {R : Value → World → Prop}
  (h : Mem (cel b_1 24 [(Value.int .u32 Host), (Value.int .i64 Port)] :: FL) w) (hp : nat_Nat_lets_c1_wp a_Host a_Port Host Port K)
  (hR : ∀ (r : Bool) (w : World), Mem (cel b_1 24 [(Value.int .u32 Host), (Value.int .i64 Port)] :: FL) w → K r → R (Value.bool r) w) :
  CallV Try.prog 53 #[(Value.agg #[(Value.int .u32 a_Host), (Value.int .i64 a_Port)]), (Value.pointer (some (Addr.mk b_1 0 none)))] w R := by
  refine nat_Nat_lets_c1_call ?_
  unfold nat_Nat_lets_c1
  unfold nat_Nat_lets_c1_wp at hp
  refine newL (o := [(Value.int .u32 a_Host), (Value.int .i64 a_Port)]) h ?_
  intro b_2 w h
  refine ⟨_, cellL h 0 0 rfl rfl rfl, ?_⟩
  refine ⟨_, cellL h 1 0 rfl rfl rfl, ?_⟩
  replace h := h.sel [1] 1
  dsimp only [pickL, pickR, nthH, delH, dropH, List.cons_append, List.nil_append] at h
  exact hR ((a_Host : Int) == Host) _ h hp

/-! slices.ContainsFunc[[]embrasure/api.Addr,embrasure/api.Addr] (52) -/
def slices_ContainsFunc_sl_api_Addr_api_Addr_wp {σ1 : Type} (s : List (Int × Int)) (s_1 : σ1) (Y1 : (Int × Int) → σ1 → (Bool → σ1 → Prop) → Prop) (K : Bool → σ1 → Prop) : Prop :=
  slices_IndexFunc_sl_api_Addr_api_Addr_wp s s_1 Y1 (fun (r : Int) (s_3 : σ1) => K (decide ((r : Int) ≥ 0)) s_3)
theorem slices_ContainsFunc_sl_api_Addr_api_Addr_ok {σ1 : Type} {A1 : σ1 → HP} {p_1 : Option Addr} {n_1 : Nat} {c_1 : Nat} {ff1 : Fn} {fa1 : Array Value} {fc1 : Array Value} {s : List (Int × Int)} {s_1 : σ1} {Y1 : (Int × Int) → σ1 → (Bool → σ1 → Prop) → Prop} {FL : List HP} {w : World} {K : Bool → σ1 → Prop} {R : Value → World → Prop}
  (hY1 : ∀ (x0 : Int × Int) (s : σ1) (K : Bool → σ1 → Prop) (FL2 : List HP) (w : World) (R : Value → World → Prop), (∀ w, Mem FL2 w → Mem FL w) → Mem (A1 s :: FL2) w → Y1 x0 s K → (∀ (r : Bool) (s : σ1) (w : World), Mem (A1 s :: FL2) w → K r s → R (Value.bool r) w) → CalleeV Try.prog (Value.func ff1 fa1 fc1) #[(Value.agg #[(Value.int .u32 x0.1), (Value.int .i64 x0.2)])] w R)
  (hF_s : ∀ w, Mem FL w → Rd w 2 p_1 enc24 s) (hl_s : n_1 = s.length) (hc_s : n_1 ≤ c_1)
  (h : Mem (A1 s_1 :: FL) w) (hp : slices_ContainsFunc_sl_api_Addr_api_Addr_wp s s_1 Y1 K)
  (hR : ∀ (r : Bool) (s_2 : σ1) (w : World), Mem (A1 s_2 :: FL) w → K r s_2 → R (Value.bool r) w) :
  CallV Try.prog 52 #[(Value.slice p_1 n_1 c_1), (Value.func ff1 fa1 fc1)] w R := by
  refine slices_ContainsFunc_sl_api_Addr_api_Addr_call ?_
  unfold slices_ContainsFunc_sl_api_Addr_api_Addr
  unfold slices_ContainsFunc_sl_api_Addr_api_Addr_wp at hp
  subst hl_s
  refine slices_IndexFunc_sl_api_Addr_api_Addr_ok (FL := FL) (A1 := A1) (Y1 := Y1) (σ1 := σ1) (s_1 := s_1) (fun _ _ _ FL2 w R hx => hY1 _ _ _ FL2 w R (fun w h => (Mem.drop 0 (hx w h)))) (fun w h => (hF_s _ (h.drop 0))) rfl hc_s h hp ?_
  intro r s_3 w h hp
  refine ⟨_, rfl, ?_⟩
  exact hR (decide ((r : Int) ≥ 0)) s_3 _ h hp

/-! slices.Index[[]embrasure/api.Addr,embrasure/api.Addr] (63) -/
def slices_Index_sl_api_Addr_api_Addr_wp (s : List (Int × Int)) (v_Host : Int) (v_Port : Int) (K : Int → Prop) : Prop :=
  ∃ (I : Nat → Int → Prop), (∃ (n_4 : Nat), I n_4 0) ∧ ∀ (n_2 : Nat) (t8 : Int), I n_2 t8 → (cond (decide ((t8 : Int) < ((s.length : Nat) : Int))) (0 ≤ (t8 : Int) ∧ (t8 : Int) < ((s.length : Nat) : Int) ∧ (∀ (x_1 : Int × Int), s[Int.toNat t8]? = some x_1 → (cond (((v_Host : Int) == x_1.1) && (((v_Port : Int) == x_1.2) && true)) (K t8) (∃ (n_3 : Nat), n_3 < n_2 ∧ I n_3 (IntKind.wrap .i64 (t8 + 1)))))) (K (-1)))
theorem slices_Index_sl_api_Addr_api_Addr_ok {p_1 : Option Addr} {n_1 : Nat} {c_1 : Nat} {s : List (Int × Int)} {v_Host : Int} {v_Port : Int} {FL : List HP} {w : World} {K : Int → Prop} {R : Value → World → Prop}
  (hF_s : ∀ w, Mem FL w → Rd w 2 p_1 enc24 s) (hl_s : n_1 = s.length) (hc_s : n_1 ≤ c_1)
  (h : Mem (FL) w) (hp : slices_Index_sl_api_Addr_api_Addr_wp s v_Host v_Port K)
  (hR : ∀ (r : Int) (w : World), Mem (FL) w → K r → R (Value.int .i64 r) w) :
  CallV Try.prog 63 #[(Value.slice p_1 n_1 c_1), (Value.agg #[(Value.int .u32 v_Host), (Value.int .i64 v_Port)])] w R := by
  refine slices_Index_sl_api_Addr_api_Addr_call ?_
  unfold slices_Index_sl_api_Addr_api_Addr
  unfold slices_Index_sl_api_Addr_api_Addr_wp at hp
  subst hl_s
  refine newL (o := [(Value.int .u32 v_Host), (Value.int .i64 v_Port)]) h ?_
  intro b_1 w h
  obtain ⟨I, ⟨n_4, h0⟩, hq⟩ := hp
  refine ⟨fun n_2 s0p s0l s0c v3 t7 t8 w => p_1 = s0p ∧ s.length = s0l ∧ c_1 = s0c ∧ (Addr.mk b_1 0 none) = v3 ∧ ((s.length : Nat) : Int) = t7 ∧ I n_2 t8 ∧ Mem (cel b_1 24 [(Value.int .u32 v_Host), (Value.int .i64 v_Port)] :: FL) w, ⟨n_4, rfl, rfl, rfl, rfl, rfl, h0, h⟩, ?_⟩
  clear h0 h
  rintro n_2 s0p s0l s0c v3 t7 t8 w ⟨rfl, rfl, rfl, rfl, rfl, hp, h⟩
  replace hp := hq n_2 t8 hp
  clear hq
  unfold slices_Index_sl_api_Addr_api_Addr_l1
  refine cond_both' hp (fun hp => ?_) (fun hp => ?_)
  · replace h := h.sel [] 1
    dsimp only [pickL, pickR, nthH, delH, dropH, List.cons_append, List.nil_append] at h
    exact hR (-1) _ h hp
  replace h := h.drew
  refine ⟨_, cellL h 0 0 rfl rfl rfl, _, cellL h 0 1 rfl rfl rfl, ?_⟩
  obtain ⟨ia_1, ja_1, hp⟩ := hp
  obtain ⟨a_1, ha_1⟩ := rdAddr (hF_s _ (h.drop 1)) rfl ia_1 ja_1
  refine ⟨a_1, ha_1, ia_1, ja_1, ?_⟩
  obtain ⟨x_1, hx_1, hc⟩ := rdCell (hF_s _ (h.drop 1)) ha_1 rfl ia_1 ja_1
  replace hp := hp x_1 hx_1
  refine ⟨_, hc 0 _ rfl, _, hc 1 _ rfl, ?_⟩
  refine eqlAgg (xs := [(Value.int .u32 v_Host), (Value.int .i64 v_Port)]) (ys := [(Value.int .u32 x_1.1), (Value.int .i64 x_1.2)]) eqG24 eqA24 (eqT24 v_Host v_Port x_1.1 x_1.2) ?_
  refine ⟨_, rfl, ?_⟩
  refine ⟨rfl, ?_⟩
  refine cond_both' hp (fun hp => ?_) (fun hp => ?_)
  · obtain ⟨n_3, hn, hp⟩ := hp
    exact ⟨n_3, hn, rfl, rfl, rfl, rfl, rfl, hp, h⟩
  replace h := h.sel [] 1
  dsimp only [pickL, pickR, nthH, delH, dropH, List.cons_append, List.nil_append] at h
  exact hR t8 _ h hp

/-! slices.Contains[[]embrasure/api.Addr,embrasure/api.Addr] (54) -/
def slices_Contains_sl_api_Addr_api_Addr_wp (s : List (Int × Int)) (v_Host : Int) (v_Port : Int) (K : Bool → Prop) : Prop :=
  slices_Index_sl_api_Addr_api_Addr_wp s v_Host v_Port (fun (r : Int) => K (decide ((r : Int) ≥ 0)))
theorem slices_Contains_sl_api_Addr_api_Addr_ok {p_1 : Option Addr} {n_1 : Nat} {c_1 : Nat} {s : List (Int × Int)} {v_Host : Int} {v_Port : Int} {FL : List HP} {w : World} {K : Bool → Prop} {R : Value → World → Prop}
  (hF_s : ∀ w, Mem FL w → Rd w 2 p_1 enc24 s) (hl_s : n_1 = s.length) (hc_s : n_1 ≤ c_1)
  (h : Mem (FL) w) (hp : slices_Contains_sl_api_Addr_api_Addr_wp s v_Host v_Port K)
  (hR : ∀ (r : Bool) (w : World), Mem (FL) w → K r → R (Value.bool r) w) :
  CallV Try.prog 54 #[(Value.slice p_1 n_1 c_1), (Value.agg #[(Value.int .u32 v_Host), (Value.int .i64 v_Port)])] w R := by
  refine slices_Contains_sl_api_Addr_api_Addr_call ?_
  unfold slices_Contains_sl_api_Addr_api_Addr
  unfold slices_Contains_sl_api_Addr_api_Addr_wp at hp
  subst hl_s
  refine newL (o := [(Value.int .u32 v_Host), (Value.int .i64 v_Port)]) h ?_
  intro b_1 w h
  refine ⟨_, cellL h 0 0 rfl rfl rfl, _, cellL h 0 1 rfl rfl rfl, ?_⟩
  refine slices_Index_sl_api_Addr_api_Addr_ok (FL := cel b_1 24 [(Value.int .u32 v_Host), (Value.int .i64 v_Port)] :: FL) (fun w h => (hF_s _ (h.drop 1))) rfl hc_s h hp ?_
  intro r w h hp
  refine ⟨_, rfl, ?_⟩
  replace h := h.sel [] 1
  dsimp only [pickL, pickR, nthH, delH, dropH, List.cons_append, List.nil_append] at h
  exact hR (decide ((r : Int) ≥ 0)) _ h hp

end Go.Proofs.Ythhbnjcebmhilaa
