/- Each function over plain data (printed by a program of this claim's author). -/
import Derived.Test.YtnmdnkmemjfoeaaD2
import Derived.Test.YtnmdnkmemjfoeaaEngZ
import Derived.Test.YtnmdnkmemjfoeaaS34
import Derived.Test.YtnmdnkmemjfoeaaEngQ
namespace Go.Proofs.Ytnmdnkmemjfoeaa
open Go Go.Eng Go.Proofs
abbrev BIX := Int × Int × Int × Int × Int × Int × Bool
abbrev BYX := List ((Int × Int) × (Int × Int))
abbrev SBX := List (Nat × (Int × Int × Int × Int × Int × Int × Bool × (List (Int × Int))))
set_option maxRecDepth 100000
set_option maxHeartbeats 2000000
def enc5 (x : Int) : List Value := [Value.int .u8 x]
theorem encL5 : ∀ x, (enc5 x).length = 1 := fun _ => rfl
theorem encO5 : ∀ x, ∀ v ∈ enc5 x, v.oneCell' = true := by intro x v hv; simp only [enc5, List.mem_cons, List.not_mem_nil, or_false] at hv; rcases hv with rfl <;> rfl
def enc25 (x : Int × Int) : List Value := [Value.int .u32 x.1, Value.int .i64 x.2]
theorem encL25 : ∀ x, (enc25 x).length = 2 := fun _ => rfl
def enc55 (x : Int × Int × Int × Int × Int × Int × Bool) : List Value := [Value.int .u32 x.1, Value.int .i64 x.2.1, Value.int .u32 x.2.2.1, Value.int .i64 x.2.2.2.1, Value.int .i64 x.2.2.2.2.1, Value.int .i64 x.2.2.2.2.2.1, Value.bool x.2.2.2.2.2.2]
theorem encL55 : ∀ x, (enc55 x).length = 7 := fun _ => rfl
theorem encO55 : ∀ x, ∀ v ∈ enc55 x, v.oneCell' = true := by intro x v hv; simp only [enc55, List.mem_cons, List.not_mem_nil, or_false] at hv; rcases hv with rfl | rfl | rfl | rfl | rfl | rfl | rfl <;> rfl
def enc82 (x : Option Nat) : List Value := [Value.pointer (pn x)]
theorem encL82 : ∀ x, (enc82 x).length = 1 := fun _ => rfl
theorem encO82 : ∀ x, ∀ v ∈ enc82 x, v.oneCell' = true := by intro x v hv; simp only [enc82, List.mem_cons, List.not_mem_nil, or_false] at hv; rcases hv with rfl <;> rfl
def stoE85 (u : Option Addr × Nat) (b : Nat) (x : (Int × Int × Int × Int × Int × Int × Bool × (List (Int × Int)))) : HP := HL [cel b 85 [Value.int .u32 x.1, Value.int .i64 x.2.1, Value.int .u32 x.2.2.1, Value.int .i64 x.2.2.2.1, Value.int .i64 x.2.2.2.2.1, Value.int .i64 x.2.2.2.2.2.1, Value.bool x.2.2.2.2.2.2.1, Value.slice u.1 x.2.2.2.2.2.2.2.length u.2], row enc25 25 2 u.1 u.2 x.2.2.2.2.2.2.2]
theorem stoX85 : StoE stoE85 := ⟨fun _ _ _ _ _ _ _ h => cel_two h, fun _ _ _ _ _ _ h => pt_two h⟩
def roE85 (FL : List HP) (b : Nat) (x : (Int × Int × Int × Int × Int × Int × Bool × (List (Int × Int)))) : Prop := ∃ (p7 : Option Addr) (c7 : Nat), x.2.2.2.2.2.2.2.length ≤ c7 ∧ (∀ w, Mem FL w → w.cell? ⟨b, 0, none⟩ = some (Value.int .u32 x.1)) ∧ (∀ w, Mem FL w → w.cell? ⟨b, 1, none⟩ = some (Value.int .i64 x.2.1)) ∧ (∀ w, Mem FL w → w.cell? ⟨b, 2, none⟩ = some (Value.int .u32 x.2.2.1)) ∧ (∀ w, Mem FL w → w.cell? ⟨b, 3, none⟩ = some (Value.int .i64 x.2.2.2.1)) ∧ (∀ w, Mem FL w → w.cell? ⟨b, 4, none⟩ = some (Value.int .i64 x.2.2.2.2.1)) ∧ (∀ w, Mem FL w → w.cell? ⟨b, 5, none⟩ = some (Value.int .i64 x.2.2.2.2.2.1)) ∧ (∀ w, Mem FL w → w.cell? ⟨b, 6, none⟩ = some (Value.bool x.2.2.2.2.2.2.1)) ∧ (∀ w, Mem FL w → w.cell? ⟨b, 7, none⟩ = some (Value.slice p7 x.2.2.2.2.2.2.2.length c7)) ∧ (∀ w, Mem FL w → Rd w 2 p7 enc25 x.2.2.2.2.2.2.2) ∧ (∀ w, Mem FL w → LiveC w b)
theorem roEm85 {FL FL2 : List HP} (hx : ∀ w, Mem FL2 w → Mem FL w) {b : Nat} {x : (Int × Int × Int × Int × Int × Int × Bool × (List (Int × Int)))} : roE85 FL b x → roE85 FL2 b x := by
  rintro ⟨p7, c7, k7, e0, e1, e2, e3, e4, e5, e6, e7, r7, lv⟩
  exact ⟨p7, c7, k7, fun w h => e0 w (hx w h), fun w h => e1 w (hx w h), fun w h => e2 w (hx w h), fun w h => e3 w (hx w h), fun w h => e4 w (hx w h), fun w h => e5 w (hx w h), fun w h => e6 w (hx w h), fun w h => e7 w (hx w h), fun w h => r7 w (hx w h), fun w h => lv w (hx w h)⟩
theorem roLive85 {FL : List HP} {b : Nat} {x : (Int × Int × Int × Int × Int × Int × Bool × (List (Int × Int)))} (h : roE85 FL b x) (w : World) (hw : Mem FL w) : LiveC w b := by
  obtain ⟨_, _, _, _, _, _, _, _, _, _, _, _, lv⟩ := h
  exact lv w hw
theorem stoRo85 {L : List HP} {w : World} (h : Mem L w) (k : Nat) {hd : Nat → Option Addr × Nat} {m : SBX} (hk : nthH L k = stoP stoE85 hd m) : ∀ (b : Nat) (x : (Int × Int × Int × Int × Int × Int × Bool × (List (Int × Int)))), getS m b = some x → roE85 L b x := by
  intro b x hx
  exact ⟨(hd b).1, (hd b).2, rowCap (stoOpen stoX85 h k hk hx).unpack 1 rfl, fun w h => cellL (stoOpen stoX85 h k hk hx).unpack 0 0 rfl rfl rfl, fun w h => cellL (stoOpen stoX85 h k hk hx).unpack 0 1 rfl rfl rfl, fun w h => cellL (stoOpen stoX85 h k hk hx).unpack 0 2 rfl rfl rfl, fun w h => cellL (stoOpen stoX85 h k hk hx).unpack 0 3 rfl rfl rfl, fun w h => cellL (stoOpen stoX85 h k hk hx).unpack 0 4 rfl rfl rfl, fun w h => cellL (stoOpen stoX85 h k hk hx).unpack 0 5 rfl rfl rfl, fun w h => cellL (stoOpen stoX85 h k hk hx).unpack 0 6 rfl rfl rfl, fun w h => cellL (stoOpen stoX85 h k hk hx).unpack 0 7 rfl rfl rfl, fun w h => rowRd (stoOpen stoX85 h k hk hx).unpack 1 encL25 rfl, fun w h => liveC (stoOpen stoX85 h k hk hx).unpack 0 rfl⟩
def va3 (x : Int) : Value := (Value.int .i64 x)
def va25 (x : Int × Int) : Value := (Value.agg #[Value.int .u32 x.1, Value.int .i64 x.2])
def va111 (x : Int × Int) : Value := (Value.agg #[Value.int .i64 x.1, Value.int .u64 x.2])
theorem sz3 : sizeT Try.prog 3 = some 1 := by kernel_rfl
theorem sz5 : sizeT Try.prog 5 = some 1 := by kernel_rfl
theorem sz23 : sizeT Try.prog 23 = some 1 := by kernel_rfl
theorem sz25 : sizeT Try.prog 25 = some 2 := by kernel_rfl
theorem sz32 : sizeT Try.prog 32 = some 7 := by kernel_rfl
theorem sz41 : sizeT Try.prog 41 = some 8 := by kernel_rfl
theorem sz55 : sizeT Try.prog 55 = some 7 := by kernel_rfl
theorem sz69 : sizeT Try.prog 69 = some 1 := by kernel_rfl
theorem sz82 : sizeT Try.prog 82 = some 1 := by kernel_rfl
theorem sz85 : sizeT Try.prog 85 = some 8 := by kernel_rfl
theorem sz111 : sizeT Try.prog 111 = some 2 := by kernel_rfl
def encR22 (FL : List HP) (x : (List (Int))) (cs : List Value) : Prop := ∃ (p0 : Option Addr) (n0 c0 : Nat), cs = [Value.slice p0 n0 c0] ∧ n0 = x.length ∧ n0 ≤ c0 ∧ (∀ w, Mem FL w → Rd w 1 p0 enc5 x)
theorem encRm22 {FL FL2 : List HP} (hx : ∀ w, Mem FL2 w → Mem FL w) (x : (List (Int))) (cs : List Value) : encR22 FL x cs → encR22 FL2 x cs := by
  rintro ⟨p0, n0, c0, rfl, l0, k0, F0⟩
  exact ⟨p0, n0, c0, rfl, l0, k0, (fun w h => F0 w (hx w h))⟩
def encR63 (FL : List HP) (x : Int × Int × Int × Int × Int × Int × (List (Int)) × Int × Int × Int × Int × Int × Int × Int × Int × Int) (cs : List Value) : Prop := ∃ (p6 : Option Addr) (n6 c6 : Nat), cs = [Value.int .i64 x.1, Value.int .i64 x.2.1, Value.int .u32 x.2.2.1, Value.int .i64 x.2.2.2.1, Value.int .u32 x.2.2.2.2.1, Value.int .i64 x.2.2.2.2.2.1, Value.slice p6 n6 c6, Value.int .i64 x.2.2.2.2.2.2.2.1, Value.int .i64 x.2.2.2.2.2.2.2.2.1, Value.int .i64 x.2.2.2.2.2.2.2.2.2.1, Value.int .i64 x.2.2.2.2.2.2.2.2.2.2.1, Value.int .u64 x.2.2.2.2.2.2.2.2.2.2.2.1, Value.int .i64 x.2.2.2.2.2.2.2.2.2.2.2.2.1, Value.int .i64 x.2.2.2.2.2.2.2.2.2.2.2.2.2.1, Value.int .u32 x.2.2.2.2.2.2.2.2.2.2.2.2.2.2.1, Value.int .u32 x.2.2.2.2.2.2.2.2.2.2.2.2.2.2.2] ∧ n6 = x.2.2.2.2.2.2.1.length ∧ n6 ≤ c6 ∧ (∀ w, Mem FL w → Rd w 1 p6 enc5 x.2.2.2.2.2.2.1)
theorem eqG25 : Try.prog.eqGuardType Try.prog.depth 25 = false := by kernel_rfl
theorem eqA25 : isAggB Try.prog 25 = true := by kernel_rfl
theorem eqT25 (a0 a1 b0 b1 : Int) : eqT Try.prog 20 25 [Value.int .u32 a0, Value.int .i64 a1] [Value.int .u32 b0, Value.int .i64 b1] = some ((a0 == b0) && ((a1 == b1) && true)) := by kernel_rfl
theorem eqG41 : Try.prog.eqGuardType Try.prog.depth 41 = false := by kernel_rfl
theorem eqA41 : isAggB Try.prog 41 = true := by kernel_rfl
theorem eqT41 (a0 a1 a2 a3 a4 a5 a6 a7 b0 b1 b2 b3 b4 b5 b6 b7 : Int) : eqT Try.prog 20 41 [Value.int .i64 a0, Value.int .i64 a1, Value.int .i64 a2, Value.int .i64 a3, Value.int .u64 a4, Value.int .i64 a5, Value.int .i64 a6, Value.int .u32 a7] [Value.int .i64 b0, Value.int .i64 b1, Value.int .i64 b2, Value.int .i64 b3, Value.int .u64 b4, Value.int .i64 b5, Value.int .i64 b6, Value.int .u32 b7] = some ((a0 == b0) && ((a1 == b1) && ((a2 == b2) && ((a3 == b3) && ((a4 == b4) && ((a5 == b5) && ((a6 == b6) && ((a7 == b7) && true)))))))) := by kernel_rfl
theorem zr82 : zeroOf Try.prog 82 = some (Value.pointer none) := by kernel_rfl
theorem zr111 : zeroOf Try.prog 111 = some (Value.agg #[Value.int .i64 0, Value.int .u64 0]) := by kernel_rfl
theorem zr44 : zeroOf Try.prog 44 = some Value.nilFunc := by kernel_rfl
theorem mu73 : Try.prog.underlying 73 = some (.map 25 111) := by kernel_rfl
theorem mu80 : Try.prog.underlying 80 = some (.map 3 44) := by kernel_rfl
theorem kt3 : KeyT Try.prog 3 va3 := keyInt (by kernel_rfl)
theorem eqD25 : ∀ a b : Int × Int, (((a.1 : Int) == b.1) && (((a.2 : Int) == b.2) && true)) = decide (a = b) := by
  rintro ⟨a0, a1⟩ ⟨b0, b1⟩
  rw [Bool.eq_iff_iff]
  simp [Prod.ext_iff, and_assoc]
theorem chk25 (e : Bool) (k : Int × Int) (w : World) : (Instr.checkKey e 10000 25 (va25 k)).run Try.prog w = .ok () w := by kernel_rfl
theorem kt25 : KeyT Try.prog 25 va25 := keyStruct (enc := fun k => [Value.int .u32 k.1, Value.int .i64 k.2]) (fun _ => rfl) (by kernel_rfl) eqA25 (fun a b => (eqT25 a.1 a.2 b.1 b.2).trans (congrArg some (eqD25 a b))) chk25 (fun k v hv => by
  simp only [List.mem_cons, List.not_mem_nil, or_false] at hv
  rcases hv with rfl | rfl <;> first | exact sameInt _ _ _ | exact sameBool _ _ | exact sameStr _ _)
theorem slt22 : SlT Try.prog 22 5 (Value.int .u8 0) 1 1 := ⟨by kernel_rfl, by kernel_rfl, by kernel_rfl, by decide⟩
theorem slt45 : SlT Try.prog 45 55 (Value.agg #[Value.int .u32 0, Value.int .i64 0, Value.int .u32 0, Value.int .i64 0, Value.int .i64 0, Value.int .i64 0, Value.bool false]) 7 56 := ⟨by kernel_rfl, by kernel_rfl, by kernel_rfl, by decide⟩
theorem slt69 : SlT Try.prog 69 82 (Value.pointer none) 1 8 := ⟨by kernel_rfl, by kernel_rfl, by kernel_rfl, by decide⟩
theorem undI5 : Try.prog.underlying 5 = some (.int .u8) := by kernel_rfl
theorem undn3 : Try.prog.underlying 3 = some (.int .i64) := by kernel_rfl
theorem undStr9 : Try.prog.underlying 9 = some .string := by kernel_rfl
theorem undQ82 : Try.prog.underlying 82 = some (.pointer 85) := by kernel_rfl
theorem undP27 : Try.prog.underlying 27 = some (.pointer (Try.prog.pointee 27)) := by kernel_rfl
theorem undP34 : Try.prog.underlying 34 = some (.pointer (Try.prog.pointee 34)) := by kernel_rfl
theorem undP82 : Try.prog.underlying 82 = some (.pointer (Try.prog.pointee 82)) := by kernel_rfl
theorem und22 : Try.prog.underlying 22 = some (.slice 5) := by kernel_rfl
theorem und45 : Try.prog.underlying 45 = some (.slice 55) := by kernel_rfl
theorem und69 : Try.prog.underlying 69 = some (.slice 82) := by kernel_rfl
def l8_Box_wp (classes : Int) (K : Int → Int → Int → Int → Int → Int → Int → Prop) : Prop :=
  K 3405803777 40000 40009 (Int.tmod (IntKind.wrap .i64 classes) 3) (Int.tmod (IntKind.wrap .i64 (Int.tdiv (IntKind.wrap .i64 classes) 3)) 3) 30 12
theorem l8_Box_ok {classes : Int} {FL : List HP} {w : World} {K : Int → Int → Int → Int → Int → Int → Int → Prop} {R : Value → World → Prop}
  (h : Mem (FL) w) (hp : l8_Box_wp classes K)
  (hR : ∀ (r r_1 r_2 r_3 r_4 r_5 r_6 : Int) (w : World), Mem (FL) w → K r r_1 r_2 r_3 r_4 r_5 r_6 → R (Value.agg #[Value.int .u32 r, Value.int .i64 r_1, Value.int .i64 r_2, Value.int .i64 r_3, Value.int .i64 r_4, Value.int .i64 r_5, Value.int .i64 r_6]) w) :
  CallV Try.prog 9 #[Value.int .u8 classes] w R := by
  refine l8_Box_call ?_
  unfold l8_Box
  unfold l8_Box_wp at hp
  refine newL (o := [Value.int .u32 0, Value.int .i64 0, Value.int .i64 0, Value.int .i64 0, Value.int .i64 0, Value.int .i64 0, Value.int .i64 0]) h ?_
  intro b_1 w h
  refine ⟨by decide, ?_⟩
  refine ⟨by decide, ?_⟩
  refine ⟨by decide, ?_⟩
  refine storeL (ys := [Value.int .u32 3405803777, Value.int .i64 40000, Value.int .i64 40009, Value.int .i64 (Int.tmod (IntKind.wrap .i64 classes) 3), Value.int .i64 (Int.tmod (IntKind.wrap .i64 (Int.tdiv (IntKind.wrap .i64 classes) 3)) 3), Value.int .i64 30, Value.int .i64 12]) h 0 0 rfl rfl rfl sz32 rfl rfl ?_
  intro w h
  dsimp only [setH, setVs, setV] at h
  refine ⟨_, cellL h 0 0 rfl rfl rfl, _, cellL h 0 1 rfl rfl rfl, _, cellL h 0 2 rfl rfl rfl, _, cellL h 0 3 rfl rfl rfl, _, cellL h 0 4 rfl rfl rfl, _, cellL h 0 5 rfl rfl rfl, _, cellL h 0 6 rfl rfl rfl, ?_⟩
  replace h := h.sel [] 1
  dsimp only [pickL, pickR, nthH, delH, dropH, List.cons_append, List.nil_append] at h
  exact hR 3405803777 40000 40009 (Int.tmod (IntKind.wrap .i64 classes) 3) (Int.tmod (IntKind.wrap .i64 (Int.tdiv (IntKind.wrap .i64 classes) 3)) 3) 30 12 _ h hp
def nat_class_wp (n_1 : Int) (K : Bool → Prop) : Prop :=
  cond (decide (n_1 ≥ 0)) (K (decide (n_1 ≤ 2))) (K false)
theorem nat_class_ok {n_1 : Int} {FL : List HP} {w : World} {K : Bool → Prop} {R : Value → World → Prop}
  (h : Mem (FL) w) (hp : nat_class_wp n_1 K)
  (hR : ∀ (r : Bool) (w : World), Mem (FL) w → K r → R (Value.bool r) w) :
  CallV Try.prog 52 #[Value.int .i64 n_1] w R := by
  refine nat_class_call ?_
  unfold nat_class
  unfold nat_class_wp at hp
  refine cond_both hp (fun hp => ?_) (fun hp => ?_)
  · exact hR (decide (n_1 ≤ 2)) _ h hp
  exact hR false _ h hp
def nat_may_wp (b_Host b_Lo b_Hi b_Map b_Filter b_Life b_Most : Int) (K : Bool → Prop) : Prop :=
  joinP1 (fun (ports3 : Bool) => cond (b_Host != 0) (cond ports3 (nat_class_wp b_Map (fun (r : Bool) => cond r (nat_class_wp b_Filter (fun (r_1 : Bool) => cond r_1 (cond (decide (b_Life ≥ 1)) (cond (decide (b_Life ≤ 1099511627776)) (cond (decide (b_Most ≥ 1)) (K (decide (b_Most ≤ 100))) (K false)) (K false)) (K false)) (K false))) (K false))) (K false)) (K false)) (fun (Q : Bool → Prop) => cond (decide (b_Lo ≥ 1)) (cond (decide (b_Lo ≤ b_Hi)) (Q (decide (b_Hi ≤ 65535))) (Q false)) (Q false))
theorem nat_may_ok {b_Host b_Lo b_Hi b_Map b_Filter b_Life b_Most : Int} {FL : List HP} {w : World} {K : Bool → Prop} {R : Value → World → Prop}
  (h : Mem (FL) w) (hp : nat_may_wp b_Host b_Lo b_Hi b_Map b_Filter b_Life b_Most K)
  (hR : ∀ (r : Bool) (w : World), Mem (FL) w → K r → R (Value.bool r) w) :
  CallV Try.prog 22 #[(Value.agg #[Value.int .u32 b_Host, Value.int .i64 b_Lo, Value.int .i64 b_Hi, Value.int .i64 b_Map, Value.int .i64 b_Filter, Value.int .i64 b_Life, Value.int .i64 b_Most])] w R := by
  refine nat_may_call ?_
  unfold nat_may
  unfold nat_may_wp at hp
  refine newL (o := [Value.int .u32 b_Host, Value.int .i64 b_Lo, Value.int .i64 b_Hi, Value.int .i64 b_Map, Value.int .i64 b_Filter, Value.int .i64 b_Life, Value.int .i64 b_Most]) h ?_
  intro b_1 w h
  obtain ⟨Q, hq, hp⟩ := hp
  refine ⟨fun b1 ports3 w => (Addr.mk b_1 0 none) = b1 ∧ Q ports3 ∧ Mem (cel b_1 32 [Value.int .u32 b_Host, Value.int .i64 b_Lo, Value.int .i64 b_Hi, Value.int .i64 b_Map, Value.int .i64 b_Filter, Value.int .i64 b_Life, Value.int .i64 b_Most] :: FL) w, ?_, ?_⟩
  · rintro b1 ports3 w ⟨rfl, hp, h⟩
    replace hp := hq ports3 hp
    unfold nat_may_j1
    refine ⟨_, cellL h 0 0 rfl rfl rfl, ?_⟩
    refine cond_both' hp (fun hp => ?_) (fun hp => ?_)
    · replace h := h.sel [] 1
      dsimp only [pickL, pickR, nthH, delH, dropH, List.cons_append, List.nil_append] at h
      exact hR false _ h hp
    refine cond_both' hp (fun hp => ?_) (fun hp => ?_)
    · replace h := h.sel [] 1
      dsimp only [pickL, pickR, nthH, delH, dropH, List.cons_append, List.nil_append] at h
      exact hR false _ h hp
    refine ⟨_, cellL h 0 3 rfl rfl rfl, ?_⟩
    refine nat_class_ok h hp ?_
    intro r w h hp
    refine ⟨_, rfl, ?_⟩
    refine cond_both' hp (fun hp => ?_) (fun hp => ?_)
    · replace h := h.sel [] 1
      dsimp only [pickL, pickR, nthH, delH, dropH, List.cons_append, List.nil_append] at h
      exact hR false _ h hp
    refine ⟨_, cellL h 0 4 rfl rfl rfl, ?_⟩
    refine nat_class_ok h hp ?_
    intro r_1 w h hp
    refine ⟨_, rfl, ?_⟩
    refine cond_both' hp (fun hp => ?_) (fun hp => ?_)
    · replace h := h.sel [] 1
      dsimp only [pickL, pickR, nthH, delH, dropH, List.cons_append, List.nil_append] at h
      exact hR false _ h hp
    refine ⟨_, cellL h 0 5 rfl rfl rfl, ?_⟩
    refine cond_both' hp (fun hp => ?_) (fun hp => ?_)
    · replace h := h.sel [] 1
      dsimp only [pickL, pickR, nthH, delH, dropH, List.cons_append, List.nil_append] at h
      exact hR false _ h hp
    refine ⟨_, cellL h 0 5 rfl rfl rfl, ?_⟩
    refine cond_both' hp (fun hp => ?_) (fun hp => ?_)
    · replace h := h.sel [] 1
      dsimp only [pickL, pickR, nthH, delH, dropH, List.cons_append, List.nil_append] at h
      exact hR false _ h hp
    refine ⟨_, cellL h 0 6 rfl rfl rfl, ?_⟩
    refine cond_both' hp (fun hp => ?_) (fun hp => ?_)
    · replace h := h.sel [] 1
      dsimp only [pickL, pickR, nthH, delH, dropH, List.cons_append, List.nil_append] at h
      exact hR false _ h hp
    refine ⟨_, cellL h 0 6 rfl rfl rfl, ?_⟩
    replace h := h.sel [] 1
    dsimp only [pickL, pickR, nthH, delH, dropH, List.cons_append, List.nil_append] at h
    exact hR (decide (b_Most ≤ 100)) _ h hp
  clear hq
  refine ⟨_, cellL h 0 1 rfl rfl rfl, ?_⟩
  refine cond_both' hp (fun hp => ?_) (fun hp => ?_)
  · exact ⟨rfl, hp, h⟩
  refine ⟨_, cellL h 0 1 rfl rfl rfl, ?_⟩
  refine ⟨_, cellL h 0 2 rfl rfl rfl, ?_⟩
  refine cond_both' hp (fun hp => ?_) (fun hp => ?_)
  · exact ⟨rfl, hp, h⟩
  refine ⟨_, cellL h 0 2 rfl rfl rfl, ?_⟩
  exact ⟨rfl, hp, h⟩
def nat_New_wp (b_Host b_Lo b_Hi b_Map b_Filter b_Life b_Most : Int) (K : Int → Prop) (KX1 : Int → Int → Int → Int → Int → Int → Int → Int → List (Option Nat) → Int → Prop) : Prop :=
  nat_may_wp b_Host b_Lo b_Hi b_Map b_Filter b_Life b_Most (fun (r : Bool) => cond (!r) (K 1) (KX1 0 b_Host b_Lo b_Hi b_Map b_Filter b_Life b_Most ([] : List (Option Nat)) 0))
theorem nat_New_ok {b_Host b_Lo b_Hi b_Map b_Filter b_Life b_Most : Int} {FL : List HP} {w : World} {K : Int → Prop} {KX1 : Int → Int → Int → Int → Int → Int → Int → Int → List (Option Nat) → Int → Prop} {R : Value → World → Prop}
  (h : Mem (FL) w) (hp : nat_New_wp b_Host b_Lo b_Hi b_Map b_Filter b_Life b_Most K KX1)
  (hR : ∀ (r : Int) (w : World), Mem (FL) w → K r → R (Value.tuple #[Value.pointer none, Value.int .i64 r]) w)
  (hRX1 : ∀ (r box box_1 box_2 box_3 box_4 box_5 box_6 : Int) (list : List (Option Nat)) (now : Int) (b_1 : Nat) (p_1 : Option Addr) (n_1 c_1 : Nat) (w : World), n_1 = list.length → Mem (cel b_1 71 [Value.int .u32 box, Value.int .i64 box_1, Value.int .i64 box_2, Value.int .i64 box_3, Value.int .i64 box_4, Value.int .i64 box_5, Value.int .i64 box_6, Value.slice p_1 n_1 c_1, Value.int .i64 now] :: row enc82 82 1 p_1 c_1 list :: FL) w → KX1 r box box_1 box_2 box_3 box_4 box_5 box_6 list now → R (Value.tuple #[Value.pointer (some (Addr.mk b_1 0 none)), Value.int .i64 r]) w) :
  CallV Try.prog 8 #[(Value.agg #[Value.int .u32 b_Host, Value.int .i64 b_Lo, Value.int .i64 b_Hi, Value.int .i64 b_Map, Value.int .i64 b_Filter, Value.int .i64 b_Life, Value.int .i64 b_Most])] w R := by
  refine nat_New_call ?_
  unfold nat_New
  unfold nat_New_wp at hp
  refine newL (o := [Value.int .u32 b_Host, Value.int .i64 b_Lo, Value.int .i64 b_Hi, Value.int .i64 b_Map, Value.int .i64 b_Filter, Value.int .i64 b_Life, Value.int .i64 b_Most]) h ?_
  intro b_1 w h
  refine ⟨_, cellL h 0 0 rfl rfl rfl, _, cellL h 0 1 rfl rfl rfl, _, cellL h 0 2 rfl rfl rfl, _, cellL h 0 3 rfl rfl rfl, _, cellL h 0 4 rfl rfl rfl, _, cellL h 0 5 rfl rfl rfl, _, cellL h 0 6 rfl rfl rfl, ?_⟩
  refine nat_may_ok h hp ?_
  intro r w h hp
  refine ⟨_, rfl, ?_⟩
  refine cond_both hp (fun hp => ?_) (fun hp => ?_)
  · replace h := h.sel [] 1
    dsimp only [pickL, pickR, nthH, delH, dropH, List.cons_append, List.nil_append] at h
    exact hR 1 _ h hp
  refine ⟨_, cellL h 0 0 rfl rfl rfl, _, cellL h 0 1 rfl rfl rfl, _, cellL h 0 2 rfl rfl rfl, _, cellL h 0 3 rfl rfl rfl, _, cellL h 0 4 rfl rfl rfl, _, cellL h 0 5 rfl rfl rfl, _, cellL h 0 6 rfl rfl rfl, ?_⟩
  refine newL (o := [Value.int .u32 b_Host, Value.int .i64 b_Lo, Value.int .i64 b_Hi, Value.int .i64 b_Map, Value.int .i64 b_Filter, Value.int .i64 b_Life, Value.int .i64 b_Most, Value.slice none 0 0, Value.int .i64 0]) h ?_
  intro b_2 w h
  replace h := rowNil enc82 82 1 h
  replace h := h.sel [1, 0] 1
  dsimp only [pickL, pickR, nthH, delH, dropH, List.cons_append, List.nil_append] at h
  exact hRX1 0 b_Host b_Lo b_Hi b_Map b_Filter b_Life b_Most ([] : List (Option Nat)) 0 b_2 (none ) 0 0 _ rfl h hp
def gate_mayTime_wp (now : Int) (K : Bool → Prop) : Prop :=
  cond (decide (now ≥ 0)) (K (decide (now ≤ 1099511627776))) (K false)
theorem gate_mayTime_ok {now : Int} {FL : List HP} {w : World} {K : Bool → Prop} {R : Value → World → Prop}
  (h : Mem (FL) w) (hp : gate_mayTime_wp now K)
  (hR : ∀ (r : Bool) (w : World), Mem (FL) w → K r → R (Value.bool r) w) :
  CallV Try.prog 23 #[Value.int .i64 now] w R := by
  refine gate_mayTime_call ?_
  unfold gate_mayTime
  unfold gate_mayTime_wp at hp
  refine cond_both hp (fun hp => ?_) (fun hp => ?_)
  · exact hR (decide (now ≤ 1099511627776)) _ h hp
  exact hR false _ h hp
def gate_New_wp (box box_1 box_2 box_3 box_4 box_5 box_6 now : Int) (g_Pmp g_Pcp : Bool) (g_MostSecs now_1 : Int) (K : Int → Prop) (KX1 : Int → Bool → Bool → Int → Int → Int → BYX → Prop) : Prop :=
  joinP1 (fun (t20 : Bool) => cond t20 (K 1) (KX1 0 g_Pmp g_Pcp g_MostSecs now_1 now_1 ([] : BYX))) (fun (Q : Bool → Prop) => cond (decide (g_MostSecs < 1)) (Q true) (cond (decide (g_MostSecs > 4294967295)) (Q true) (gate_mayTime_wp now_1 (fun (r : Bool) => Q (!r)))))
theorem gate_New_ok {b_1 : Nat} {p_1 : Option Addr} {n_1 c_1 : Nat} {box box_1 box_2 box_3 box_4 box_5 box_6 now : Int} {g_Pmp g_Pcp : Bool} {g_MostSecs now_1 : Int} {FL : List HP} {w : World} {K : Int → Prop} {KX1 : Int → Bool → Bool → Int → Int → Int → BYX → Prop} {R : Value → World → Prop}
  (h : Mem (cel b_1 71 [Value.int .u32 box, Value.int .i64 box_1, Value.int .i64 box_2, Value.int .i64 box_3, Value.int .i64 box_4, Value.int .i64 box_5, Value.int .i64 box_6, Value.slice p_1 n_1 c_1, Value.int .i64 now] :: FL) w) (hp : gate_New_wp box box_1 box_2 box_3 box_4 box_5 box_6 now g_Pmp g_Pcp g_MostSecs now_1 K KX1)
  (hR : ∀ (r : Int) (w : World), Mem (cel b_1 71 [Value.int .u32 box, Value.int .i64 box_1, Value.int .i64 box_2, Value.int .i64 box_3, Value.int .i64 box_4, Value.int .i64 box_5, Value.int .i64 box_6, Value.slice p_1 n_1 c_1, Value.int .i64 now] :: FL) w → K r → R (Value.tuple #[Value.pointer none, Value.int .i64 r]) w)
  (hRX1 : ∀ (r : Int) (g_1 g_2 : Bool) (g_3 boot now_2 : Int) (by_ : BYX) (b_2 b_3 : Nat) (p_2 : List MapEntry × Nat) (w : World), Mem (cel b_2 75 [Value.pointer (some (Addr.mk b_1 0 none)), Value.bool g_1, Value.bool g_2, Value.int .i64 g_3, Value.int .i64 boot, Value.int .i64 now_2, Value.map (some b_3)] :: mapQ b_3 va25 va111 p_2 by_ :: cel b_1 71 [Value.int .u32 box, Value.int .i64 box_1, Value.int .i64 box_2, Value.int .i64 box_3, Value.int .i64 box_4, Value.int .i64 box_5, Value.int .i64 box_6, Value.slice p_1 n_1 c_1, Value.int .i64 now] :: FL) w → KX1 r g_1 g_2 g_3 boot now_2 by_ → R (Value.tuple #[Value.pointer (some (Addr.mk b_2 0 none)), Value.int .i64 r]) w) :
  CallV Try.prog 10 #[Value.pointer (some (Addr.mk b_1 0 none)), (Value.agg #[Value.bool g_Pmp, Value.bool g_Pcp, Value.int .i64 g_MostSecs]), Value.int .i64 now_1] w R := by
  refine gate_New_call ?_
  unfold gate_New
  unfold gate_New_wp at hp
  refine newL (o := [Value.bool g_Pmp, Value.bool g_Pcp, Value.int .i64 g_MostSecs]) h ?_
  intro b_2 w h
  obtain ⟨Q, hq, hp⟩ := hp
  refine ⟨fun n0 now2 g4 t20 w => (some (Addr.mk b_1 0 none)) = n0 ∧ now_1 = now2 ∧ (Addr.mk b_2 0 none) = g4 ∧ Q t20 ∧ Mem (cel b_2 38 [Value.bool g_Pmp, Value.bool g_Pcp, Value.int .i64 g_MostSecs] :: cel b_1 71 [Value.int .u32 box, Value.int .i64 box_1, Value.int .i64 box_2, Value.int .i64 box_3, Value.int .i64 box_4, Value.int .i64 box_5, Value.int .i64 box_6, Value.slice p_1 n_1 c_1, Value.int .i64 now] :: FL) w, ?_, ?_⟩
  · rintro n0 now2 g4 t20 w ⟨rfl, rfl, rfl, hp, h⟩
    replace hp := hq t20 hp
    unfold gate_New_j1
    refine cond_both hp (fun hp => ?_) (fun hp => ?_)
    · replace h := h.sel [1] 1
      dsimp only [pickL, pickR, nthH, delH, dropH, List.cons_append, List.nil_append] at h
      exact hR 1 _ h hp
    refine ⟨_, cellL h 0 0 rfl rfl rfl, _, cellL h 0 1 rfl rfl rfl, _, cellL h 0 2 rfl rfl rfl, ?_⟩
    refine makeMapL (ek := va25) (ev := va111) h ?_
    intro b_3 p_2 w h
    refine ⟨_, rfl, ?_⟩
    refine newL (o := [Value.pointer (some (Addr.mk b_1 0 none)), Value.bool g_Pmp, Value.bool g_Pcp, Value.int .i64 g_MostSecs, Value.int .i64 now_1, Value.int .i64 now_1, Value.map (some b_3)]) h ?_
    intro b_4 w h
    replace h := h.sel [0, 0, 1] 1
    dsimp only [pickL, pickR, nthH, delH, dropH, List.cons_append, List.nil_append] at h
    exact hRX1 0 g_Pmp g_Pcp g_MostSecs now_1 now_1 ([] : BYX) b_4 b_3 p_2 _ h hp
  clear hq
  refine ⟨_, cellL h 0 2 rfl rfl rfl, ?_⟩
  refine cond_both hp (fun hp => ?_) (fun hp => ?_)
  · exact ⟨rfl, rfl, rfl, hp, h⟩
  refine ⟨_, cellL h 0 2 rfl rfl rfl, ?_⟩
  refine cond_both hp (fun hp => ?_) (fun hp => ?_)
  · exact ⟨rfl, rfl, rfl, hp, h⟩
  refine gate_mayTime_ok h hp ?_
  intro r w h hp
  refine ⟨_, rfl, ?_⟩
  exact ⟨rfl, rfl, rfl, hp, h⟩
def addr_May_wp (a_Host a_Port : Int) (K : Bool → Prop) : Prop :=
  cond (a_Host != 0) (cond (decide (a_Port ≥ 1)) (K (decide (a_Port ≤ 65535))) (K false)) (K false)
theorem addr_May_ok {a_Host a_Port : Int} {FL : List HP} {w : World} {K : Bool → Prop} {R : Value → World → Prop}
  (h : Mem (FL) w) (hp : addr_May_wp a_Host a_Port K)
  (hR : ∀ (r : Bool) (w : World), Mem (FL) w → K r → R (Value.bool r) w) :
  CallV Try.prog 27 #[(Value.agg #[Value.int .u32 a_Host, Value.int .i64 a_Port])] w R := by
  refine addr_May_call ?_
  unfold addr_May
  unfold addr_May_wp at hp
  refine newL (o := [Value.int .u32 a_Host, Value.int .i64 a_Port]) h ?_
  intro b_1 w h
  refine ⟨_, cellL h 0 0 rfl rfl rfl, ?_⟩
  refine cond_both' hp (fun hp => ?_) (fun hp => ?_)
  · replace h := h.sel [] 1
    dsimp only [pickL, pickR, nthH, delH, dropH, List.cons_append, List.nil_append] at h
    exact hR false _ h hp
  refine ⟨_, cellL h 0 1 rfl rfl rfl, ?_⟩
  refine cond_both' hp (fun hp => ?_) (fun hp => ?_)
  · replace h := h.sel [] 1
    dsimp only [pickL, pickR, nthH, delH, dropH, List.cons_append, List.nil_append] at h
    exact hR false _ h hp
  refine ⟨_, cellL h 0 1 rfl rfl rfl, ?_⟩
  replace h := h.sel [] 1
  dsimp only [pickL, pickR, nthH, delH, dropH, List.cons_append, List.nil_append] at h
  exact hR (decide (a_Port ≤ 65535)) _ h hp
def gG_Epoch_wp (box box_1 box_2 box_3 box_4 box_5 box_6 now : Int) (g_1 g_2 : Bool) (g_3 boot now_1 : Int) (by_ : BYX) (now_2 : Int) (K : Int → Prop) : Prop :=
  K (if (4294967295 : Int) < (if (0 : Int) > (IntKind.wrap .i64 (now_2 - boot)) then 0 else (IntKind.wrap .i64 (now_2 - boot))) then 4294967295 else (if (0 : Int) > (IntKind.wrap .i64 (now_2 - boot)) then 0 else (IntKind.wrap .i64 (now_2 - boot))))
theorem gG_Epoch_ok {b_1 b_2 : Nat} {p_1 : Option Addr} {n_1 c_1 b_3 : Nat} {p_2 : List MapEntry × Nat} {box box_1 box_2 box_3 box_4 box_5 box_6 now : Int} {g_1 g_2 : Bool} {g_3 boot now_1 : Int} {by_ : BYX} {now_2 : Int} {FL : List HP} {w : World} {K : Int → Prop} {R : Value → World → Prop}
  (hM_by_ : RoM FL b_3 va25 va111 p_2 by_)
  (h : Mem (cel b_1 75 [Value.pointer (some (Addr.mk b_2 0 none)), Value.bool g_1, Value.bool g_2, Value.int .i64 g_3, Value.int .i64 boot, Value.int .i64 now_1, Value.map (some b_3)] :: cel b_2 71 [Value.int .u32 box, Value.int .i64 box_1, Value.int .i64 box_2, Value.int .i64 box_3, Value.int .i64 box_4, Value.int .i64 box_5, Value.int .i64 box_6, Value.slice p_1 n_1 c_1, Value.int .i64 now] :: FL) w) (hp : gG_Epoch_wp box box_1 box_2 box_3 box_4 box_5 box_6 now g_1 g_2 g_3 boot now_1 by_ now_2 K)
  (hR : ∀ (r : Int) (w : World), Mem (cel b_1 75 [Value.pointer (some (Addr.mk b_2 0 none)), Value.bool g_1, Value.bool g_2, Value.int .i64 g_3, Value.int .i64 boot, Value.int .i64 now_1, Value.map (some b_3)] :: cel b_2 71 [Value.int .u32 box, Value.int .i64 box_1, Value.int .i64 box_2, Value.int .i64 box_3, Value.int .i64 box_4, Value.int .i64 box_5, Value.int .i64 box_6, Value.slice p_1 n_1 c_1, Value.int .i64 now] :: FL) w → K r → R (Value.int .i64 r) w) :
  CallV Try.prog 21 #[Value.pointer (some (Addr.mk b_1 0 none)), Value.int .i64 now_2] w R := by
  refine gG_Epoch_call ?_
  unfold gG_Epoch
  unfold gG_Epoch_wp at hp
  refine ⟨_, rfl, ?_⟩
  refine ⟨_, cellL h 0 4 rfl rfl rfl, ?_⟩
  exact hR (if (4294967295 : Int) < (if (0 : Int) > (IntKind.wrap .i64 (now_2 - boot)) then 0 else (IntKind.wrap .i64 (now_2 - boot))) then 4294967295 else (if (0 : Int) > (IntKind.wrap .i64 (now_2 - boot)) then 0 else (IntKind.wrap .i64 (now_2 - boot)))) _ h hp
def pcp_fits_wp (l_Ver l_Inside l_Port l_Secs l_Nonce l_Result l_Epoch l_Host : Int) (K : Bool → Prop) : Prop :=
  joinP1 (fun (ports3 : Bool) => cond (l_Ver == 2) (cond ports3 (cond (decide (l_Secs ≥ 0)) (cond (decide (l_Secs ≤ 4294967295)) (cond (decide (l_Epoch ≥ 0)) (cond (decide (l_Epoch ≤ 4294967295)) (cond (decide (l_Result ≥ 0)) (K (decide (l_Result ≤ 255))) (K false)) (K false)) (K false)) (K false)) (K false)) (K false)) (K false)) (fun (Q : Bool → Prop) => cond (decide (l_Inside ≥ 0)) (cond (decide (l_Inside ≤ 65535)) (cond (decide (l_Port ≥ 0)) (Q (decide (l_Port ≤ 65535))) (Q false)) (Q false)) (Q false))
theorem pcp_fits_ok {l_Ver l_Inside l_Port l_Secs l_Nonce l_Result l_Epoch l_Host : Int} {FL : List HP} {w : World} {K : Bool → Prop} {R : Value → World → Prop}
  (h : Mem (FL) w) (hp : pcp_fits_wp l_Ver l_Inside l_Port l_Secs l_Nonce l_Result l_Epoch l_Host K)
  (hR : ∀ (r : Bool) (w : World), Mem (FL) w → K r → R (Value.bool r) w) :
  CallV Try.prog 41 #[(Value.agg #[Value.int .i64 l_Ver, Value.int .i64 l_Inside, Value.int .i64 l_Port, Value.int .i64 l_Secs, Value.int .u64 l_Nonce, Value.int .i64 l_Result, Value.int .i64 l_Epoch, Value.int .u32 l_Host])] w R := by
  refine pcp_fits_call ?_
  unfold pcp_fits
  unfold pcp_fits_wp at hp
  refine newL (o := [Value.int .i64 l_Ver, Value.int .i64 l_Inside, Value.int .i64 l_Port, Value.int .i64 l_Secs, Value.int .u64 l_Nonce, Value.int .i64 l_Result, Value.int .i64 l_Epoch, Value.int .u32 l_Host]) h ?_
  intro b_1 w h
  obtain ⟨Q, hq, hp⟩ := hp
  refine ⟨fun l1 ports3 w => (Addr.mk b_1 0 none) = l1 ∧ Q ports3 ∧ Mem (cel b_1 41 [Value.int .i64 l_Ver, Value.int .i64 l_Inside, Value.int .i64 l_Port, Value.int .i64 l_Secs, Value.int .u64 l_Nonce, Value.int .i64 l_Result, Value.int .i64 l_Epoch, Value.int .u32 l_Host] :: FL) w, ?_, ?_⟩
  · rintro l1 ports3 w ⟨rfl, hp, h⟩
    replace hp := hq ports3 hp
    unfold pcp_fits_j1
    refine ⟨_, cellL h 0 0 rfl rfl rfl, ?_⟩
    refine cond_both' hp (fun hp => ?_) (fun hp => ?_)
    · replace h := h.sel [] 1
      dsimp only [pickL, pickR, nthH, delH, dropH, List.cons_append, List.nil_append] at h
      exact hR false _ h hp
    refine cond_both' hp (fun hp => ?_) (fun hp => ?_)
    · replace h := h.sel [] 1
      dsimp only [pickL, pickR, nthH, delH, dropH, List.cons_append, List.nil_append] at h
      exact hR false _ h hp
    refine ⟨_, cellL h 0 3 rfl rfl rfl, ?_⟩
    refine cond_both' hp (fun hp => ?_) (fun hp => ?_)
    · replace h := h.sel [] 1
      dsimp only [pickL, pickR, nthH, delH, dropH, List.cons_append, List.nil_append] at h
      exact hR false _ h hp
    refine ⟨_, cellL h 0 3 rfl rfl rfl, ?_⟩
    refine cond_both' hp (fun hp => ?_) (fun hp => ?_)
    · replace h := h.sel [] 1
      dsimp only [pickL, pickR, nthH, delH, dropH, List.cons_append, List.nil_append] at h
      exact hR false _ h hp
    refine ⟨_, cellL h 0 6 rfl rfl rfl, ?_⟩
    refine cond_both' hp (fun hp => ?_) (fun hp => ?_)
    · replace h := h.sel [] 1
      dsimp only [pickL, pickR, nthH, delH, dropH, List.cons_append, List.nil_append] at h
      exact hR false _ h hp
    refine ⟨_, cellL h 0 6 rfl rfl rfl, ?_⟩
    refine cond_both' hp (fun hp => ?_) (fun hp => ?_)
    · replace h := h.sel [] 1
      dsimp only [pickL, pickR, nthH, delH, dropH, List.cons_append, List.nil_append] at h
      exact hR false _ h hp
    refine ⟨_, cellL h 0 5 rfl rfl rfl, ?_⟩
    refine cond_both' hp (fun hp => ?_) (fun hp => ?_)
    · replace h := h.sel [] 1
      dsimp only [pickL, pickR, nthH, delH, dropH, List.cons_append, List.nil_append] at h
      exact hR false _ h hp
    refine ⟨_, cellL h 0 5 rfl rfl rfl, ?_⟩
    replace h := h.sel [] 1
    dsimp only [pickL, pickR, nthH, delH, dropH, List.cons_append, List.nil_append] at h
    exact hR (decide (l_Result ≤ 255)) _ h hp
  clear hq
  refine ⟨_, cellL h 0 1 rfl rfl rfl, ?_⟩
  refine cond_both' hp (fun hp => ?_) (fun hp => ?_)
  · exact ⟨rfl, hp, h⟩
  refine ⟨_, cellL h 0 1 rfl rfl rfl, ?_⟩
  refine cond_both' hp (fun hp => ?_) (fun hp => ?_)
  · exact ⟨rfl, hp, h⟩
  refine ⟨_, cellL h 0 2 rfl rfl rfl, ?_⟩
  refine cond_both' hp (fun hp => ?_) (fun hp => ?_)
  · exact ⟨rfl, hp, h⟩
  refine ⟨_, cellL h 0 2 rfl rfl rfl, ?_⟩
  exact ⟨rfl, hp, h⟩
def pcp_big_wp (v n_1 : Int) (K : List (Int) → Prop) : Prop :=
  0 ≤ n_1 ∧ n_1 ≤ n_1 ∧ (n_1 : Int) ≤ 140737488355328 ∧ ((1 : Nat) : Int) * n_1 ≤ 140737488355328 ∧ (∃ (I : Nat → List (Int) → Int → Prop), (∃ (n_4 : Nat), I n_4 (List.replicate (Int.toNat n_1) 0) 0) ∧ ∀ (n_2 : Nat) (out : List (Int)) (t10 : Int), I n_2 out t10 → (cond (decide (t10 < n_1)) (0 ≤ ((IntKind.wrap .i64 (8 * t10)) : Int) ∧ (0 ≤ ((IntKind.wrap .i64 ((IntKind.wrap .i64 (n_1 - 1)) - t10)) : Int) ∧ ((IntKind.wrap .i64 ((IntKind.wrap .i64 (n_1 - 1)) - t10)) : Int) < (((Int.toNat n_1) : Nat) : Int) ∧ (∃ (n_3 : Nat), n_3 < n_2 ∧ I n_3 (List.set out (Int.toNat (IntKind.wrap .i64 ((IntKind.wrap .i64 (n_1 - 1)) - t10))) (IntKind.wrap .u8 (Int.fdiv v (2 ^ (min (Int.toNat (IntKind.wrap .i64 (8 * t10))) (IntKind.bits .u64)))))) (IntKind.wrap .i64 (t10 + 1))))) (K out)))
theorem pcp_big_ok {v n_1 : Int} {FL : List HP} {w : World} {K : List (Int) → Prop} {R : Value → World → Prop}
  (h : Mem (FL) w) (hp : pcp_big_wp v n_1 K)
  (hR : ∀ (rs : List (Int)) (p_1 : Option Addr) (n_2 c_1 : Nat) (w : World), n_2 = rs.length → Mem (row enc5 5 1 p_1 c_1 rs :: FL) w → K rs → R (Value.slice p_1 n_2 c_1) w) :
  CallV Try.prog 43 #[Value.int .u64 v, Value.int .i64 n_1] w R := by
  refine pcp_big_call ?_
  unfold pcp_big
  unfold pcp_big_wp at hp
  obtain ⟨g_1a, g_1b, g_1d, g_1e, hp⟩ := hp
  refine ⟨g_1a, g_1b, g_1d, g_1e, ?_⟩
  have g_1c : 0 ≤ (n_1 : Int) := Int.le_trans g_1a g_1b
  refine makeL (x0 := 0) (T := 5) h encL5 rfl (natLe2 g_1a g_1c g_1b) ?_
  intro b_1 w h
  obtain ⟨I, ⟨n_4, h0⟩, hq⟩ := hp
  refine ⟨fun n_2 v0 n1 out5p out5l out5c t9 t10 w => ∃ (out : List (Int)), v = v0 ∧ n_1 = n1 ∧ (some ⟨b_1, 0, none⟩) = out5p ∧ (Int.toNat n_1) = out5l ∧ (Int.toNat n_1) = out5c ∧ n_1 = t9 ∧ (Int.toNat n_1) = out.length ∧ I n_2 out t10 ∧ Mem (row enc5 5 1 (some ⟨b_1, 0, none⟩) (Int.toNat n_1) out :: FL) w, ⟨n_4, (List.replicate (Int.toNat n_1) 0), rfl, rfl, rfl, rfl, rfl, rfl, (List.length_replicate).symm, h0, h⟩, ?_⟩
  clear h0 h
  rintro n_2 v0 n1 out5p out5l out5c t9 t10 w ⟨out, rfl, rfl, rfl, rfl, rfl, rfl, hl_out, hp, h⟩
  replace hp := hq n_2 out t10 hp
  clear hq
  unfold pcp_big_l1
  refine cond_both' hp (fun hp => ?_) (fun hp => ?_)
  · exact hR out (some ⟨b_1, 0, none⟩) (Int.toNat n_1) (Int.toNat n_1) _ hl_out h hp
  refine ⟨hp.1, ?_⟩
  replace hp := hp.2
  obtain ⟨ia_1, ja_1, hp⟩ := hp
  obtain ⟨a_1, ha_1⟩ := rdAddr (rowRd h 0 encL5 rfl) hl_out ia_1 ja_1
  refine ⟨a_1, ha_1, ia_1, ja_1, ?_⟩
  refine rowSetW (ys := [Value.int .u8 (IntKind.wrap .u8 (Int.fdiv v (2 ^ (min (Int.toNat (IntKind.wrap .i64 (8 * t10))) (IntKind.bits .u64)))))]) (x := (IntKind.wrap .u8 (Int.fdiv v (2 ^ (min (Int.toNat (IntKind.wrap .i64 (8 * t10))) (IntKind.bits .u64)))))) h 0 encL5 rfl ha_1 hl_out ia_1 ja_1 sz5 rfl rfl rfl ?_
  intro w h
  dsimp only [setH, setVs, setV] at h
  obtain ⟨n_3, hn, hp⟩ := hp
  exact ⟨n_3, hn, (List.set out (Int.toNat (IntKind.wrap .i64 ((IntKind.wrap .i64 (n_1 - 1)) - t10))) (IntKind.wrap .u8 (Int.fdiv v (2 ^ (min (Int.toNat (IntKind.wrap .i64 (8 * t10))) (IntKind.bits .u64)))))), rfl, rfl, rfl, rfl, rfl, rfl, (lenSet hl_out), hp, h⟩
def sGrowY_wp (n_1 : Int) (K : List (Int) → Prop) : Prop :=
  cond (decide (n_1 < 0)) (False) (cond (decide (((IntKind.wrap .i64 (n_1 - (IntKind.wrap .i64 (((0 : Nat) : Int) - ((0 : Nat) : Int))))) : Int) > 0)) (0 ≤ (((0 : Nat) : Int) : Int) ∧ (((0 : Nat) : Int) : Int) ≤ ((0 : Nat) : Int) ∧ (0 ≤ ((IntKind.wrap .i64 (n_1 - (IntKind.wrap .i64 (((0 : Nat) : Int) - ((0 : Nat) : Int))))) : Int) ∧ (([] : List (Int)).length + Int.toNat (IntKind.wrap .i64 (n_1 - (IntKind.wrap .i64 (((0 : Nat) : Int) - ((0 : Nat) : Int)))))) * 1 ≤ 140737488355328 ∧ (0 ≤ (((0 : Nat) : Int) : Int) ∧ (((0 : Nat) : Int) : Int) ≤ (((([] : List (Int)) ++ List.replicate (Int.toNat (IntKind.wrap .i64 (n_1 - (IntKind.wrap .i64 (((0 : Nat) : Int) - ((0 : Nat) : Int)))))) 0).length : Nat) : Int) ∧ (K (((([] : List (Int)) ++ List.replicate (Int.toNat (IntKind.wrap .i64 (n_1 - (IntKind.wrap .i64 (((0 : Nat) : Int) - ((0 : Nat) : Int)))))) 0).take (Int.toNat ((0 : Nat) : Int))).drop 0))))) (K ([] : List (Int))))
theorem sGrowY_ok {n_1 : Int} {FL : List HP} {w : World} {K : List (Int) → Prop} {R : Value → World → Prop}
  (h : Mem (FL) w) (hp : sGrowY_wp n_1 K)
  (hR : ∀ (rs : List (Int)) (p_1 : Option Addr) (n_2 c_1 : Nat) (w : World), n_2 = rs.length → Mem (row enc5 5 1 p_1 c_1 rs :: FL) w → K rs → R (Value.slice p_1 n_2 c_1) w) :
  CallV Try.prog 85 #[Value.slice none 0 0, Value.int .i64 n_1] w R := by
  refine sGrowY_call ?_
  unfold sGrowY
  unfold sGrowY_wp at hp
  refine cond_both hp (fun hp => ?_) (fun hp => ?_)
  · exact hp.elim
  refine capL und22 ?_
  refine ⟨_, rfl, ?_⟩
  refine cond_both' hp (fun hp => ?_) (fun hp => ?_)
  · replace h := rowNil enc5 5 1 h
    exact hR ([] : List (Int)) (none  ) 0 0 _ rfl h hp
  refine capL und22 ?_
  refine ⟨_, rfl, ?_⟩
  obtain ⟨g_1a, g_1b, hp⟩ := hp
  refine ⟨g_1a, g_1b, ?_⟩
  replace h := rowNil enc5 5 1 h
  obtain ⟨za, zb, hp⟩ := hp
  refine appendZ (x0 := 0) slt22 undn3 encL5 encO5 rfl h 0 rfl rfl (by decide) za zb ?_
  intro p_2 c_1 w h
  dsimp only [setH, setVs, setV] at h
  have cpp_2 := rowCap h 0 rfl
  refine ⟨_, _, _, rfl, ?_⟩
  obtain ⟨g_2ha, g_2hb, hp⟩ := hp
  have vg_2_lh : 0 ≤ (Int.toNat ((0 : Nat) : Int)) := (Nat.zero_le _)
  have vg_2_hm : (Int.toNat ((0 : Nat) : Int)) ≤ c_1 := (Nat.le_trans (natLe g_2ha g_2hb) cpp_2)
  have vg_2_mc : c_1 ≤ c_1 := (Nat.le_refl _)
  have vg_2_hl : (Int.toNat ((0 : Nat) : Int)) ≤ (([] : List (Int)) ++ List.replicate (Int.toNat (IntKind.wrap .i64 (n_1 - (IntKind.wrap .i64 (((0 : Nat) : Int) - ((0 : Nat) : Int)))))) 0).length := (leLen g_2ha g_2hb rfl)
  refine ⟨g_2ha, (leCap g_2hb cpp_2), ?_⟩
  replace h := rowShrink h 0 encL5 rfl (l := 0) (hi := (Int.toNat ((0 : Nat) : Int))) (m := c_1) vg_2_lh vg_2_hm vg_2_mc vg_2_hl
  dsimp only [setH, setVs, setV] at h
  exact hR (((([] : List (Int)) ++ List.replicate (Int.toNat (IntKind.wrap .i64 (n_1 - (IntKind.wrap .i64 (((0 : Nat) : Int) - ((0 : Nat) : Int)))))) 0).take (Int.toNat ((0 : Nat) : Int))).drop 0) (slAddr p_2 1 0 c_1) ((Int.toNat ((0 : Nat) : Int)) - 0) (c_1 - 0) _ (viewLen vg_2_hl) h hp
def sCatY_wp (slices : List ((List (Int)))) (K : List (Int) → Prop) : Prop :=
  joinP1 (fun (size3 : Int) => sGrowY_wp size3 (fun (rs : List (Int)) => ∃ (I_1 : Nat → List (Int) → Int → Prop), (∃ (n_8 : Nat), I_1 n_8 rs 0) ∧ ∀ (n_6 : Nat) (newslice : List (Int)) (t27 : Int), I_1 n_6 newslice t27 → (cond (decide (t27 < ((slices.length : Nat) : Int))) (0 ≤ t27 ∧ (t27 : Int) < ((slices.length : Nat) : Int) ∧ (∀ (x_2 : (List (Int))), slices[Int.toNat t27]? = some x_2 → ((newslice.length + x_2.length) * 1 ≤ 140737488355328 ∧ (∃ (n_7 : Nat), n_7 < n_6 ∧ I_1 n_7 (newslice ++ x_2) (IntKind.wrap .i64 (t27 + 1)))))) (K newslice)))) (fun (Q : Int → Prop) => ∃ (I : Nat → Int → Int → Prop), (∃ (n_4 : Nat), I n_4 0 0) ∧ ∀ (n_2 : Nat) (size3_1 t11 : Int), I n_2 size3_1 t11 → (cond (decide (t11 < ((slices.length : Nat) : Int))) (0 ≤ t11 ∧ (t11 : Int) < ((slices.length : Nat) : Int) ∧ (∀ (x_1 : (List (Int))), slices[Int.toNat t11]? = some x_1 → (cond (decide (((IntKind.wrap .i64 (size3_1 + ((x_1.length : Nat) : Int))) : Int) < 0)) (False) (∃ (n_3 : Nat), n_3 < n_2 ∧ I n_3 (IntKind.wrap .i64 (size3_1 + ((x_1.length : Nat) : Int))) (IntKind.wrap .i64 (t11 + 1)))))) (Q size3_1)))
theorem sCatY_ok {p_1 : Option Addr} {n_1 c_1 : Nat} {slices : List ((List (Int)))} {FL : List HP} {w : World} {K : List (Int) → Prop} {R : Value → World → Prop}
  (hF_slices : ∀ w, Mem FL w → RdD w 1 p_1 (encR22 FL) slices) (hl_slices : n_1 = slices.length) (hc_slices : n_1 ≤ c_1)
  (h : Mem (FL) w) (hp : sCatY_wp slices K)
  (hR : ∀ (rs : List (Int)) (p_2 : Option Addr) (n_2 c_2 : Nat) (w : World), n_2 = rs.length → Mem (row enc5 5 1 p_2 c_2 rs :: FL) w → K rs → R (Value.slice p_2 n_2 c_2) w) :
  CallV Try.prog 65 #[Value.slice p_1 n_1 c_1] w R := by
  refine sCatY_call ?_
  unfold sCatY
  unfold sCatY_wp at hp
  subst hl_slices
  obtain ⟨Q, hq, hp⟩ := hp
  refine ⟨fun slices0p slices0l slices0c size3 w => p_1 = slices0p ∧ slices.length = slices0l ∧ c_1 = slices0c ∧ Q size3 ∧ Mem (FL) w, ?_, ?_⟩
  · rintro slices0p slices0l slices0c size3 w ⟨rfl, rfl, rfl, hp, h⟩
    replace hp := hq size3 hp
    unfold sCatY_j1
    refine sGrowY_ok h hp ?_
    rintro rs p_2 n_5 c_2 w rfl h hp
    have cpp_2 := rowCap h 0 rfl
    refine ⟨_, _, _, rfl, ?_⟩
    obtain ⟨I_1, ⟨n_8, h0⟩, hq⟩ := hp
    refine ⟨fun n_6 newslice6p newslice6l newslice6c t25p t25l t25c t26 t27 w => ∃ (newslice : List (Int)), p_1 = t25p ∧ slices.length = t25l ∧ c_1 = t25c ∧ ((slices.length : Nat) : Int) = t26 ∧ newslice6l = newslice.length ∧ I_1 n_6 newslice t27 ∧ Mem (row enc5 5 1 newslice6p newslice6c newslice :: FL) w, ⟨n_8, rs, rfl, rfl, rfl, rfl, rfl, h0, h⟩, ?_⟩
    clear h0 h
    rintro n_6 newslice6p newslice6l newslice6c t25p t25l t25c t26 t27 w ⟨newslice, rfl, rfl, rfl, rfl, rfl, hp, h⟩
    replace hp := hq n_6 newslice t27 hp
    clear hq
    unfold sCatY_l2
    have cpnewslice6p := rowCap h 0 rfl
    refine cond_both' hp (fun hp => ?_) (fun hp => ?_)
    · exact hR newslice newslice6p newslice.length newslice6c _ rfl h hp
    obtain ⟨ia_2, ja_2, hp⟩ := hp
    obtain ⟨a_2, ha_2⟩ := rdAddrD (hF_slices _ (h.drop 1)) rfl ia_2 ja_2
    refine ⟨a_2, ha_2, ia_2, ja_2, ?_⟩
    obtain ⟨x_2, hx_2, cs, hR, hc0, hc1, hc2⟩ := rdCellD (hF_slices _ (h.drop 1)) ha_2 rfl ia_2 ja_2
    replace hp := hp x_2 hx_2
    obtain ⟨q_1p0, q_1n0, q_1c0, rfl, rfl, hc_q_1p0, hF_q_1p0⟩ := hR
    refine ⟨_, _, _, hc0 _ rfl, ?_⟩
    have sr := (hF_q_1p0 _ (h.drop 1))
    obtain ⟨hb, hp⟩ := hp
    refine appendL slt22 und22 encL5 encO5 h 0 rfl rfl sr rfl hb ?_
    intro p_3 c_3 w h
    dsimp only [setH, setVs, setV] at h
    have cpp_3 := rowCap h 0 rfl
    refine ⟨_, _, _, rfl, ?_⟩
    obtain ⟨n_7, hn, hp⟩ := hp
    exact ⟨n_7, hn, (newslice ++ x_2), rfl, rfl, rfl, rfl, rfl, hp, h⟩
  clear hq
  obtain ⟨I, ⟨n_4, h0⟩, hq⟩ := hp
  refine ⟨fun n_2 slices0_1p slices0_1l slices0_1c size3_1 t9p t9l t9c t10 t11 w => p_1 = slices0_1p ∧ slices.length = slices0_1l ∧ c_1 = slices0_1c ∧ p_1 = t9p ∧ slices.length = t9l ∧ c_1 = t9c ∧ ((slices.length : Nat) : Int) = t10 ∧ I n_2 size3_1 t11 ∧ Mem (FL) w, ⟨n_4, rfl, rfl, rfl, rfl, rfl, rfl, rfl, h0, h⟩, ?_⟩
  clear h0 h
  rintro n_2 slices0_1p slices0_1l slices0_1c size3_1 t9p t9l t9c t10 t11 w ⟨rfl, rfl, rfl, rfl, rfl, rfl, rfl, hp, h⟩
  replace hp := hq n_2 size3_1 t11 hp
  clear hq
  unfold sCatY_l3
  refine cond_both' hp (fun hp => ?_) (fun hp => ?_)
  · exact ⟨rfl, rfl, rfl, hp, h⟩
  obtain ⟨ia_1, ja_1, hp⟩ := hp
  obtain ⟨a_1, ha_1⟩ := rdAddrD (hF_slices _ (h.drop 0)) rfl ia_1 ja_1
  refine ⟨a_1, ha_1, ia_1, ja_1, ?_⟩
  obtain ⟨x_1, hx_1, cs, hR, hc0, hc1, hc2⟩ := rdCellD (hF_slices _ (h.drop 0)) ha_1 rfl ia_1 ja_1
  replace hp := hp x_1 hx_1
  obtain ⟨qp0, qn0, qc0, rfl, rfl, hc_qp0, hF_qp0⟩ := hR
  refine ⟨_, _, _, hc0 _ rfl, ?_⟩
  refine cond_both hp (fun hp => ?_) (fun hp => ?_)
  · exact hp.elim
  obtain ⟨n_3, hn, hp⟩ := hp
  exact ⟨n_3, hn, rfl, rfl, rfl, rfl, rfl, rfl, rfl, hp, h⟩
def pcp_host16_wp (h_1 : Int) (K : List (Int) → Prop) : Prop :=
  (0 ≤ (10 : Int) ∧ 10 ≤ (10 : Int) ∧ (10 : Int) ≤ 140737488355328 ∧ ((1 : Nat) : Int) * 10 ≤ 140737488355328 ∧ ((pcp_big_wp (IntKind.wrap .u64 h_1) 4 (fun (rs : List (Int)) => sCatY_wp [(List.replicate (Int.toNat 10) 0), [255, 255], rs] (fun (rs_1 : List (Int)) => K rs_1))) ∧ (pcp_big_wp (IntKind.wrap .u64 h_1) 4 (fun (rs_2 : List (Int)) => sCatY_wp [(List.replicate (Int.toNat 10) 0), [255, 255], rs_2] (fun (rs_3 : List (Int)) => K rs_3))))) ∧ ((0 ≤ (10 : Int) ∧ 10 ≤ (10 : Int) ∧ (10 : Int) ≤ 140737488355328 ∧ ((1 : Nat) : Int) * 10 ≤ 140737488355328 ∧ (pcp_big_wp (IntKind.wrap .u64 h_1) 4 (fun (rs_4 : List (Int)) => sCatY_wp [(List.replicate (Int.toNat 10) 0), [255, 255], rs_4] (fun (rs_5 : List (Int)) => K rs_5)))) ∧ (pcp_big_wp (IntKind.wrap .u64 h_1) 4 (fun (rs_6 : List (Int)) => 0 ≤ (10 : Int) ∧ 10 ≤ (10 : Int) ∧ (10 : Int) ≤ 140737488355328 ∧ ((1 : Nat) : Int) * 10 ≤ 140737488355328 ∧ (sCatY_wp [(List.replicate (Int.toNat 10) 0), [255, 255], rs_6] (fun (rs_7 : List (Int)) => K rs_7))))) ∧ (pcp_big_wp (IntKind.wrap .u64 h_1) 4 (fun (rs_8 : List (Int)) => (0 ≤ (10 : Int) ∧ 10 ≤ (10 : Int) ∧ (10 : Int) ≤ 140737488355328 ∧ ((1 : Nat) : Int) * 10 ≤ 140737488355328 ∧ (sCatY_wp [(List.replicate (Int.toNat 10) 0), [255, 255], rs_8] (fun (rs_9 : List (Int)) => K rs_9))) ∧ (0 ≤ (10 : Int) ∧ 10 ≤ (10 : Int) ∧ (10 : Int) ≤ 140737488355328 ∧ ((1 : Nat) : Int) * 10 ≤ 140737488355328 ∧ (sCatY_wp [(List.replicate (Int.toNat 10) 0), [255, 255], rs_8] (fun (rs_10 : List (Int)) => K rs_10)))))
theorem pcp_host16_ok {h_1 : Int} {FL : List HP} {w : World} {K : List (Int) → Prop} {R : Value → World → Prop}
  (h : Mem (FL) w) (hp : pcp_host16_wp h_1 K)
  (hR : ∀ (rs : List (Int)) (p_1 : Option Addr) (n_1 c_1 : Nat) (w : World), n_1 = rs.length → Mem (row enc5 5 1 p_1 c_1 rs :: FL) w → K rs → R (Value.slice p_1 n_1 c_1) w) :
  CallV Try.prog 44 #[Value.int .u32 h_1] w R := by
  refine pcp_host16_call ?_
  unfold pcp_host16
  unfold pcp_host16_wp at hp
  replace h := h.drew
  refine ⟨?_, ?_⟩
  · replace hp := hp.1
    obtain ⟨g_1a, g_1b, g_1d, g_1e, hp⟩ := hp
    refine ⟨g_1a, g_1b, g_1d, g_1e, ?_⟩
    have g_1c : 0 ≤ (10 : Int) := Int.le_trans g_1a g_1b
    refine makeL (x0 := 0) (T := 5) h encL5 rfl (natLe2 g_1a g_1c g_1b) ?_
    intro b_1 w h
    refine ⟨?_, ?_⟩
    · replace hp := hp.1
      refine newL (o := [Value.int .u8 255, Value.int .u8 255]) h ?_
      intro b_2 w h
      refine pcp_big_ok h hp ?_
      rintro rs p_1 n_1 c_1 w rfl h hp
      have cpp_1 := rowCap h 0 rfl
      refine ⟨_, _, _, rfl, ?_⟩
      refine newL (o := [Value.slice (some ⟨b_1, 0, none⟩) (Int.toNat 10) (Int.toNat 10), Value.slice (some ⟨b_2, 0, none⟩) 2 2, Value.slice p_1 rs.length c_1]) h ?_
      intro b_3 w h
      refine sCatY_ok (FL := cel b_3 22 [Value.slice (some ⟨b_1, 0, none⟩) (Int.toNat 10) (Int.toNat 10), Value.slice (some ⟨b_2, 0, none⟩) 2 2, Value.slice p_1 rs.length c_1] :: row enc5 5 1 p_1 c_1 rs :: cel b_2 5 [Value.int .u8 255, Value.int .u8 255] :: row enc5 5 1 (some ⟨b_1, 0, none⟩) (Int.toNat 10) (List.replicate (Int.toNat 10) 0) :: FL) (fun w h => celRdD (z := 1) h 0 rfl [(List.replicate (Int.toNat 10) 0), [255, 255], rs] [[Value.slice (some ⟨b_1, 0, none⟩) (Int.toNat 10) (Int.toNat 10)], [Value.slice (some ⟨b_2, 0, none⟩) 2 2], [Value.slice p_1 rs.length c_1]] rfl rfl (Fa2.cons ⟨_, _, _, rfl, (List.length_replicate).symm, (natLe2 g_1a g_1c g_1b), (fun w h => (rowRd h 3 encL5 rfl))⟩ (Fa2.cons ⟨_, _, _, rfl, rfl, (Nat.le_refl _), (fun w h => (celRd h 2 encL5 rfl [255, 255] rfl))⟩ (Fa2.cons ⟨_, _, _, rfl, rfl, cpp_1, (fun w h => (rowRd h 1 encL5 rfl))⟩ Fa2.nil)))) rfl (Nat.le_refl _) h hp ?_
      rintro rs_1 p_2 n_2 c_2 w rfl h hp
      have cpp_2 := rowCap h 0 rfl
      refine ⟨_, _, _, rfl, ?_⟩
      replace h := h.sel [0] 4
      dsimp only [pickL, pickR, nthH, delH, dropH, List.cons_append, List.nil_append] at h
      exact hR rs_1 p_2 rs_1.length c_2 _ rfl h hp
    replace hp := hp.2
    refine pcp_big_ok h hp ?_
    rintro rs_2 p_3 n_3 c_3 w rfl h hp
    have cpp_3 := rowCap h 0 rfl
    refine ⟨_, _, _, rfl, ?_⟩
    refine newL (o := [Value.int .u8 255, Value.int .u8 255]) h ?_
    intro b_4 w h
    refine newL (o := [Value.slice (some ⟨b_1, 0, none⟩) (Int.toNat 10) (Int.toNat 10), Value.slice (some ⟨b_4, 0, none⟩) 2 2, Value.slice p_3 rs_2.length c_3]) h ?_
    intro b_5 w h
    refine sCatY_ok (FL := cel b_5 22 [Value.slice (some ⟨b_1, 0, none⟩) (Int.toNat 10) (Int.toNat 10), Value.slice (some ⟨b_4, 0, none⟩) 2 2, Value.slice p_3 rs_2.length c_3] :: cel b_4 5 [Value.int .u8 255, Value.int .u8 255] :: row enc5 5 1 p_3 c_3 rs_2 :: row enc5 5 1 (some ⟨b_1, 0, none⟩) (Int.toNat 10) (List.replicate (Int.toNat 10) 0) :: FL) (fun w h => celRdD (z := 1) h 0 rfl [(List.replicate (Int.toNat 10) 0), [255, 255], rs_2] [[Value.slice (some ⟨b_1, 0, none⟩) (Int.toNat 10) (Int.toNat 10)], [Value.slice (some ⟨b_4, 0, none⟩) 2 2], [Value.slice p_3 rs_2.length c_3]] rfl rfl (Fa2.cons ⟨_, _, _, rfl, (List.length_replicate).symm, (natLe2 g_1a g_1c g_1b), (fun w h => (rowRd h 3 encL5 rfl))⟩ (Fa2.cons ⟨_, _, _, rfl, rfl, (Nat.le_refl _), (fun w h => (celRd h 1 encL5 rfl [255, 255] rfl))⟩ (Fa2.cons ⟨_, _, _, rfl, rfl, cpp_3, (fun w h => (rowRd h 2 encL5 rfl))⟩ Fa2.nil)))) rfl (Nat.le_refl _) h hp ?_
    rintro rs_3 p_4 n_4 c_4 w rfl h hp
    have cpp_4 := rowCap h 0 rfl
    refine ⟨_, _, _, rfl, ?_⟩
    replace h := h.sel [0] 4
    dsimp only [pickL, pickR, nthH, delH, dropH, List.cons_append, List.nil_append] at h
    exact hR rs_3 p_4 rs_3.length c_4 _ rfl h hp
  refine ⟨?_, ?_⟩
  · replace hp := hp.2.1
    refine newL (o := [Value.int .u8 255, Value.int .u8 255]) h ?_
    intro b_6 w h
    refine ⟨?_, ?_⟩
    · replace hp := hp.1
      obtain ⟨g_2a, g_2b, g_2d, g_2e, hp⟩ := hp
      refine ⟨g_2a, g_2b, g_2d, g_2e, ?_⟩
      have g_2c : 0 ≤ (10 : Int) := Int.le_trans g_2a g_2b
      refine makeL (x0 := 0) (T := 5) h encL5 rfl (natLe2 g_2a g_2c g_2b) ?_
      intro b_7 w h
      refine pcp_big_ok h hp ?_
      rintro rs_4 p_5 n_5 c_5 w rfl h hp
      have cpp_5 := rowCap h 0 rfl
      refine ⟨_, _, _, rfl, ?_⟩
      refine newL (o := [Value.slice (some ⟨b_7, 0, none⟩) (Int.toNat 10) (Int.toNat 10), Value.slice (some ⟨b_6, 0, none⟩) 2 2, Value.slice p_5 rs_4.length c_5]) h ?_
      intro b_8 w h
      refine sCatY_ok (FL := cel b_8 22 [Value.slice (some ⟨b_7, 0, none⟩) (Int.toNat 10) (Int.toNat 10), Value.slice (some ⟨b_6, 0, none⟩) 2 2, Value.slice p_5 rs_4.length c_5] :: row enc5 5 1 p_5 c_5 rs_4 :: row enc5 5 1 (some ⟨b_7, 0, none⟩) (Int.toNat 10) (List.replicate (Int.toNat 10) 0) :: cel b_6 5 [Value.int .u8 255, Value.int .u8 255] :: FL) (fun w h => celRdD (z := 1) h 0 rfl [(List.replicate (Int.toNat 10) 0), [255, 255], rs_4] [[Value.slice (some ⟨b_7, 0, none⟩) (Int.toNat 10) (Int.toNat 10)], [Value.slice (some ⟨b_6, 0, none⟩) 2 2], [Value.slice p_5 rs_4.length c_5]] rfl rfl (Fa2.cons ⟨_, _, _, rfl, (List.length_replicate).symm, (natLe2 g_2a g_2c g_2b), (fun w h => (rowRd h 2 encL5 rfl))⟩ (Fa2.cons ⟨_, _, _, rfl, rfl, (Nat.le_refl _), (fun w h => (celRd h 3 encL5 rfl [255, 255] rfl))⟩ (Fa2.cons ⟨_, _, _, rfl, rfl, cpp_5, (fun w h => (rowRd h 1 encL5 rfl))⟩ Fa2.nil)))) rfl (Nat.le_refl _) h hp ?_
      rintro rs_5 p_6 n_6 c_6 w rfl h hp
      have cpp_6 := rowCap h 0 rfl
      refine ⟨_, _, _, rfl, ?_⟩
      replace h := h.sel [0] 4
      dsimp only [pickL, pickR, nthH, delH, dropH, List.cons_append, List.nil_append] at h
      exact hR rs_5 p_6 rs_5.length c_6 _ rfl h hp
    replace hp := hp.2
    refine pcp_big_ok h hp ?_
    rintro rs_6 p_7 n_7 c_7 w rfl h hp
    have cpp_7 := rowCap h 0 rfl
    refine ⟨_, _, _, rfl, ?_⟩
    obtain ⟨g_3a, g_3b, g_3d, g_3e, hp⟩ := hp
    refine ⟨g_3a, g_3b, g_3d, g_3e, ?_⟩
    have g_3c : 0 ≤ (10 : Int) := Int.le_trans g_3a g_3b
    refine makeL (x0 := 0) (T := 5) h encL5 rfl (natLe2 g_3a g_3c g_3b) ?_
    intro b_9 w h
    refine newL (o := [Value.slice (some ⟨b_9, 0, none⟩) (Int.toNat 10) (Int.toNat 10), Value.slice (some ⟨b_6, 0, none⟩) 2 2, Value.slice p_7 rs_6.length c_7]) h ?_
    intro b_10 w h
    refine sCatY_ok (FL := cel b_10 22 [Value.slice (some ⟨b_9, 0, none⟩) (Int.toNat 10) (Int.toNat 10), Value.slice (some ⟨b_6, 0, none⟩) 2 2, Value.slice p_7 rs_6.length c_7] :: row enc5 5 1 (some ⟨b_9, 0, none⟩) (Int.toNat 10) (List.replicate (Int.toNat 10) 0) :: row enc5 5 1 p_7 c_7 rs_6 :: cel b_6 5 [Value.int .u8 255, Value.int .u8 255] :: FL) (fun w h => celRdD (z := 1) h 0 rfl [(List.replicate (Int.toNat 10) 0), [255, 255], rs_6] [[Value.slice (some ⟨b_9, 0, none⟩) (Int.toNat 10) (Int.toNat 10)], [Value.slice (some ⟨b_6, 0, none⟩) 2 2], [Value.slice p_7 rs_6.length c_7]] rfl rfl (Fa2.cons ⟨_, _, _, rfl, (List.length_replicate).symm, (natLe2 g_3a g_3c g_3b), (fun w h => (rowRd h 1 encL5 rfl))⟩ (Fa2.cons ⟨_, _, _, rfl, rfl, (Nat.le_refl _), (fun w h => (celRd h 3 encL5 rfl [255, 255] rfl))⟩ (Fa2.cons ⟨_, _, _, rfl, rfl, cpp_7, (fun w h => (rowRd h 2 encL5 rfl))⟩ Fa2.nil)))) rfl (Nat.le_refl _) h hp ?_
    rintro rs_7 p_8 n_8 c_8 w rfl h hp
    have cpp_8 := rowCap h 0 rfl
    refine ⟨_, _, _, rfl, ?_⟩
    replace h := h.sel [0] 4
    dsimp only [pickL, pickR, nthH, delH, dropH, List.cons_append, List.nil_append] at h
    exact hR rs_7 p_8 rs_7.length c_8 _ rfl h hp
  replace hp := hp.2.2
  refine pcp_big_ok h hp ?_
  rintro rs_8 p_9 n_9 c_9 w rfl h hp
  have cpp_9 := rowCap h 0 rfl
  refine ⟨_, _, _, rfl, ?_⟩
  refine ⟨?_, ?_⟩
  · replace hp := hp.1
    obtain ⟨g_4a, g_4b, g_4d, g_4e, hp⟩ := hp
    refine ⟨g_4a, g_4b, g_4d, g_4e, ?_⟩
    have g_4c : 0 ≤ (10 : Int) := Int.le_trans g_4a g_4b
    refine makeL (x0 := 0) (T := 5) h encL5 rfl (natLe2 g_4a g_4c g_4b) ?_
    intro b_11 w h
    refine newL (o := [Value.int .u8 255, Value.int .u8 255]) h ?_
    intro b_12 w h
    refine newL (o := [Value.slice (some ⟨b_11, 0, none⟩) (Int.toNat 10) (Int.toNat 10), Value.slice (some ⟨b_12, 0, none⟩) 2 2, Value.slice p_9 rs_8.length c_9]) h ?_
    intro b_13 w h
    refine sCatY_ok (FL := cel b_13 22 [Value.slice (some ⟨b_11, 0, none⟩) (Int.toNat 10) (Int.toNat 10), Value.slice (some ⟨b_12, 0, none⟩) 2 2, Value.slice p_9 rs_8.length c_9] :: cel b_12 5 [Value.int .u8 255, Value.int .u8 255] :: row enc5 5 1 (some ⟨b_11, 0, none⟩) (Int.toNat 10) (List.replicate (Int.toNat 10) 0) :: row enc5 5 1 p_9 c_9 rs_8 :: FL) (fun w h => celRdD (z := 1) h 0 rfl [(List.replicate (Int.toNat 10) 0), [255, 255], rs_8] [[Value.slice (some ⟨b_11, 0, none⟩) (Int.toNat 10) (Int.toNat 10)], [Value.slice (some ⟨b_12, 0, none⟩) 2 2], [Value.slice p_9 rs_8.length c_9]] rfl rfl (Fa2.cons ⟨_, _, _, rfl, (List.length_replicate).symm, (natLe2 g_4a g_4c g_4b), (fun w h => (rowRd h 2 encL5 rfl))⟩ (Fa2.cons ⟨_, _, _, rfl, rfl, (Nat.le_refl _), (fun w h => (celRd h 1 encL5 rfl [255, 255] rfl))⟩ (Fa2.cons ⟨_, _, _, rfl, rfl, cpp_9, (fun w h => (rowRd h 3 encL5 rfl))⟩ Fa2.nil)))) rfl (Nat.le_refl _) h hp ?_
    rintro rs_9 p_10 n_10 c_10 w rfl h hp
    have cpp_10 := rowCap h 0 rfl
    refine ⟨_, _, _, rfl, ?_⟩
    replace h := h.sel [0] 4
    dsimp only [pickL, pickR, nthH, delH, dropH, List.cons_append, List.nil_append] at h
    exact hR rs_9 p_10 rs_9.length c_10 _ rfl h hp
  replace hp := hp.2
  refine newL (o := [Value.int .u8 255, Value.int .u8 255]) h ?_
  intro b_14 w h
  obtain ⟨g_5a, g_5b, g_5d, g_5e, hp⟩ := hp
  refine ⟨g_5a, g_5b, g_5d, g_5e, ?_⟩
  have g_5c : 0 ≤ (10 : Int) := Int.le_trans g_5a g_5b
  refine makeL (x0 := 0) (T := 5) h encL5 rfl (natLe2 g_5a g_5c g_5b) ?_
  intro b_15 w h
  refine newL (o := [Value.slice (some ⟨b_15, 0, none⟩) (Int.toNat 10) (Int.toNat 10), Value.slice (some ⟨b_14, 0, none⟩) 2 2, Value.slice p_9 rs_8.length c_9]) h ?_
  intro b_16 w h
  refine sCatY_ok (FL := cel b_16 22 [Value.slice (some ⟨b_15, 0, none⟩) (Int.toNat 10) (Int.toNat 10), Value.slice (some ⟨b_14, 0, none⟩) 2 2, Value.slice p_9 rs_8.length c_9] :: row enc5 5 1 (some ⟨b_15, 0, none⟩) (Int.toNat 10) (List.replicate (Int.toNat 10) 0) :: cel b_14 5 [Value.int .u8 255, Value.int .u8 255] :: row enc5 5 1 p_9 c_9 rs_8 :: FL) (fun w h => celRdD (z := 1) h 0 rfl [(List.replicate (Int.toNat 10) 0), [255, 255], rs_8] [[Value.slice (some ⟨b_15, 0, none⟩) (Int.toNat 10) (Int.toNat 10)], [Value.slice (some ⟨b_14, 0, none⟩) 2 2], [Value.slice p_9 rs_8.length c_9]] rfl rfl (Fa2.cons ⟨_, _, _, rfl, (List.length_replicate).symm, (natLe2 g_5a g_5c g_5b), (fun w h => (rowRd h 1 encL5 rfl))⟩ (Fa2.cons ⟨_, _, _, rfl, rfl, (Nat.le_refl _), (fun w h => (celRd h 2 encL5 rfl [255, 255] rfl))⟩ (Fa2.cons ⟨_, _, _, rfl, rfl, cpp_9, (fun w h => (rowRd h 3 encL5 rfl))⟩ Fa2.nil)))) rfl (Nat.le_refl _) h hp ?_
  rintro rs_10 p_11 n_11 c_11 w rfl h hp
  have cpp_11 := rowCap h 0 rfl
  refine ⟨_, _, _, rfl, ?_⟩
  replace h := h.sel [0] 4
  dsimp only [pickL, pickR, nthH, delH, dropH, List.cons_append, List.nil_append] at h
  exact hR rs_10 p_11 rs_10.length c_11 _ rfl h hp
def pcp_mapping_wp (l_Ver l_Inside l_Port l_Secs l_Nonce l_Result l_Epoch l_Host : Int) (K : List (Int) → Prop) : Prop :=
  (0 ≤ (4 : Int) ∧ 4 ≤ (4 : Int) ∧ (4 : Int) ≤ 140737488355328 ∧ ((1 : Nat) : Int) * 4 ≤ 140737488355328 ∧ ((pcp_big_wp l_Nonce 8 (fun (rs : List (Int)) => (pcp_big_wp (IntKind.wrap .u64 l_Inside) 2 (fun (rs_1 : List (Int)) => pcp_big_wp (IntKind.wrap .u64 l_Port) 2 (fun (rs_2 : List (Int)) => pcp_host16_wp l_Host (fun (rs_3 : List (Int)) => sCatY_wp [(List.replicate (Int.toNat 4) 0), rs, [17, 0, 0, 0], rs_1, rs_2, rs_3] (fun (rs_4 : List (Int)) => K rs_4))))) ∧ (pcp_big_wp (IntKind.wrap .u64 l_Inside) 2 (fun (rs_5 : List (Int)) => (pcp_big_wp (IntKind.wrap .u64 l_Port) 2 (fun (rs_6 : List (Int)) => pcp_host16_wp l_Host (fun (rs_7 : List (Int)) => sCatY_wp [(List.replicate (Int.toNat 4) 0), rs, [17, 0, 0, 0], rs_5, rs_6, rs_7] (fun (rs_8 : List (Int)) => K rs_8)))) ∧ (pcp_big_wp (IntKind.wrap .u64 l_Port) 2 (fun (rs_9 : List (Int)) => (pcp_host16_wp l_Host (fun (rs_10 : List (Int)) => sCatY_wp [(List.replicate (Int.toNat 4) 0), rs, [17, 0, 0, 0], rs_5, rs_9, rs_10] (fun (rs_11 : List (Int)) => K rs_11))) ∧ (pcp_host16_wp l_Host (fun (rs_12 : List (Int)) => sCatY_wp [(List.replicate (Int.toNat 4) 0), rs, [17, 0, 0, 0], rs_5, rs_9, rs_12] (fun (rs_13 : List (Int)) => K rs_13))))))))) ∧ (pcp_big_wp l_Nonce 8 (fun (rs_14 : List (Int)) => pcp_big_wp (IntKind.wrap .u64 l_Inside) 2 (fun (rs_15 : List (Int)) => pcp_big_wp (IntKind.wrap .u64 l_Port) 2 (fun (rs_16 : List (Int)) => pcp_host16_wp l_Host (fun (rs_17 : List (Int)) => sCatY_wp [(List.replicate (Int.toNat 4) 0), rs_14, [17, 0, 0, 0], rs_15, rs_16, rs_17] (fun (rs_18 : List (Int)) => K rs_18)))))))) ∧ (pcp_big_wp l_Nonce 8 (fun (rs_19 : List (Int)) => (0 ≤ (4 : Int) ∧ 4 ≤ (4 : Int) ∧ (4 : Int) ≤ 140737488355328 ∧ ((1 : Nat) : Int) * 4 ≤ 140737488355328 ∧ ((pcp_big_wp (IntKind.wrap .u64 l_Inside) 2 (fun (rs_20 : List (Int)) => pcp_big_wp (IntKind.wrap .u64 l_Port) 2 (fun (rs_21 : List (Int)) => pcp_host16_wp l_Host (fun (rs_22 : List (Int)) => sCatY_wp [(List.replicate (Int.toNat 4) 0), rs_19, [17, 0, 0, 0], rs_20, rs_21, rs_22] (fun (rs_23 : List (Int)) => K rs_23))))) ∧ (pcp_big_wp (IntKind.wrap .u64 l_Inside) 2 (fun (rs_24 : List (Int)) => (pcp_big_wp (IntKind.wrap .u64 l_Port) 2 (fun (rs_25 : List (Int)) => pcp_host16_wp l_Host (fun (rs_26 : List (Int)) => sCatY_wp [(List.replicate (Int.toNat 4) 0), rs_19, [17, 0, 0, 0], rs_24, rs_25, rs_26] (fun (rs_27 : List (Int)) => K rs_27)))) ∧ (pcp_big_wp (IntKind.wrap .u64 l_Port) 2 (fun (rs_28 : List (Int)) => (pcp_host16_wp l_Host (fun (rs_29 : List (Int)) => sCatY_wp [(List.replicate (Int.toNat 4) 0), rs_19, [17, 0, 0, 0], rs_24, rs_28, rs_29] (fun (rs_30 : List (Int)) => K rs_30))) ∧ (pcp_host16_wp l_Host (fun (rs_31 : List (Int)) => sCatY_wp [(List.replicate (Int.toNat 4) 0), rs_19, [17, 0, 0, 0], rs_24, rs_28, rs_31] (fun (rs_32 : List (Int)) => K rs_32))))))))) ∧ ((0 ≤ (4 : Int) ∧ 4 ≤ (4 : Int) ∧ (4 : Int) ≤ 140737488355328 ∧ ((1 : Nat) : Int) * 4 ≤ 140737488355328 ∧ (pcp_big_wp (IntKind.wrap .u64 l_Inside) 2 (fun (rs_33 : List (Int)) => pcp_big_wp (IntKind.wrap .u64 l_Port) 2 (fun (rs_34 : List (Int)) => pcp_host16_wp l_Host (fun (rs_35 : List (Int)) => sCatY_wp [(List.replicate (Int.toNat 4) 0), rs_19, [17, 0, 0, 0], rs_33, rs_34, rs_35] (fun (rs_36 : List (Int)) => K rs_36)))))) ∧ (pcp_big_wp (IntKind.wrap .u64 l_Inside) 2 (fun (rs_37 : List (Int)) => (0 ≤ (4 : Int) ∧ 4 ≤ (4 : Int) ∧ (4 : Int) ≤ 140737488355328 ∧ ((1 : Nat) : Int) * 4 ≤ 140737488355328 ∧ (pcp_big_wp (IntKind.wrap .u64 l_Port) 2 (fun (rs_38 : List (Int)) => pcp_host16_wp l_Host (fun (rs_39 : List (Int)) => sCatY_wp [(List.replicate (Int.toNat 4) 0), rs_19, [17, 0, 0, 0], rs_37, rs_38, rs_39] (fun (rs_40 : List (Int)) => K rs_40))))) ∧ (pcp_big_wp (IntKind.wrap .u64 l_Port) 2 (fun (rs_41 : List (Int)) => (0 ≤ (4 : Int) ∧ 4 ≤ (4 : Int) ∧ (4 : Int) ≤ 140737488355328 ∧ ((1 : Nat) : Int) * 4 ≤ 140737488355328 ∧ (pcp_host16_wp l_Host (fun (rs_42 : List (Int)) => sCatY_wp [(List.replicate (Int.toNat 4) 0), rs_19, [17, 0, 0, 0], rs_37, rs_41, rs_42] (fun (rs_43 : List (Int)) => K rs_43)))) ∧ (pcp_host16_wp l_Host (fun (rs_44 : List (Int)) => 0 ≤ (4 : Int) ∧ 4 ≤ (4 : Int) ∧ (4 : Int) ≤ 140737488355328 ∧ ((1 : Nat) : Int) * 4 ≤ 140737488355328 ∧ (sCatY_wp [(List.replicate (Int.toNat 4) 0), rs_19, [17, 0, 0, 0], rs_37, rs_41, rs_44] (fun (rs_45 : List (Int)) => K rs_45))))))))) ∧ (pcp_big_wp (IntKind.wrap .u64 l_Inside) 2 (fun (rs_46 : List (Int)) => (0 ≤ (4 : Int) ∧ 4 ≤ (4 : Int) ∧ (4 : Int) ≤ 140737488355328 ∧ ((1 : Nat) : Int) * 4 ≤ 140737488355328 ∧ ((pcp_big_wp (IntKind.wrap .u64 l_Port) 2 (fun (rs_47 : List (Int)) => pcp_host16_wp l_Host (fun (rs_48 : List (Int)) => sCatY_wp [(List.replicate (Int.toNat 4) 0), rs_19, [17, 0, 0, 0], rs_46, rs_47, rs_48] (fun (rs_49 : List (Int)) => K rs_49)))) ∧ (pcp_big_wp (IntKind.wrap .u64 l_Port) 2 (fun (rs_50 : List (Int)) => (pcp_host16_wp l_Host (fun (rs_51 : List (Int)) => sCatY_wp [(List.replicate (Int.toNat 4) 0), rs_19, [17, 0, 0, 0], rs_46, rs_50, rs_51] (fun (rs_52 : List (Int)) => K rs_52))) ∧ (pcp_host16_wp l_Host (fun (rs_53 : List (Int)) => sCatY_wp [(List.replicate (Int.toNat 4) 0), rs_19, [17, 0, 0, 0], rs_46, rs_50, rs_53] (fun (rs_54 : List (Int)) => K rs_54))))))) ∧ ((0 ≤ (4 : Int) ∧ 4 ≤ (4 : Int) ∧ (4 : Int) ≤ 140737488355328 ∧ ((1 : Nat) : Int) * 4 ≤ 140737488355328 ∧ (pcp_big_wp (IntKind.wrap .u64 l_Port) 2 (fun (rs_55 : List (Int)) => pcp_host16_wp l_Host (fun (rs_56 : List (Int)) => sCatY_wp [(List.replicate (Int.toNat 4) 0), rs_19, [17, 0, 0, 0], rs_46, rs_55, rs_56] (fun (rs_57 : List (Int)) => K rs_57))))) ∧ (pcp_big_wp (IntKind.wrap .u64 l_Port) 2 (fun (rs_58 : List (Int)) => (0 ≤ (4 : Int) ∧ 4 ≤ (4 : Int) ∧ (4 : Int) ≤ 140737488355328 ∧ ((1 : Nat) : Int) * 4 ≤ 140737488355328 ∧ (pcp_host16_wp l_Host (fun (rs_59 : List (Int)) => sCatY_wp [(List.replicate (Int.toNat 4) 0), rs_19, [17, 0, 0, 0], rs_46, rs_58, rs_59] (fun (rs_60 : List (Int)) => K rs_60)))) ∧ (pcp_host16_wp l_Host (fun (rs_61 : List (Int)) => 0 ≤ (4 : Int) ∧ 4 ≤ (4 : Int) ∧ (4 : Int) ≤ 140737488355328 ∧ ((1 : Nat) : Int) * 4 ≤ 140737488355328 ∧ (sCatY_wp [(List.replicate (Int.toNat 4) 0), rs_19, [17, 0, 0, 0], rs_46, rs_58, rs_61] (fun (rs_62 : List (Int)) => K rs_62))))))) ∧ (pcp_big_wp (IntKind.wrap .u64 l_Port) 2 (fun (rs_63 : List (Int)) => (0 ≤ (4 : Int) ∧ 4 ≤ (4 : Int) ∧ (4 : Int) ≤ 140737488355328 ∧ ((1 : Nat) : Int) * 4 ≤ 140737488355328 ∧ ((pcp_host16_wp l_Host (fun (rs_64 : List (Int)) => sCatY_wp [(List.replicate (Int.toNat 4) 0), rs_19, [17, 0, 0, 0], rs_46, rs_63, rs_64] (fun (rs_65 : List (Int)) => K rs_65))) ∧ (pcp_host16_wp l_Host (fun (rs_66 : List (Int)) => sCatY_wp [(List.replicate (Int.toNat 4) 0), rs_19, [17, 0, 0, 0], rs_46, rs_63, rs_66] (fun (rs_67 : List (Int)) => K rs_67))))) ∧ ((0 ≤ (4 : Int) ∧ 4 ≤ (4 : Int) ∧ (4 : Int) ≤ 140737488355328 ∧ ((1 : Nat) : Int) * 4 ≤ 140737488355328 ∧ (pcp_host16_wp l_Host (fun (rs_68 : List (Int)) => sCatY_wp [(List.replicate (Int.toNat 4) 0), rs_19, [17, 0, 0, 0], rs_46, rs_63, rs_68] (fun (rs_69 : List (Int)) => K rs_69)))) ∧ (pcp_host16_wp l_Host (fun (rs_70 : List (Int)) => 0 ≤ (4 : Int) ∧ 4 ≤ (4 : Int) ∧ (4 : Int) ≤ 140737488355328 ∧ ((1 : Nat) : Int) * 4 ≤ 140737488355328 ∧ (sCatY_wp [(List.replicate (Int.toNat 4) 0), rs_19, [17, 0, 0, 0], rs_46, rs_63, rs_70] (fun (rs_71 : List (Int)) => K rs_71))))) ∧ (pcp_host16_wp l_Host (fun (rs_72 : List (Int)) => (0 ≤ (4 : Int) ∧ 4 ≤ (4 : Int) ∧ (4 : Int) ≤ 140737488355328 ∧ ((1 : Nat) : Int) * 4 ≤ 140737488355328 ∧ (sCatY_wp [(List.replicate (Int.toNat 4) 0), rs_19, [17, 0, 0, 0], rs_46, rs_63, rs_72] (fun (rs_73 : List (Int)) => K rs_73))) ∧ (0 ≤ (4 : Int) ∧ 4 ≤ (4 : Int) ∧ (4 : Int) ≤ 140737488355328 ∧ ((1 : Nat) : Int) * 4 ≤ 140737488355328 ∧ (sCatY_wp [(List.replicate (Int.toNat 4) 0), rs_19, [17, 0, 0, 0], rs_46, rs_63, rs_72] (fun (rs_74 : List (Int)) => K rs_74))))))))))) ∧ ((0 ≤ (4 : Int) ∧ 4 ≤ (4 : Int) ∧ (4 : Int) ≤ 140737488355328 ∧ ((1 : Nat) : Int) * 4 ≤ 140737488355328 ∧ (pcp_big_wp l_Nonce 8 (fun (rs_75 : List (Int)) => pcp_big_wp (IntKind.wrap .u64 l_Inside) 2 (fun (rs_76 : List (Int)) => pcp_big_wp (IntKind.wrap .u64 l_Port) 2 (fun (rs_77 : List (Int)) => pcp_host16_wp l_Host (fun (rs_78 : List (Int)) => sCatY_wp [(List.replicate (Int.toNat 4) 0), rs_75, [17, 0, 0, 0], rs_76, rs_77, rs_78] (fun (rs_79 : List (Int)) => K rs_79))))))) ∧ (pcp_big_wp l_Nonce 8 (fun (rs_80 : List (Int)) => (0 ≤ (4 : Int) ∧ 4 ≤ (4 : Int) ∧ (4 : Int) ≤ 140737488355328 ∧ ((1 : Nat) : Int) * 4 ≤ 140737488355328 ∧ (pcp_big_wp (IntKind.wrap .u64 l_Inside) 2 (fun (rs_81 : List (Int)) => pcp_big_wp (IntKind.wrap .u64 l_Port) 2 (fun (rs_82 : List (Int)) => pcp_host16_wp l_Host (fun (rs_83 : List (Int)) => sCatY_wp [(List.replicate (Int.toNat 4) 0), rs_80, [17, 0, 0, 0], rs_81, rs_82, rs_83] (fun (rs_84 : List (Int)) => K rs_84)))))) ∧ (pcp_big_wp (IntKind.wrap .u64 l_Inside) 2 (fun (rs_85 : List (Int)) => (0 ≤ (4 : Int) ∧ 4 ≤ (4 : Int) ∧ (4 : Int) ≤ 140737488355328 ∧ ((1 : Nat) : Int) * 4 ≤ 140737488355328 ∧ (pcp_big_wp (IntKind.wrap .u64 l_Port) 2 (fun (rs_86 : List (Int)) => pcp_host16_wp l_Host (fun (rs_87 : List (Int)) => sCatY_wp [(List.replicate (Int.toNat 4) 0), rs_80, [17, 0, 0, 0], rs_85, rs_86, rs_87] (fun (rs_88 : List (Int)) => K rs_88))))) ∧ (pcp_big_wp (IntKind.wrap .u64 l_Port) 2 (fun (rs_89 : List (Int)) => (0 ≤ (4 : Int) ∧ 4 ≤ (4 : Int) ∧ (4 : Int) ≤ 140737488355328 ∧ ((1 : Nat) : Int) * 4 ≤ 140737488355328 ∧ (pcp_host16_wp l_Host (fun (rs_90 : List (Int)) => sCatY_wp [(List.replicate (Int.toNat 4) 0), rs_80, [17, 0, 0, 0], rs_85, rs_89, rs_90] (fun (rs_91 : List (Int)) => K rs_91)))) ∧ (pcp_host16_wp l_Host (fun (rs_92 : List (Int)) => 0 ≤ (4 : Int) ∧ 4 ≤ (4 : Int) ∧ (4 : Int) ≤ 140737488355328 ∧ ((1 : Nat) : Int) * 4 ≤ 140737488355328 ∧ (sCatY_wp [(List.replicate (Int.toNat 4) 0), rs_80, [17, 0, 0, 0], rs_85, rs_89, rs_92] (fun (rs_93 : List (Int)) => K rs_93)))))))))))
theorem pcp_mapping_ok {l_Ver l_Inside l_Port l_Secs l_Nonce l_Result l_Epoch l_Host : Int} {FL : List HP} {w : World} {K : List (Int) → Prop} {R : Value → World → Prop}
  (h : Mem (FL) w) (hp : pcp_mapping_wp l_Ver l_Inside l_Port l_Secs l_Nonce l_Result l_Epoch l_Host K)
  (hR : ∀ (rs : List (Int)) (p_1 : Option Addr) (n_1 c_1 : Nat) (w : World), n_1 = rs.length → Mem (row enc5 5 1 p_1 c_1 rs :: FL) w → K rs → R (Value.slice p_1 n_1 c_1) w) :
  CallV Try.prog 66 #[(Value.agg #[Value.int .i64 l_Ver, Value.int .i64 l_Inside, Value.int .i64 l_Port, Value.int .i64 l_Secs, Value.int .u64 l_Nonce, Value.int .i64 l_Result, Value.int .i64 l_Epoch, Value.int .u32 l_Host])] w R := by
  refine pcp_mapping_call ?_
  unfold pcp_mapping
  unfold pcp_mapping_wp at hp
  refine newL (o := [Value.int .i64 l_Ver, Value.int .i64 l_Inside, Value.int .i64 l_Port, Value.int .i64 l_Secs, Value.int .u64 l_Nonce, Value.int .i64 l_Result, Value.int .i64 l_Epoch, Value.int .u32 l_Host]) h ?_
  intro b_1 w h
  replace h := h.drew
  refine ⟨fun w => Mem (cel b_1 41 [Value.int .i64 l_Ver, Value.int .i64 l_Inside, Value.int .i64 l_Port, Value.int .i64 l_Secs, Value.int .u64 l_Nonce, Value.int .i64 l_Result, Value.int .i64 l_Epoch, Value.int .u32 l_Host] :: FL) w, (h.sel [0] 0), ?_⟩
  refine ⟨_, cellL h 0 4 rfl rfl rfl, ?_⟩
  refine ⟨?_, ?_⟩
  · intro w h
    change Mem _ _ at h
    refine ⟨_, cellL h 0 4 rfl rfl rfl, ?_⟩
    exact ⟨rfl, rfl⟩
  refine ⟨_, cellL h 0 1 rfl rfl rfl, ?_⟩
  refine ⟨?_, ?_⟩
  · intro w h
    change Mem _ _ at h
    refine ⟨_, cellL h 0 1 rfl rfl rfl, ?_⟩
    exact ⟨rfl, rfl⟩
  refine ⟨_, cellL h 0 2 rfl rfl rfl, ?_⟩
  refine ⟨?_, ?_⟩
  · intro w h
    change Mem _ _ at h
    refine ⟨_, cellL h 0 2 rfl rfl rfl, ?_⟩
    exact ⟨rfl, rfl⟩
  refine ⟨_, cellL h 0 7 rfl rfl rfl, ?_⟩
  refine ⟨?_, ?_⟩
  · intro w h
    change Mem _ _ at h
    refine ⟨_, cellL h 0 7 rfl rfl rfl, ?_⟩
    exact ⟨rfl, rfl⟩
  refine ⟨?_, ?_⟩
  · replace hp := hp.1
    obtain ⟨g_1a, g_1b, g_1d, g_1e, hp⟩ := hp
    refine ⟨g_1a, g_1b, g_1d, g_1e, ?_⟩
    have g_1c : 0 ≤ (4 : Int) := Int.le_trans g_1a g_1b
    refine makeL (x0 := 0) (T := 5) h encL5 rfl (natLe2 g_1a g_1c g_1b) ?_
    intro b_2 w h
    refine ⟨(h.sel [1] 1), ?_⟩
    refine ⟨?_, ?_⟩
    · replace hp := hp.1
      refine pcp_big_ok h hp ?_
      rintro rs p_1 n_1 c_1 w rfl h hp
      have cpp_1 := rowCap h 0 rfl
      refine ⟨_, _, _, rfl, ?_⟩
      refine ⟨(h.sel [2] 2), ?_⟩
      refine ⟨?_, ?_⟩
      · replace hp := hp.1
        refine newL (o := [Value.int .u8 17, Value.int .u8 0, Value.int .u8 0, Value.int .u8 0]) h ?_
        intro b_3 w h
        refine ⟨(h.sel [3] 3), ?_⟩
        refine pcp_big_ok h hp ?_
        rintro rs_1 p_2 n_2 c_2 w rfl h hp
        have cpp_2 := rowCap h 0 rfl
        refine ⟨_, _, _, rfl, ?_⟩
        refine ⟨(h.sel [4] 4), ?_⟩
        refine pcp_big_ok h hp ?_
        rintro rs_2 p_3 n_3 c_3 w rfl h hp
        have cpp_3 := rowCap h 0 rfl
        refine ⟨_, _, _, rfl, ?_⟩
        refine ⟨(h.sel [5] 5), ?_⟩
        refine pcp_host16_ok h hp ?_
        rintro rs_3 p_4 n_4 c_4 w rfl h hp
        have cpp_4 := rowCap h 0 rfl
        refine ⟨_, _, _, rfl, ?_⟩
        refine newL (o := [Value.slice (some ⟨b_2, 0, none⟩) (Int.toNat 4) (Int.toNat 4), Value.slice p_1 rs.length c_1, Value.slice (some ⟨b_3, 0, none⟩) 4 4, Value.slice p_2 rs_1.length c_2, Value.slice p_3 rs_2.length c_3, Value.slice p_4 rs_3.length c_4]) h ?_
        intro b_4 w h
        refine sCatY_ok (FL := cel b_4 22 [Value.slice (some ⟨b_2, 0, none⟩) (Int.toNat 4) (Int.toNat 4), Value.slice p_1 rs.length c_1, Value.slice (some ⟨b_3, 0, none⟩) 4 4, Value.slice p_2 rs_1.length c_2, Value.slice p_3 rs_2.length c_3, Value.slice p_4 rs_3.length c_4] :: row enc5 5 1 p_4 c_4 rs_3 :: row enc5 5 1 p_3 c_3 rs_2 :: row enc5 5 1 p_2 c_2 rs_1 :: cel b_3 5 [Value.int .u8 17, Value.int .u8 0, Value.int .u8 0, Value.int .u8 0] :: row enc5 5 1 p_1 c_1 rs :: row enc5 5 1 (some ⟨b_2, 0, none⟩) (Int.toNat 4) (List.replicate (Int.toNat 4) 0) :: cel b_1 41 [Value.int .i64 l_Ver, Value.int .i64 l_Inside, Value.int .i64 l_Port, Value.int .i64 l_Secs, Value.int .u64 l_Nonce, Value.int .i64 l_Result, Value.int .i64 l_Epoch, Value.int .u32 l_Host] :: FL) (fun w h => celRdD (z := 1) h 0 rfl [(List.replicate (Int.toNat 4) 0), rs, [17, 0, 0, 0], rs_1, rs_2, rs_3] [[Value.slice (some ⟨b_2, 0, none⟩) (Int.toNat 4) (Int.toNat 4)], [Value.slice p_1 rs.length c_1], [Value.slice (some ⟨b_3, 0, none⟩) 4 4], [Value.slice p_2 rs_1.length c_2], [Value.slice p_3 rs_2.length c_3], [Value.slice p_4 rs_3.length c_4]] rfl rfl (Fa2.cons ⟨_, _, _, rfl, (List.length_replicate).symm, (natLe2 g_1a g_1c g_1b), (fun w h => (rowRd h 6 encL5 rfl))⟩ (Fa2.cons ⟨_, _, _, rfl, rfl, cpp_1, (fun w h => (rowRd h 5 encL5 rfl))⟩ (Fa2.cons ⟨_, _, _, rfl, rfl, (Nat.le_refl _), (fun w h => (celRd h 4 encL5 rfl [17, 0, 0, 0] rfl))⟩ (Fa2.cons ⟨_, _, _, rfl, rfl, cpp_2, (fun w h => (rowRd h 3 encL5 rfl))⟩ (Fa2.cons ⟨_, _, _, rfl, rfl, cpp_3, (fun w h => (rowRd h 2 encL5 rfl))⟩ (Fa2.cons ⟨_, _, _, rfl, rfl, cpp_4, (fun w h => (rowRd h 1 encL5 rfl))⟩ Fa2.nil))))))) rfl (Nat.le_refl _) h hp ?_
        rintro rs_4 p_5 n_5 c_5 w rfl h hp
        have cpp_5 := rowCap h 0 rfl
        refine ⟨_, _, _, rfl, ?_⟩
        replace h := h.sel [0] 8
        dsimp only [pickL, pickR, nthH, delH, dropH, List.cons_append, List.nil_append] at h
        exact hR rs_4 p_5 rs_4.length c_5 _ rfl h hp
      replace hp := hp.2
      refine pcp_big_ok h hp ?_
      rintro rs_5 p_6 n_6 c_6 w rfl h hp
      have cpp_6 := rowCap h 0 rfl
      refine ⟨_, _, _, rfl, ?_⟩
      refine ⟨(h.sel [3] 3), ?_⟩
      refine ⟨?_, ?_⟩
      · replace hp := hp.1
        refine newL (o := [Value.int .u8 17, Value.int .u8 0, Value.int .u8 0, Value.int .u8 0]) h ?_
        intro b_5 w h
        refine ⟨(h.sel [4] 4), ?_⟩
        refine pcp_big_ok h hp ?_
        rintro rs_6 p_7 n_7 c_7 w rfl h hp
        have cpp_7 := rowCap h 0 rfl
        refine ⟨_, _, _, rfl, ?_⟩
        refine ⟨(h.sel [5] 5), ?_⟩
        refine pcp_host16_ok h hp ?_
        rintro rs_7 p_8 n_8 c_8 w rfl h hp
        have cpp_8 := rowCap h 0 rfl
        refine ⟨_, _, _, rfl, ?_⟩
        refine newL (o := [Value.slice (some ⟨b_2, 0, none⟩) (Int.toNat 4) (Int.toNat 4), Value.slice p_1 rs.length c_1, Value.slice (some ⟨b_5, 0, none⟩) 4 4, Value.slice p_6 rs_5.length c_6, Value.slice p_7 rs_6.length c_7, Value.slice p_8 rs_7.length c_8]) h ?_
        intro b_6 w h
        refine sCatY_ok (FL := cel b_6 22 [Value.slice (some ⟨b_2, 0, none⟩) (Int.toNat 4) (Int.toNat 4), Value.slice p_1 rs.length c_1, Value.slice (some ⟨b_5, 0, none⟩) 4 4, Value.slice p_6 rs_5.length c_6, Value.slice p_7 rs_6.length c_7, Value.slice p_8 rs_7.length c_8] :: row enc5 5 1 p_8 c_8 rs_7 :: row enc5 5 1 p_7 c_7 rs_6 :: cel b_5 5 [Value.int .u8 17, Value.int .u8 0, Value.int .u8 0, Value.int .u8 0] :: row enc5 5 1 p_6 c_6 rs_5 :: row enc5 5 1 p_1 c_1 rs :: row enc5 5 1 (some ⟨b_2, 0, none⟩) (Int.toNat 4) (List.replicate (Int.toNat 4) 0) :: cel b_1 41 [Value.int .i64 l_Ver, Value.int .i64 l_Inside, Value.int .i64 l_Port, Value.int .i64 l_Secs, Value.int .u64 l_Nonce, Value.int .i64 l_Result, Value.int .i64 l_Epoch, Value.int .u32 l_Host] :: FL) (fun w h => celRdD (z := 1) h 0 rfl [(List.replicate (Int.toNat 4) 0), rs, [17, 0, 0, 0], rs_5, rs_6, rs_7] [[Value.slice (some ⟨b_2, 0, none⟩) (Int.toNat 4) (Int.toNat 4)], [Value.slice p_1 rs.length c_1], [Value.slice (some ⟨b_5, 0, none⟩) 4 4], [Value.slice p_6 rs_5.length c_6], [Value.slice p_7 rs_6.length c_7], [Value.slice p_8 rs_7.length c_8]] rfl rfl (Fa2.cons ⟨_, _, _, rfl, (List.length_replicate).symm, (natLe2 g_1a g_1c g_1b), (fun w h => (rowRd h 6 encL5 rfl))⟩ (Fa2.cons ⟨_, _, _, rfl, rfl, cpp_1, (fun w h => (rowRd h 5 encL5 rfl))⟩ (Fa2.cons ⟨_, _, _, rfl, rfl, (Nat.le_refl _), (fun w h => (celRd h 3 encL5 rfl [17, 0, 0, 0] rfl))⟩ (Fa2.cons ⟨_, _, _, rfl, rfl, cpp_6, (fun w h => (rowRd h 4 encL5 rfl))⟩ (Fa2.cons ⟨_, _, _, rfl, rfl, cpp_7, (fun w h => (rowRd h 2 encL5 rfl))⟩ (Fa2.cons ⟨_, _, _, rfl, rfl, cpp_8, (fun w h => (rowRd h 1 encL5 rfl))⟩ Fa2.nil))))))) rfl (Nat.le_refl _) h hp ?_
        rintro rs_8 p_9 n_9 c_9 w rfl h hp
        have cpp_9 := rowCap h 0 rfl
        refine ⟨_, _, _, rfl, ?_⟩
        replace h := h.sel [0] 8
        dsimp only [pickL, pickR, nthH, delH, dropH, List.cons_append, List.nil_append] at h
        exact hR rs_8 p_9 rs_8.length c_9 _ rfl h hp
      replace hp := hp.2
      refine pcp_big_ok h hp ?_
      rintro rs_9 p_10 n_10 c_10 w rfl h hp
      have cpp_10 := rowCap h 0 rfl
      refine ⟨_, _, _, rfl, ?_⟩
      refine ⟨(h.sel [4] 4), ?_⟩
      refine ⟨?_, ?_⟩
      · replace hp := hp.1
        refine newL (o := [Value.int .u8 17, Value.int .u8 0, Value.int .u8 0, Value.int .u8 0]) h ?_
        intro b_7 w h
        refine ⟨(h.sel [5] 5), ?_⟩
        refine pcp_host16_ok h hp ?_
        rintro rs_10 p_11 n_11 c_11 w rfl h hp
        have cpp_11 := rowCap h 0 rfl
        refine ⟨_, _, _, rfl, ?_⟩
        refine newL (o := [Value.slice (some ⟨b_2, 0, none⟩) (Int.toNat 4) (Int.toNat 4), Value.slice p_1 rs.length c_1, Value.slice (some ⟨b_7, 0, none⟩) 4 4, Value.slice p_6 rs_5.length c_6, Value.slice p_10 rs_9.length c_10, Value.slice p_11 rs_10.length c_11]) h ?_
        intro b_8 w h
        refine sCatY_ok (FL := cel b_8 22 [Value.slice (some ⟨b_2, 0, none⟩) (Int.toNat 4) (Int.toNat 4), Value.slice p_1 rs.length c_1, Value.slice (some ⟨b_7, 0, none⟩) 4 4, Value.slice p_6 rs_5.length c_6, Value.slice p_10 rs_9.length c_10, Value.slice p_11 rs_10.length c_11] :: row enc5 5 1 p_11 c_11 rs_10 :: cel b_7 5 [Value.int .u8 17, Value.int .u8 0, Value.int .u8 0, Value.int .u8 0] :: row enc5 5 1 p_10 c_10 rs_9 :: row enc5 5 1 p_6 c_6 rs_5 :: row enc5 5 1 p_1 c_1 rs :: row enc5 5 1 (some ⟨b_2, 0, none⟩) (Int.toNat 4) (List.replicate (Int.toNat 4) 0) :: cel b_1 41 [Value.int .i64 l_Ver, Value.int .i64 l_Inside, Value.int .i64 l_Port, Value.int .i64 l_Secs, Value.int .u64 l_Nonce, Value.int .i64 l_Result, Value.int .i64 l_Epoch, Value.int .u32 l_Host] :: FL) (fun w h => celRdD (z := 1) h 0 rfl [(List.replicate (Int.toNat 4) 0), rs, [17, 0, 0, 0], rs_5, rs_9, rs_10] [[Value.slice (some ⟨b_2, 0, none⟩) (Int.toNat 4) (Int.toNat 4)], [Value.slice p_1 rs.length c_1], [Value.slice (some ⟨b_7, 0, none⟩) 4 4], [Value.slice p_6 rs_5.length c_6], [Value.slice p_10 rs_9.length c_10], [Value.slice p_11 rs_10.length c_11]] rfl rfl (Fa2.cons ⟨_, _, _, rfl, (List.length_replicate).symm, (natLe2 g_1a g_1c g_1b), (fun w h => (rowRd h 6 encL5 rfl))⟩ (Fa2.cons ⟨_, _, _, rfl, rfl, cpp_1, (fun w h => (rowRd h 5 encL5 rfl))⟩ (Fa2.cons ⟨_, _, _, rfl, rfl, (Nat.le_refl _), (fun w h => (celRd h 2 encL5 rfl [17, 0, 0, 0] rfl))⟩ (Fa2.cons ⟨_, _, _, rfl, rfl, cpp_6, (fun w h => (rowRd h 4 encL5 rfl))⟩ (Fa2.cons ⟨_, _, _, rfl, rfl, cpp_10, (fun w h => (rowRd h 3 encL5 rfl))⟩ (Fa2.cons ⟨_, _, _, rfl, rfl, cpp_11, (fun w h => (rowRd h 1 encL5 rfl))⟩ Fa2.nil))))))) rfl (Nat.le_refl _) h hp ?_
        rintro rs_11 p_12 n_12 c_12 w rfl h hp
        have cpp_12 := rowCap h 0 rfl
        refine ⟨_, _, _, rfl, ?_⟩
        replace h := h.sel [0] 8
        dsimp only [pickL, pickR, nthH, delH, dropH, List.cons_append, List.nil_append] at h
        exact hR rs_11 p_12 rs_11.length c_12 _ rfl h hp
      replace hp := hp.2
      refine pcp_host16_ok h hp ?_
      rintro rs_12 p_13 n_13 c_13 w rfl h hp
      have cpp_13 := rowCap h 0 rfl
      refine ⟨_, _, _, rfl, ?_⟩
      refine newL (o := [Value.int .u8 17, Value.int .u8 0, Value.int .u8 0, Value.int .u8 0]) h ?_
      intro b_9 w h
      refine ⟨(h.sel [6] 6), ?_⟩
      refine newL (o := [Value.slice (some ⟨b_2, 0, none⟩) (Int.toNat 4) (Int.toNat 4), Value.slice p_1 rs.length c_1, Value.slice (some ⟨b_9, 0, none⟩) 4 4, Value.slice p_6 rs_5.length c_6, Value.slice p_10 rs_9.length c_10, Value.slice p_13 rs_12.length c_13]) h ?_
      intro b_10 w h
      refine sCatY_ok (FL := cel b_10 22 [Value.slice (some ⟨b_2, 0, none⟩) (Int.toNat 4) (Int.toNat 4), Value.slice p_1 rs.length c_1, Value.slice (some ⟨b_9, 0, none⟩) 4 4, Value.slice p_6 rs_5.length c_6, Value.slice p_10 rs_9.length c_10, Value.slice p_13 rs_12.length c_13] :: cel b_9 5 [Value.int .u8 17, Value.int .u8 0, Value.int .u8 0, Value.int .u8 0] :: row enc5 5 1 p_13 c_13 rs_12 :: row enc5 5 1 p_10 c_10 rs_9 :: row enc5 5 1 p_6 c_6 rs_5 :: row enc5 5 1 p_1 c_1 rs :: row enc5 5 1 (some ⟨b_2, 0, none⟩) (Int.toNat 4) (List.replicate (Int.toNat 4) 0) :: cel b_1 41 [Value.int .i64 l_Ver, Value.int .i64 l_Inside, Value.int .i64 l_Port, Value.int .i64 l_Secs, Value.int .u64 l_Nonce, Value.int .i64 l_Result, Value.int .i64 l_Epoch, Value.int .u32 l_Host] :: FL) (fun w h => celRdD (z := 1) h 0 rfl [(List.replicate (Int.toNat 4) 0), rs, [17, 0, 0, 0], rs_5, rs_9, rs_12] [[Value.slice (some ⟨b_2, 0, none⟩) (Int.toNat 4) (Int.toNat 4)], [Value.slice p_1 rs.length c_1], [Value.slice (some ⟨b_9, 0, none⟩) 4 4], [Value.slice p_6 rs_5.length c_6], [Value.slice p_10 rs_9.length c_10], [Value.slice p_13 rs_12.length c_13]] rfl rfl (Fa2.cons ⟨_, _, _, rfl, (List.length_replicate).symm, (natLe2 g_1a g_1c g_1b), (fun w h => (rowRd h 6 encL5 rfl))⟩ (Fa2.cons ⟨_, _, _, rfl, rfl, cpp_1, (fun w h => (rowRd h 5 encL5 rfl))⟩ (Fa2.cons ⟨_, _, _, rfl, rfl, (Nat.le_refl _), (fun w h => (celRd h 1 encL5 rfl [17, 0, 0, 0] rfl))⟩ (Fa2.cons ⟨_, _, _, rfl, rfl, cpp_6, (fun w h => (rowRd h 4 encL5 rfl))⟩ (Fa2.cons ⟨_, _, _, rfl, rfl, cpp_10, (fun w h => (rowRd h 3 encL5 rfl))⟩ (Fa2.cons ⟨_, _, _, rfl, rfl, cpp_13, (fun w h => (rowRd h 2 encL5 rfl))⟩ Fa2.nil))))))) rfl (Nat.le_refl _) h hp ?_
      rintro rs_13 p_14 n_14 c_14 w rfl h hp
      have cpp_14 := rowCap h 0 rfl
      refine ⟨_, _, _, rfl, ?_⟩
      replace h := h.sel [0] 8
      dsimp only [pickL, pickR, nthH, delH, dropH, List.cons_append, List.nil_append] at h
      exact hR rs_13 p_14 rs_13.length c_14 _ rfl h hp
    replace hp := hp.2
    refine newL (o := [Value.int .u8 17, Value.int .u8 0, Value.int .u8 0, Value.int .u8 0]) h ?_
    intro b_11 w h
    refine ⟨(h.sel [2] 2), ?_⟩
    refine pcp_big_ok h hp ?_
    rintro rs_14 p_15 n_15 c_15 w rfl h hp
    have cpp_15 := rowCap h 0 rfl
    refine ⟨_, _, _, rfl, ?_⟩
    refine ⟨(h.sel [3] 3), ?_⟩
    refine pcp_big_ok h hp ?_
    rintro rs_15 p_16 n_16 c_16 w rfl h hp
    have cpp_16 := rowCap h 0 rfl
    refine ⟨_, _, _, rfl, ?_⟩
    refine ⟨(h.sel [4] 4), ?_⟩
    refine pcp_big_ok h hp ?_
    rintro rs_16 p_17 n_17 c_17 w rfl h hp
    have cpp_17 := rowCap h 0 rfl
    refine ⟨_, _, _, rfl, ?_⟩
    refine ⟨(h.sel [5] 5), ?_⟩
    refine pcp_host16_ok h hp ?_
    rintro rs_17 p_18 n_18 c_18 w rfl h hp
    have cpp_18 := rowCap h 0 rfl
    refine ⟨_, _, _, rfl, ?_⟩
    refine newL (o := [Value.slice (some ⟨b_2, 0, none⟩) (Int.toNat 4) (Int.toNat 4), Value.slice p_15 rs_14.length c_15, Value.slice (some ⟨b_11, 0, none⟩) 4 4, Value.slice p_16 rs_15.length c_16, Value.slice p_17 rs_16.length c_17, Value.slice p_18 rs_17.length c_18]) h ?_
    intro b_12 w h
    refine sCatY_ok (FL := cel b_12 22 [Value.slice (some ⟨b_2, 0, none⟩) (Int.toNat 4) (Int.toNat 4), Value.slice p_15 rs_14.length c_15, Value.slice (some ⟨b_11, 0, none⟩) 4 4, Value.slice p_16 rs_15.length c_16, Value.slice p_17 rs_16.length c_17, Value.slice p_18 rs_17.length c_18] :: row enc5 5 1 p_18 c_18 rs_17 :: row enc5 5 1 p_17 c_17 rs_16 :: row enc5 5 1 p_16 c_16 rs_15 :: row enc5 5 1 p_15 c_15 rs_14 :: cel b_11 5 [Value.int .u8 17, Value.int .u8 0, Value.int .u8 0, Value.int .u8 0] :: row enc5 5 1 (some ⟨b_2, 0, none⟩) (Int.toNat 4) (List.replicate (Int.toNat 4) 0) :: cel b_1 41 [Value.int .i64 l_Ver, Value.int .i64 l_Inside, Value.int .i64 l_Port, Value.int .i64 l_Secs, Value.int .u64 l_Nonce, Value.int .i64 l_Result, Value.int .i64 l_Epoch, Value.int .u32 l_Host] :: FL) (fun w h => celRdD (z := 1) h 0 rfl [(List.replicate (Int.toNat 4) 0), rs_14, [17, 0, 0, 0], rs_15, rs_16, rs_17] [[Value.slice (some ⟨b_2, 0, none⟩) (Int.toNat 4) (Int.toNat 4)], [Value.slice p_15 rs_14.length c_15], [Value.slice (some ⟨b_11, 0, none⟩) 4 4], [Value.slice p_16 rs_15.length c_16], [Value.slice p_17 rs_16.length c_17], [Value.slice p_18 rs_17.length c_18]] rfl rfl (Fa2.cons ⟨_, _, _, rfl, (List.length_replicate).symm, (natLe2 g_1a g_1c g_1b), (fun w h => (rowRd h 6 encL5 rfl))⟩ (Fa2.cons ⟨_, _, _, rfl, rfl, cpp_15, (fun w h => (rowRd h 4 encL5 rfl))⟩ (Fa2.cons ⟨_, _, _, rfl, rfl, (Nat.le_refl _), (fun w h => (celRd h 5 encL5 rfl [17, 0, 0, 0] rfl))⟩ (Fa2.cons ⟨_, _, _, rfl, rfl, cpp_16, (fun w h => (rowRd h 3 encL5 rfl))⟩ (Fa2.cons ⟨_, _, _, rfl, rfl, cpp_17, (fun w h => (rowRd h 2 encL5 rfl))⟩ (Fa2.cons ⟨_, _, _, rfl, rfl, cpp_18, (fun w h => (rowRd h 1 encL5 rfl))⟩ Fa2.nil))))))) rfl (Nat.le_refl _) h hp ?_
    rintro rs_18 p_19 n_19 c_19 w rfl h hp
    have cpp_19 := rowCap h 0 rfl
    refine ⟨_, _, _, rfl, ?_⟩
    replace h := h.sel [0] 8
    dsimp only [pickL, pickR, nthH, delH, dropH, List.cons_append, List.nil_append] at h
    exact hR rs_18 p_19 rs_18.length c_19 _ rfl h hp
  refine ⟨?_, ?_⟩
  · replace hp := hp.2.1
    refine pcp_big_ok h hp ?_
    rintro rs_19 p_20 n_20 c_20 w rfl h hp
    have cpp_20 := rowCap h 0 rfl
    refine ⟨_, _, _, rfl, ?_⟩
    refine ⟨(h.sel [1] 1), ?_⟩
    refine ⟨?_, ?_⟩
    · replace hp := hp.1
      obtain ⟨g_2a, g_2b, g_2d, g_2e, hp⟩ := hp
      refine ⟨g_2a, g_2b, g_2d, g_2e, ?_⟩
      have g_2c : 0 ≤ (4 : Int) := Int.le_trans g_2a g_2b
      refine makeL (x0 := 0) (T := 5) h encL5 rfl (natLe2 g_2a g_2c g_2b) ?_
      intro b_13 w h
      refine ⟨(h.sel [2] 2), ?_⟩
      refine ⟨?_, ?_⟩
      · replace hp := hp.1
        refine newL (o := [Value.int .u8 17, Value.int .u8 0, Value.int .u8 0, Value.int .u8 0]) h ?_
        intro b_14 w h
        refine ⟨(h.sel [3] 3), ?_⟩
        refine pcp_big_ok h hp ?_
        rintro rs_20 p_21 n_21 c_21 w rfl h hp
        have cpp_21 := rowCap h 0 rfl
        refine ⟨_, _, _, rfl, ?_⟩
        refine ⟨(h.sel [4] 4), ?_⟩
        refine pcp_big_ok h hp ?_
        rintro rs_21 p_22 n_22 c_22 w rfl h hp
        have cpp_22 := rowCap h 0 rfl
        refine ⟨_, _, _, rfl, ?_⟩
        refine ⟨(h.sel [5] 5), ?_⟩
        refine pcp_host16_ok h hp ?_
        rintro rs_22 p_23 n_23 c_23 w rfl h hp
        have cpp_23 := rowCap h 0 rfl
        refine ⟨_, _, _, rfl, ?_⟩
        refine newL (o := [Value.slice (some ⟨b_13, 0, none⟩) (Int.toNat 4) (Int.toNat 4), Value.slice p_20 rs_19.length c_20, Value.slice (some ⟨b_14, 0, none⟩) 4 4, Value.slice p_21 rs_20.length c_21, Value.slice p_22 rs_21.length c_22, Value.slice p_23 rs_22.length c_23]) h ?_
        intro b_15 w h
        refine sCatY_ok (FL := cel b_15 22 [Value.slice (some ⟨b_13, 0, none⟩) (Int.toNat 4) (Int.toNat 4), Value.slice p_20 rs_19.length c_20, Value.slice (some ⟨b_14, 0, none⟩) 4 4, Value.slice p_21 rs_20.length c_21, Value.slice p_22 rs_21.length c_22, Value.slice p_23 rs_22.length c_23] :: row enc5 5 1 p_23 c_23 rs_22 :: row enc5 5 1 p_22 c_22 rs_21 :: row enc5 5 1 p_21 c_21 rs_20 :: cel b_14 5 [Value.int .u8 17, Value.int .u8 0, Value.int .u8 0, Value.int .u8 0] :: row enc5 5 1 (some ⟨b_13, 0, none⟩) (Int.toNat 4) (List.replicate (Int.toNat 4) 0) :: row enc5 5 1 p_20 c_20 rs_19 :: cel b_1 41 [Value.int .i64 l_Ver, Value.int .i64 l_Inside, Value.int .i64 l_Port, Value.int .i64 l_Secs, Value.int .u64 l_Nonce, Value.int .i64 l_Result, Value.int .i64 l_Epoch, Value.int .u32 l_Host] :: FL) (fun w h => celRdD (z := 1) h 0 rfl [(List.replicate (Int.toNat 4) 0), rs_19, [17, 0, 0, 0], rs_20, rs_21, rs_22] [[Value.slice (some ⟨b_13, 0, none⟩) (Int.toNat 4) (Int.toNat 4)], [Value.slice p_20 rs_19.length c_20], [Value.slice (some ⟨b_14, 0, none⟩) 4 4], [Value.slice p_21 rs_20.length c_21], [Value.slice p_22 rs_21.length c_22], [Value.slice p_23 rs_22.length c_23]] rfl rfl (Fa2.cons ⟨_, _, _, rfl, (List.length_replicate).symm, (natLe2 g_2a g_2c g_2b), (fun w h => (rowRd h 5 encL5 rfl))⟩ (Fa2.cons ⟨_, _, _, rfl, rfl, cpp_20, (fun w h => (rowRd h 6 encL5 rfl))⟩ (Fa2.cons ⟨_, _, _, rfl, rfl, (Nat.le_refl _), (fun w h => (celRd h 4 encL5 rfl [17, 0, 0, 0] rfl))⟩ (Fa2.cons ⟨_, _, _, rfl, rfl, cpp_21, (fun w h => (rowRd h 3 encL5 rfl))⟩ (Fa2.cons ⟨_, _, _, rfl, rfl, cpp_22, (fun w h => (rowRd h 2 encL5 rfl))⟩ (Fa2.cons ⟨_, _, _, rfl, rfl, cpp_23, (fun w h => (rowRd h 1 encL5 rfl))⟩ Fa2.nil))))))) rfl (Nat.le_refl _) h hp ?_
        rintro rs_23 p_24 n_24 c_24 w rfl h hp
        have cpp_24 := rowCap h 0 rfl
        refine ⟨_, _, _, rfl, ?_⟩
        replace h := h.sel [0] 8
        dsimp only [pickL, pickR, nthH, delH, dropH, List.cons_append, List.nil_append] at h
        exact hR rs_23 p_24 rs_23.length c_24 _ rfl h hp
      replace hp := hp.2
      refine pcp_big_ok h hp ?_
      rintro rs_24 p_25 n_25 c_25 w rfl h hp
      have cpp_25 := rowCap h 0 rfl
      refine ⟨_, _, _, rfl, ?_⟩
      refine ⟨(h.sel [3] 3), ?_⟩
      refine ⟨?_, ?_⟩
      · replace hp := hp.1
        refine newL (o := [Value.int .u8 17, Value.int .u8 0, Value.int .u8 0, Value.int .u8 0]) h ?_
        intro b_16 w h
        refine ⟨(h.sel [4] 4), ?_⟩
        refine pcp_big_ok h hp ?_
        rintro rs_25 p_26 n_26 c_26 w rfl h hp
        have cpp_26 := rowCap h 0 rfl
        refine ⟨_, _, _, rfl, ?_⟩
        refine ⟨(h.sel [5] 5), ?_⟩
        refine pcp_host16_ok h hp ?_
        rintro rs_26 p_27 n_27 c_27 w rfl h hp
        have cpp_27 := rowCap h 0 rfl
        refine ⟨_, _, _, rfl, ?_⟩
        refine newL (o := [Value.slice (some ⟨b_13, 0, none⟩) (Int.toNat 4) (Int.toNat 4), Value.slice p_20 rs_19.length c_20, Value.slice (some ⟨b_16, 0, none⟩) 4 4, Value.slice p_25 rs_24.length c_25, Value.slice p_26 rs_25.length c_26, Value.slice p_27 rs_26.length c_27]) h ?_
        intro b_17 w h
        refine sCatY_ok (FL := cel b_17 22 [Value.slice (some ⟨b_13, 0, none⟩) (Int.toNat 4) (Int.toNat 4), Value.slice p_20 rs_19.length c_20, Value.slice (some ⟨b_16, 0, none⟩) 4 4, Value.slice p_25 rs_24.length c_25, Value.slice p_26 rs_25.length c_26, Value.slice p_27 rs_26.length c_27] :: row enc5 5 1 p_27 c_27 rs_26 :: row enc5 5 1 p_26 c_26 rs_25 :: cel b_16 5 [Value.int .u8 17, Value.int .u8 0, Value.int .u8 0, Value.int .u8 0] :: row enc5 5 1 p_25 c_25 rs_24 :: row enc5 5 1 (some ⟨b_13, 0, none⟩) (Int.toNat 4) (List.replicate (Int.toNat 4) 0) :: row enc5 5 1 p_20 c_20 rs_19 :: cel b_1 41 [Value.int .i64 l_Ver, Value.int .i64 l_Inside, Value.int .i64 l_Port, Value.int .i64 l_Secs, Value.int .u64 l_Nonce, Value.int .i64 l_Result, Value.int .i64 l_Epoch, Value.int .u32 l_Host] :: FL) (fun w h => celRdD (z := 1) h 0 rfl [(List.replicate (Int.toNat 4) 0), rs_19, [17, 0, 0, 0], rs_24, rs_25, rs_26] [[Value.slice (some ⟨b_13, 0, none⟩) (Int.toNat 4) (Int.toNat 4)], [Value.slice p_20 rs_19.length c_20], [Value.slice (some ⟨b_16, 0, none⟩) 4 4], [Value.slice p_25 rs_24.length c_25], [Value.slice p_26 rs_25.length c_26], [Value.slice p_27 rs_26.length c_27]] rfl rfl (Fa2.cons ⟨_, _, _, rfl, (List.length_replicate).symm, (natLe2 g_2a g_2c g_2b), (fun w h => (rowRd h 5 encL5 rfl))⟩ (Fa2.cons ⟨_, _, _, rfl, rfl, cpp_20, (fun w h => (rowRd h 6 encL5 rfl))⟩ (Fa2.cons ⟨_, _, _, rfl, rfl, (Nat.le_refl _), (fun w h => (celRd h 3 encL5 rfl [17, 0, 0, 0] rfl))⟩ (Fa2.cons ⟨_, _, _, rfl, rfl, cpp_25, (fun w h => (rowRd h 4 encL5 rfl))⟩ (Fa2.cons ⟨_, _, _, rfl, rfl, cpp_26, (fun w h => (rowRd h 2 encL5 rfl))⟩ (Fa2.cons ⟨_, _, _, rfl, rfl, cpp_27, (fun w h => (rowRd h 1 encL5 rfl))⟩ Fa2.nil))))))) rfl (Nat.le_refl _) h hp ?_
        rintro rs_27 p_28 n_28 c_28 w rfl h hp
        have cpp_28 := rowCap h 0 rfl
        refine ⟨_, _, _, rfl, ?_⟩
        replace h := h.sel [0] 8
        dsimp only [pickL, pickR, nthH, delH, dropH, List.cons_append, List.nil_append] at h
        exact hR rs_27 p_28 rs_27.length c_28 _ rfl h hp
      replace hp := hp.2
      refine pcp_big_ok h hp ?_
      rintro rs_28 p_29 n_29 c_29 w rfl h hp
      have cpp_29 := rowCap h 0 rfl
      refine ⟨_, _, _, rfl, ?_⟩
      refine ⟨(h.sel [4] 4), ?_⟩
      refine ⟨?_, ?_⟩
      · replace hp := hp.1
        refine newL (o := [Value.int .u8 17, Value.int .u8 0, Value.int .u8 0, Value.int .u8 0]) h ?_
        intro b_18 w h
        refine ⟨(h.sel [5] 5), ?_⟩
        refine pcp_host16_ok h hp ?_
        rintro rs_29 p_30 n_30 c_30 w rfl h hp
        have cpp_30 := rowCap h 0 rfl
        refine ⟨_, _, _, rfl, ?_⟩
        refine newL (o := [Value.slice (some ⟨b_13, 0, none⟩) (Int.toNat 4) (Int.toNat 4), Value.slice p_20 rs_19.length c_20, Value.slice (some ⟨b_18, 0, none⟩) 4 4, Value.slice p_25 rs_24.length c_25, Value.slice p_29 rs_28.length c_29, Value.slice p_30 rs_29.length c_30]) h ?_
        intro b_19 w h
        refine sCatY_ok (FL := cel b_19 22 [Value.slice (some ⟨b_13, 0, none⟩) (Int.toNat 4) (Int.toNat 4), Value.slice p_20 rs_19.length c_20, Value.slice (some ⟨b_18, 0, none⟩) 4 4, Value.slice p_25 rs_24.length c_25, Value.slice p_29 rs_28.length c_29, Value.slice p_30 rs_29.length c_30] :: row enc5 5 1 p_30 c_30 rs_29 :: cel b_18 5 [Value.int .u8 17, Value.int .u8 0, Value.int .u8 0, Value.int .u8 0] :: row enc5 5 1 p_29 c_29 rs_28 :: row enc5 5 1 p_25 c_25 rs_24 :: row enc5 5 1 (some ⟨b_13, 0, none⟩) (Int.toNat 4) (List.replicate (Int.toNat 4) 0) :: row enc5 5 1 p_20 c_20 rs_19 :: cel b_1 41 [Value.int .i64 l_Ver, Value.int .i64 l_Inside, Value.int .i64 l_Port, Value.int .i64 l_Secs, Value.int .u64 l_Nonce, Value.int .i64 l_Result, Value.int .i64 l_Epoch, Value.int .u32 l_Host] :: FL) (fun w h => celRdD (z := 1) h 0 rfl [(List.replicate (Int.toNat 4) 0), rs_19, [17, 0, 0, 0], rs_24, rs_28, rs_29] [[Value.slice (some ⟨b_13, 0, none⟩) (Int.toNat 4) (Int.toNat 4)], [Value.slice p_20 rs_19.length c_20], [Value.slice (some ⟨b_18, 0, none⟩) 4 4], [Value.slice p_25 rs_24.length c_25], [Value.slice p_29 rs_28.length c_29], [Value.slice p_30 rs_29.length c_30]] rfl rfl (Fa2.cons ⟨_, _, _, rfl, (List.length_replicate).symm, (natLe2 g_2a g_2c g_2b), (fun w h => (rowRd h 5 encL5 rfl))⟩ (Fa2.cons ⟨_, _, _, rfl, rfl, cpp_20, (fun w h => (rowRd h 6 encL5 rfl))⟩ (Fa2.cons ⟨_, _, _, rfl, rfl, (Nat.le_refl _), (fun w h => (celRd h 2 encL5 rfl [17, 0, 0, 0] rfl))⟩ (Fa2.cons ⟨_, _, _, rfl, rfl, cpp_25, (fun w h => (rowRd h 4 encL5 rfl))⟩ (Fa2.cons ⟨_, _, _, rfl, rfl, cpp_29, (fun w h => (rowRd h 3 encL5 rfl))⟩ (Fa2.cons ⟨_, _, _, rfl, rfl, cpp_30, (fun w h => (rowRd h 1 encL5 rfl))⟩ Fa2.nil))))))) rfl (Nat.le_refl _) h hp ?_
        rintro rs_30 p_31 n_31 c_31 w rfl h hp
        have cpp_31 := rowCap h 0 rfl
        refine ⟨_, _, _, rfl, ?_⟩
        replace h := h.sel [0] 8
        dsimp only [pickL, pickR, nthH, delH, dropH, List.cons_append, List.nil_append] at h
        exact hR rs_30 p_31 rs_30.length c_31 _ rfl h hp
      replace hp := hp.2
      refine pcp_host16_ok h hp ?_
      rintro rs_31 p_32 n_32 c_32 w rfl h hp
      have cpp_32 := rowCap h 0 rfl
      refine ⟨_, _, _, rfl, ?_⟩
      refine newL (o := [Value.int .u8 17, Value.int .u8 0, Value.int .u8 0, Value.int .u8 0]) h ?_
      intro b_20 w h
      refine ⟨(h.sel [6] 6), ?_⟩
      refine newL (o := [Value.slice (some ⟨b_13, 0, none⟩) (Int.toNat 4) (Int.toNat 4), Value.slice p_20 rs_19.length c_20, Value.slice (some ⟨b_20, 0, none⟩) 4 4, Value.slice p_25 rs_24.length c_25, Value.slice p_29 rs_28.length c_29, Value.slice p_32 rs_31.length c_32]) h ?_
      intro b_21 w h
      refine sCatY_ok (FL := cel b_21 22 [Value.slice (some ⟨b_13, 0, none⟩) (Int.toNat 4) (Int.toNat 4), Value.slice p_20 rs_19.length c_20, Value.slice (some ⟨b_20, 0, none⟩) 4 4, Value.slice p_25 rs_24.length c_25, Value.slice p_29 rs_28.length c_29, Value.slice p_32 rs_31.length c_32] :: cel b_20 5 [Value.int .u8 17, Value.int .u8 0, Value.int .u8 0, Value.int .u8 0] :: row enc5 5 1 p_32 c_32 rs_31 :: row enc5 5 1 p_29 c_29 rs_28 :: row enc5 5 1 p_25 c_25 rs_24 :: row enc5 5 1 (some ⟨b_13, 0, none⟩) (Int.toNat 4) (List.replicate (Int.toNat 4) 0) :: row enc5 5 1 p_20 c_20 rs_19 :: cel b_1 41 [Value.int .i64 l_Ver, Value.int .i64 l_Inside, Value.int .i64 l_Port, Value.int .i64 l_Secs, Value.int .u64 l_Nonce, Value.int .i64 l_Result, Value.int .i64 l_Epoch, Value.int .u32 l_Host] :: FL) (fun w h => celRdD (z := 1) h 0 rfl [(List.replicate (Int.toNat 4) 0), rs_19, [17, 0, 0, 0], rs_24, rs_28, rs_31] [[Value.slice (some ⟨b_13, 0, none⟩) (Int.toNat 4) (Int.toNat 4)], [Value.slice p_20 rs_19.length c_20], [Value.slice (some ⟨b_20, 0, none⟩) 4 4], [Value.slice p_25 rs_24.length c_25], [Value.slice p_29 rs_28.length c_29], [Value.slice p_32 rs_31.length c_32]] rfl rfl (Fa2.cons ⟨_, _, _, rfl, (List.length_replicate).symm, (natLe2 g_2a g_2c g_2b), (fun w h => (rowRd h 5 encL5 rfl))⟩ (Fa2.cons ⟨_, _, _, rfl, rfl, cpp_20, (fun w h => (rowRd h 6 encL5 rfl))⟩ (Fa2.cons ⟨_, _, _, rfl, rfl, (Nat.le_refl _), (fun w h => (celRd h 1 encL5 rfl [17, 0, 0, 0] rfl))⟩ (Fa2.cons ⟨_, _, _, rfl, rfl, cpp_25, (fun w h => (rowRd h 4 encL5 rfl))⟩ (Fa2.cons ⟨_, _, _, rfl, rfl, cpp_29, (fun w h => (rowRd h 3 encL5 rfl))⟩ (Fa2.cons ⟨_, _, _, rfl, rfl, cpp_32, (fun w h => (rowRd h 2 encL5 rfl))⟩ Fa2.nil))))))) rfl (Nat.le_refl _) h hp ?_
      rintro rs_32 p_33 n_33 c_33 w rfl h hp
      have cpp_33 := rowCap h 0 rfl
      refine ⟨_, _, _, rfl, ?_⟩
      replace h := h.sel [0] 8
      dsimp only [pickL, pickR, nthH, delH, dropH, List.cons_append, List.nil_append] at h
      exact hR rs_32 p_33 rs_32.length c_33 _ rfl h hp
    refine ⟨?_, ?_⟩
    · replace hp := hp.2.1
      refine newL (o := [Value.int .u8 17, Value.int .u8 0, Value.int .u8 0, Value.int .u8 0]) h ?_
      intro b_22 w h
      refine ⟨(h.sel [2] 2), ?_⟩
      refine ⟨?_, ?_⟩
      · replace hp := hp.1
        obtain ⟨g_3a, g_3b, g_3d, g_3e, hp⟩ := hp
        refine ⟨g_3a, g_3b, g_3d, g_3e, ?_⟩
        have g_3c : 0 ≤ (4 : Int) := Int.le_trans g_3a g_3b
        refine makeL (x0 := 0) (T := 5) h encL5 rfl (natLe2 g_3a g_3c g_3b) ?_
        intro b_23 w h
        refine ⟨(h.sel [3] 3), ?_⟩
        refine pcp_big_ok h hp ?_
        rintro rs_33 p_34 n_34 c_34 w rfl h hp
        have cpp_34 := rowCap h 0 rfl
        refine ⟨_, _, _, rfl, ?_⟩
        refine ⟨(h.sel [4] 4), ?_⟩
        refine pcp_big_ok h hp ?_
        rintro rs_34 p_35 n_35 c_35 w rfl h hp
        have cpp_35 := rowCap h 0 rfl
        refine ⟨_, _, _, rfl, ?_⟩
        refine ⟨(h.sel [5] 5), ?_⟩
        refine pcp_host16_ok h hp ?_
        rintro rs_35 p_36 n_36 c_36 w rfl h hp
        have cpp_36 := rowCap h 0 rfl
        refine ⟨_, _, _, rfl, ?_⟩
        refine newL (o := [Value.slice (some ⟨b_23, 0, none⟩) (Int.toNat 4) (Int.toNat 4), Value.slice p_20 rs_19.length c_20, Value.slice (some ⟨b_22, 0, none⟩) 4 4, Value.slice p_34 rs_33.length c_34, Value.slice p_35 rs_34.length c_35, Value.slice p_36 rs_35.length c_36]) h ?_
        intro b_24 w h
        refine sCatY_ok (FL := cel b_24 22 [Value.slice (some ⟨b_23, 0, none⟩) (Int.toNat 4) (Int.toNat 4), Value.slice p_20 rs_19.length c_20, Value.slice (some ⟨b_22, 0, none⟩) 4 4, Value.slice p_34 rs_33.length c_34, Value.slice p_35 rs_34.length c_35, Value.slice p_36 rs_35.length c_36] :: row enc5 5 1 p_36 c_36 rs_35 :: row enc5 5 1 p_35 c_35 rs_34 :: row enc5 5 1 p_34 c_34 rs_33 :: row enc5 5 1 (some ⟨b_23, 0, none⟩) (Int.toNat 4) (List.replicate (Int.toNat 4) 0) :: cel b_22 5 [Value.int .u8 17, Value.int .u8 0, Value.int .u8 0, Value.int .u8 0] :: row enc5 5 1 p_20 c_20 rs_19 :: cel b_1 41 [Value.int .i64 l_Ver, Value.int .i64 l_Inside, Value.int .i64 l_Port, Value.int .i64 l_Secs, Value.int .u64 l_Nonce, Value.int .i64 l_Result, Value.int .i64 l_Epoch, Value.int .u32 l_Host] :: FL) (fun w h => celRdD (z := 1) h 0 rfl [(List.replicate (Int.toNat 4) 0), rs_19, [17, 0, 0, 0], rs_33, rs_34, rs_35] [[Value.slice (some ⟨b_23, 0, none⟩) (Int.toNat 4) (Int.toNat 4)], [Value.slice p_20 rs_19.length c_20], [Value.slice (some ⟨b_22, 0, none⟩) 4 4], [Value.slice p_34 rs_33.length c_34], [Value.slice p_35 rs_34.length c_35], [Value.slice p_36 rs_35.length c_36]] rfl rfl (Fa2.cons ⟨_, _, _, rfl, (List.length_replicate).symm, (natLe2 g_3a g_3c g_3b), (fun w h => (rowRd h 4 encL5 rfl))⟩ (Fa2.cons ⟨_, _, _, rfl, rfl, cpp_20, (fun w h => (rowRd h 6 encL5 rfl))⟩ (Fa2.cons ⟨_, _, _, rfl, rfl, (Nat.le_refl _), (fun w h => (celRd h 5 encL5 rfl [17, 0, 0, 0] rfl))⟩ (Fa2.cons ⟨_, _, _, rfl, rfl, cpp_34, (fun w h => (rowRd h 3 encL5 rfl))⟩ (Fa2.cons ⟨_, _, _, rfl, rfl, cpp_35, (fun w h => (rowRd h 2 encL5 rfl))⟩ (Fa2.cons ⟨_, _, _, rfl, rfl, cpp_36, (fun w h => (rowRd h 1 encL5 rfl))⟩ Fa2.nil))))))) rfl (Nat.le_refl _) h hp ?_
        rintro rs_36 p_37 n_37 c_37 w rfl h hp
        have cpp_37 := rowCap h 0 rfl
        refine ⟨_, _, _, rfl, ?_⟩
        replace h := h.sel [0] 8
        dsimp only [pickL, pickR, nthH, delH, dropH, List.cons_append, List.nil_append] at h
        exact hR rs_36 p_37 rs_36.length c_37 _ rfl h hp
      replace hp := hp.2
      refine pcp_big_ok h hp ?_
      rintro rs_37 p_38 n_38 c_38 w rfl h hp
      have cpp_38 := rowCap h 0 rfl
      refine ⟨_, _, _, rfl, ?_⟩
      refine ⟨(h.sel [3] 3), ?_⟩
      refine ⟨?_, ?_⟩
      · replace hp := hp.1
        obtain ⟨g_4a, g_4b, g_4d, g_4e, hp⟩ := hp
        refine ⟨g_4a, g_4b, g_4d, g_4e, ?_⟩
        have g_4c : 0 ≤ (4 : Int) := Int.le_trans g_4a g_4b
        refine makeL (x0 := 0) (T := 5) h encL5 rfl (natLe2 g_4a g_4c g_4b) ?_
        intro b_25 w h
        refine ⟨(h.sel [4] 4), ?_⟩
        refine pcp_big_ok h hp ?_
        rintro rs_38 p_39 n_39 c_39 w rfl h hp
        have cpp_39 := rowCap h 0 rfl
        refine ⟨_, _, _, rfl, ?_⟩
        refine ⟨(h.sel [5] 5), ?_⟩
        refine pcp_host16_ok h hp ?_
        rintro rs_39 p_40 n_40 c_40 w rfl h hp
        have cpp_40 := rowCap h 0 rfl
        refine ⟨_, _, _, rfl, ?_⟩
        refine newL (o := [Value.slice (some ⟨b_25, 0, none⟩) (Int.toNat 4) (Int.toNat 4), Value.slice p_20 rs_19.length c_20, Value.slice (some ⟨b_22, 0, none⟩) 4 4, Value.slice p_38 rs_37.length c_38, Value.slice p_39 rs_38.length c_39, Value.slice p_40 rs_39.length c_40]) h ?_
        intro b_26 w h
        refine sCatY_ok (FL := cel b_26 22 [Value.slice (some ⟨b_25, 0, none⟩) (Int.toNat 4) (Int.toNat 4), Value.slice p_20 rs_19.length c_20, Value.slice (some ⟨b_22, 0, none⟩) 4 4, Value.slice p_38 rs_37.length c_38, Value.slice p_39 rs_38.length c_39, Value.slice p_40 rs_39.length c_40] :: row enc5 5 1 p_40 c_40 rs_39 :: row enc5 5 1 p_39 c_39 rs_38 :: row enc5 5 1 (some ⟨b_25, 0, none⟩) (Int.toNat 4) (List.replicate (Int.toNat 4) 0) :: row enc5 5 1 p_38 c_38 rs_37 :: cel b_22 5 [Value.int .u8 17, Value.int .u8 0, Value.int .u8 0, Value.int .u8 0] :: row enc5 5 1 p_20 c_20 rs_19 :: cel b_1 41 [Value.int .i64 l_Ver, Value.int .i64 l_Inside, Value.int .i64 l_Port, Value.int .i64 l_Secs, Value.int .u64 l_Nonce, Value.int .i64 l_Result, Value.int .i64 l_Epoch, Value.int .u32 l_Host] :: FL) (fun w h => celRdD (z := 1) h 0 rfl [(List.replicate (Int.toNat 4) 0), rs_19, [17, 0, 0, 0], rs_37, rs_38, rs_39] [[Value.slice (some ⟨b_25, 0, none⟩) (Int.toNat 4) (Int.toNat 4)], [Value.slice p_20 rs_19.length c_20], [Value.slice (some ⟨b_22, 0, none⟩) 4 4], [Value.slice p_38 rs_37.length c_38], [Value.slice p_39 rs_38.length c_39], [Value.slice p_40 rs_39.length c_40]] rfl rfl (Fa2.cons ⟨_, _, _, rfl, (List.length_replicate).symm, (natLe2 g_4a g_4c g_4b), (fun w h => (rowRd h 3 encL5 rfl))⟩ (Fa2.cons ⟨_, _, _, rfl, rfl, cpp_20, (fun w h => (rowRd h 6 encL5 rfl))⟩ (Fa2.cons ⟨_, _, _, rfl, rfl, (Nat.le_refl _), (fun w h => (celRd h 5 encL5 rfl [17, 0, 0, 0] rfl))⟩ (Fa2.cons ⟨_, _, _, rfl, rfl, cpp_38, (fun w h => (rowRd h 4 encL5 rfl))⟩ (Fa2.cons ⟨_, _, _, rfl, rfl, cpp_39, (fun w h => (rowRd h 2 encL5 rfl))⟩ (Fa2.cons ⟨_, _, _, rfl, rfl, cpp_40, (fun w h => (rowRd h 1 encL5 rfl))⟩ Fa2.nil))))))) rfl (Nat.le_refl _) h hp ?_
        rintro rs_40 p_41 n_41 c_41 w rfl h hp
        have cpp_41 := rowCap h 0 rfl
        refine ⟨_, _, _, rfl, ?_⟩
        replace h := h.sel [0] 8
        dsimp only [pickL, pickR, nthH, delH, dropH, List.cons_append, List.nil_append] at h
        exact hR rs_40 p_41 rs_40.length c_41 _ rfl h hp
      replace hp := hp.2
      refine pcp_big_ok h hp ?_
      rintro rs_41 p_42 n_42 c_42 w rfl h hp
      have cpp_42 := rowCap h 0 rfl
      refine ⟨_, _, _, rfl, ?_⟩
      refine ⟨(h.sel [4] 4), ?_⟩
      refine ⟨?_, ?_⟩
      · replace hp := hp.1
        obtain ⟨g_5a, g_5b, g_5d, g_5e, hp⟩ := hp
        refine ⟨g_5a, g_5b, g_5d, g_5e, ?_⟩
        have g_5c : 0 ≤ (4 : Int) := Int.le_trans g_5a g_5b
        refine makeL (x0 := 0) (T := 5) h encL5 rfl (natLe2 g_5a g_5c g_5b) ?_
        intro b_27 w h
        refine ⟨(h.sel [5] 5), ?_⟩
        refine pcp_host16_ok h hp ?_
        rintro rs_42 p_43 n_43 c_43 w rfl h hp
        have cpp_43 := rowCap h 0 rfl
        refine ⟨_, _, _, rfl, ?_⟩
        refine newL (o := [Value.slice (some ⟨b_27, 0, none⟩) (Int.toNat 4) (Int.toNat 4), Value.slice p_20 rs_19.length c_20, Value.slice (some ⟨b_22, 0, none⟩) 4 4, Value.slice p_38 rs_37.length c_38, Value.slice p_42 rs_41.length c_42, Value.slice p_43 rs_42.length c_43]) h ?_
        intro b_28 w h
        refine sCatY_ok (FL := cel b_28 22 [Value.slice (some ⟨b_27, 0, none⟩) (Int.toNat 4) (Int.toNat 4), Value.slice p_20 rs_19.length c_20, Value.slice (some ⟨b_22, 0, none⟩) 4 4, Value.slice p_38 rs_37.length c_38, Value.slice p_42 rs_41.length c_42, Value.slice p_43 rs_42.length c_43] :: row enc5 5 1 p_43 c_43 rs_42 :: row enc5 5 1 (some ⟨b_27, 0, none⟩) (Int.toNat 4) (List.replicate (Int.toNat 4) 0) :: row enc5 5 1 p_42 c_42 rs_41 :: row enc5 5 1 p_38 c_38 rs_37 :: cel b_22 5 [Value.int .u8 17, Value.int .u8 0, Value.int .u8 0, Value.int .u8 0] :: row enc5 5 1 p_20 c_20 rs_19 :: cel b_1 41 [Value.int .i64 l_Ver, Value.int .i64 l_Inside, Value.int .i64 l_Port, Value.int .i64 l_Secs, Value.int .u64 l_Nonce, Value.int .i64 l_Result, Value.int .i64 l_Epoch, Value.int .u32 l_Host] :: FL) (fun w h => celRdD (z := 1) h 0 rfl [(List.replicate (Int.toNat 4) 0), rs_19, [17, 0, 0, 0], rs_37, rs_41, rs_42] [[Value.slice (some ⟨b_27, 0, none⟩) (Int.toNat 4) (Int.toNat 4)], [Value.slice p_20 rs_19.length c_20], [Value.slice (some ⟨b_22, 0, none⟩) 4 4], [Value.slice p_38 rs_37.length c_38], [Value.slice p_42 rs_41.length c_42], [Value.slice p_43 rs_42.length c_43]] rfl rfl (Fa2.cons ⟨_, _, _, rfl, (List.length_replicate).symm, (natLe2 g_5a g_5c g_5b), (fun w h => (rowRd h 2 encL5 rfl))⟩ (Fa2.cons ⟨_, _, _, rfl, rfl, cpp_20, (fun w h => (rowRd h 6 encL5 rfl))⟩ (Fa2.cons ⟨_, _, _, rfl, rfl, (Nat.le_refl _), (fun w h => (celRd h 5 encL5 rfl [17, 0, 0, 0] rfl))⟩ (Fa2.cons ⟨_, _, _, rfl, rfl, cpp_38, (fun w h => (rowRd h 4 encL5 rfl))⟩ (Fa2.cons ⟨_, _, _, rfl, rfl, cpp_42, (fun w h => (rowRd h 3 encL5 rfl))⟩ (Fa2.cons ⟨_, _, _, rfl, rfl, cpp_43, (fun w h => (rowRd h 1 encL5 rfl))⟩ Fa2.nil))))))) rfl (Nat.le_refl _) h hp ?_
        rintro rs_43 p_44 n_44 c_44 w rfl h hp
        have cpp_44 := rowCap h 0 rfl
        refine ⟨_, _, _, rfl, ?_⟩
        replace h := h.sel [0] 8
        dsimp only [pickL, pickR, nthH, delH, dropH, List.cons_append, List.nil_append] at h
        exact hR rs_43 p_44 rs_43.length c_44 _ rfl h hp
      replace hp := hp.2
      refine pcp_host16_ok h hp ?_
      rintro rs_44 p_45 n_45 c_45 w rfl h hp
      have cpp_45 := rowCap h 0 rfl
      refine ⟨_, _, _, rfl, ?_⟩
      obtain ⟨g_6a, g_6b, g_6d, g_6e, hp⟩ := hp
      refine ⟨g_6a, g_6b, g_6d, g_6e, ?_⟩
      have g_6c : 0 ≤ (4 : Int) := Int.le_trans g_6a g_6b
      refine makeL (x0 := 0) (T := 5) h encL5 rfl (natLe2 g_6a g_6c g_6b) ?_
      intro b_29 w h
      refine ⟨(h.sel [6] 6), ?_⟩
      refine newL (o := [Value.slice (some ⟨b_29, 0, none⟩) (Int.toNat 4) (Int.toNat 4), Value.slice p_20 rs_19.length c_20, Value.slice (some ⟨b_22, 0, none⟩) 4 4, Value.slice p_38 rs_37.length c_38, Value.slice p_42 rs_41.length c_42, Value.slice p_45 rs_44.length c_45]) h ?_
      intro b_30 w h
      refine sCatY_ok (FL := cel b_30 22 [Value.slice (some ⟨b_29, 0, none⟩) (Int.toNat 4) (Int.toNat 4), Value.slice p_20 rs_19.length c_20, Value.slice (some ⟨b_22, 0, none⟩) 4 4, Value.slice p_38 rs_37.length c_38, Value.slice p_42 rs_41.length c_42, Value.slice p_45 rs_44.length c_45] :: row enc5 5 1 (some ⟨b_29, 0, none⟩) (Int.toNat 4) (List.replicate (Int.toNat 4) 0) :: row enc5 5 1 p_45 c_45 rs_44 :: row enc5 5 1 p_42 c_42 rs_41 :: row enc5 5 1 p_38 c_38 rs_37 :: cel b_22 5 [Value.int .u8 17, Value.int .u8 0, Value.int .u8 0, Value.int .u8 0] :: row enc5 5 1 p_20 c_20 rs_19 :: cel b_1 41 [Value.int .i64 l_Ver, Value.int .i64 l_Inside, Value.int .i64 l_Port, Value.int .i64 l_Secs, Value.int .u64 l_Nonce, Value.int .i64 l_Result, Value.int .i64 l_Epoch, Value.int .u32 l_Host] :: FL) (fun w h => celRdD (z := 1) h 0 rfl [(List.replicate (Int.toNat 4) 0), rs_19, [17, 0, 0, 0], rs_37, rs_41, rs_44] [[Value.slice (some ⟨b_29, 0, none⟩) (Int.toNat 4) (Int.toNat 4)], [Value.slice p_20 rs_19.length c_20], [Value.slice (some ⟨b_22, 0, none⟩) 4 4], [Value.slice p_38 rs_37.length c_38], [Value.slice p_42 rs_41.length c_42], [Value.slice p_45 rs_44.length c_45]] rfl rfl (Fa2.cons ⟨_, _, _, rfl, (List.length_replicate).symm, (natLe2 g_6a g_6c g_6b), (fun w h => (rowRd h 1 encL5 rfl))⟩ (Fa2.cons ⟨_, _, _, rfl, rfl, cpp_20, (fun w h => (rowRd h 6 encL5 rfl))⟩ (Fa2.cons ⟨_, _, _, rfl, rfl, (Nat.le_refl _), (fun w h => (celRd h 5 encL5 rfl [17, 0, 0, 0] rfl))⟩ (Fa2.cons ⟨_, _, _, rfl, rfl, cpp_38, (fun w h => (rowRd h 4 encL5 rfl))⟩ (Fa2.cons ⟨_, _, _, rfl, rfl, cpp_42, (fun w h => (rowRd h 3 encL5 rfl))⟩ (Fa2.cons ⟨_, _, _, rfl, rfl, cpp_45, (fun w h => (rowRd h 2 encL5 rfl))⟩ Fa2.nil))))))) rfl (Nat.le_refl _) h hp ?_
      rintro rs_45 p_46 n_46 c_46 w rfl h hp
      have cpp_46 := rowCap h 0 rfl
      refine ⟨_, _, _, rfl, ?_⟩
      replace h := h.sel [0] 8
      dsimp only [pickL, pickR, nthH, delH, dropH, List.cons_append, List.nil_append] at h
      exact hR rs_45 p_46 rs_45.length c_46 _ rfl h hp
    replace hp := hp.2.2
    refine pcp_big_ok h hp ?_
    rintro rs_46 p_47 n_47 c_47 w rfl h hp
    have cpp_47 := rowCap h 0 rfl
    refine ⟨_, _, _, rfl, ?_⟩
    refine ⟨(h.sel [2] 2), ?_⟩
    refine ⟨?_, ?_⟩
    · replace hp := hp.1
      obtain ⟨g_7a, g_7b, g_7d, g_7e, hp⟩ := hp
      refine ⟨g_7a, g_7b, g_7d, g_7e, ?_⟩
      have g_7c : 0 ≤ (4 : Int) := Int.le_trans g_7a g_7b
      refine makeL (x0 := 0) (T := 5) h encL5 rfl (natLe2 g_7a g_7c g_7b) ?_
      intro b_31 w h
      refine ⟨(h.sel [3] 3), ?_⟩
      refine ⟨?_, ?_⟩
      · replace hp := hp.1
        refine newL (o := [Value.int .u8 17, Value.int .u8 0, Value.int .u8 0, Value.int .u8 0]) h ?_
        intro b_32 w h
        refine ⟨(h.sel [4] 4), ?_⟩
        refine pcp_big_ok h hp ?_
        rintro rs_47 p_48 n_48 c_48 w rfl h hp
        have cpp_48 := rowCap h 0 rfl
        refine ⟨_, _, _, rfl, ?_⟩
        refine ⟨(h.sel [5] 5), ?_⟩
        refine pcp_host16_ok h hp ?_
        rintro rs_48 p_49 n_49 c_49 w rfl h hp
        have cpp_49 := rowCap h 0 rfl
        refine ⟨_, _, _, rfl, ?_⟩
        refine newL (o := [Value.slice (some ⟨b_31, 0, none⟩) (Int.toNat 4) (Int.toNat 4), Value.slice p_20 rs_19.length c_20, Value.slice (some ⟨b_32, 0, none⟩) 4 4, Value.slice p_47 rs_46.length c_47, Value.slice p_48 rs_47.length c_48, Value.slice p_49 rs_48.length c_49]) h ?_
        intro b_33 w h
        refine sCatY_ok (FL := cel b_33 22 [Value.slice (some ⟨b_31, 0, none⟩) (Int.toNat 4) (Int.toNat 4), Value.slice p_20 rs_19.length c_20, Value.slice (some ⟨b_32, 0, none⟩) 4 4, Value.slice p_47 rs_46.length c_47, Value.slice p_48 rs_47.length c_48, Value.slice p_49 rs_48.length c_49] :: row enc5 5 1 p_49 c_49 rs_48 :: row enc5 5 1 p_48 c_48 rs_47 :: cel b_32 5 [Value.int .u8 17, Value.int .u8 0, Value.int .u8 0, Value.int .u8 0] :: row enc5 5 1 (some ⟨b_31, 0, none⟩) (Int.toNat 4) (List.replicate (Int.toNat 4) 0) :: row enc5 5 1 p_47 c_47 rs_46 :: row enc5 5 1 p_20 c_20 rs_19 :: cel b_1 41 [Value.int .i64 l_Ver, Value.int .i64 l_Inside, Value.int .i64 l_Port, Value.int .i64 l_Secs, Value.int .u64 l_Nonce, Value.int .i64 l_Result, Value.int .i64 l_Epoch, Value.int .u32 l_Host] :: FL) (fun w h => celRdD (z := 1) h 0 rfl [(List.replicate (Int.toNat 4) 0), rs_19, [17, 0, 0, 0], rs_46, rs_47, rs_48] [[Value.slice (some ⟨b_31, 0, none⟩) (Int.toNat 4) (Int.toNat 4)], [Value.slice p_20 rs_19.length c_20], [Value.slice (some ⟨b_32, 0, none⟩) 4 4], [Value.slice p_47 rs_46.length c_47], [Value.slice p_48 rs_47.length c_48], [Value.slice p_49 rs_48.length c_49]] rfl rfl (Fa2.cons ⟨_, _, _, rfl, (List.length_replicate).symm, (natLe2 g_7a g_7c g_7b), (fun w h => (rowRd h 4 encL5 rfl))⟩ (Fa2.cons ⟨_, _, _, rfl, rfl, cpp_20, (fun w h => (rowRd h 6 encL5 rfl))⟩ (Fa2.cons ⟨_, _, _, rfl, rfl, (Nat.le_refl _), (fun w h => (celRd h 3 encL5 rfl [17, 0, 0, 0] rfl))⟩ (Fa2.cons ⟨_, _, _, rfl, rfl, cpp_47, (fun w h => (rowRd h 5 encL5 rfl))⟩ (Fa2.cons ⟨_, _, _, rfl, rfl, cpp_48, (fun w h => (rowRd h 2 encL5 rfl))⟩ (Fa2.cons ⟨_, _, _, rfl, rfl, cpp_49, (fun w h => (rowRd h 1 encL5 rfl))⟩ Fa2.nil))))))) rfl (Nat.le_refl _) h hp ?_
        rintro rs_49 p_50 n_50 c_50 w rfl h hp
        have cpp_50 := rowCap h 0 rfl
        refine ⟨_, _, _, rfl, ?_⟩
        replace h := h.sel [0] 8
        dsimp only [pickL, pickR, nthH, delH, dropH, List.cons_append, List.nil_append] at h
        exact hR rs_49 p_50 rs_49.length c_50 _ rfl h hp
      replace hp := hp.2
      refine pcp_big_ok h hp ?_
      rintro rs_50 p_51 n_51 c_51 w rfl h hp
      have cpp_51 := rowCap h 0 rfl
      refine ⟨_, _, _, rfl, ?_⟩
      refine ⟨(h.sel [4] 4), ?_⟩
      refine ⟨?_, ?_⟩
      · replace hp := hp.1
        refine newL (o := [Value.int .u8 17, Value.int .u8 0, Value.int .u8 0, Value.int .u8 0]) h ?_
        intro b_34 w h
        refine ⟨(h.sel [5] 5), ?_⟩
        refine pcp_host16_ok h hp ?_
        rintro rs_51 p_52 n_52 c_52 w rfl h hp
        have cpp_52 := rowCap h 0 rfl
        refine ⟨_, _, _, rfl, ?_⟩
        refine newL (o := [Value.slice (some ⟨b_31, 0, none⟩) (Int.toNat 4) (Int.toNat 4), Value.slice p_20 rs_19.length c_20, Value.slice (some ⟨b_34, 0, none⟩) 4 4, Value.slice p_47 rs_46.length c_47, Value.slice p_51 rs_50.length c_51, Value.slice p_52 rs_51.length c_52]) h ?_
        intro b_35 w h
        refine sCatY_ok (FL := cel b_35 22 [Value.slice (some ⟨b_31, 0, none⟩) (Int.toNat 4) (Int.toNat 4), Value.slice p_20 rs_19.length c_20, Value.slice (some ⟨b_34, 0, none⟩) 4 4, Value.slice p_47 rs_46.length c_47, Value.slice p_51 rs_50.length c_51, Value.slice p_52 rs_51.length c_52] :: row enc5 5 1 p_52 c_52 rs_51 :: cel b_34 5 [Value.int .u8 17, Value.int .u8 0, Value.int .u8 0, Value.int .u8 0] :: row enc5 5 1 p_51 c_51 rs_50 :: row enc5 5 1 (some ⟨b_31, 0, none⟩) (Int.toNat 4) (List.replicate (Int.toNat 4) 0) :: row enc5 5 1 p_47 c_47 rs_46 :: row enc5 5 1 p_20 c_20 rs_19 :: cel b_1 41 [Value.int .i64 l_Ver, Value.int .i64 l_Inside, Value.int .i64 l_Port, Value.int .i64 l_Secs, Value.int .u64 l_Nonce, Value.int .i64 l_Result, Value.int .i64 l_Epoch, Value.int .u32 l_Host] :: FL) (fun w h => celRdD (z := 1) h 0 rfl [(List.replicate (Int.toNat 4) 0), rs_19, [17, 0, 0, 0], rs_46, rs_50, rs_51] [[Value.slice (some ⟨b_31, 0, none⟩) (Int.toNat 4) (Int.toNat 4)], [Value.slice p_20 rs_19.length c_20], [Value.slice (some ⟨b_34, 0, none⟩) 4 4], [Value.slice p_47 rs_46.length c_47], [Value.slice p_51 rs_50.length c_51], [Value.slice p_52 rs_51.length c_52]] rfl rfl (Fa2.cons ⟨_, _, _, rfl, (List.length_replicate).symm, (natLe2 g_7a g_7c g_7b), (fun w h => (rowRd h 4 encL5 rfl))⟩ (Fa2.cons ⟨_, _, _, rfl, rfl, cpp_20, (fun w h => (rowRd h 6 encL5 rfl))⟩ (Fa2.cons ⟨_, _, _, rfl, rfl, (Nat.le_refl _), (fun w h => (celRd h 2 encL5 rfl [17, 0, 0, 0] rfl))⟩ (Fa2.cons ⟨_, _, _, rfl, rfl, cpp_47, (fun w h => (rowRd h 5 encL5 rfl))⟩ (Fa2.cons ⟨_, _, _, rfl, rfl, cpp_51, (fun w h => (rowRd h 3 encL5 rfl))⟩ (Fa2.cons ⟨_, _, _, rfl, rfl, cpp_52, (fun w h => (rowRd h 1 encL5 rfl))⟩ Fa2.nil))))))) rfl (Nat.le_refl _) h hp ?_
        rintro rs_52 p_53 n_53 c_53 w rfl h hp
        have cpp_53 := rowCap h 0 rfl
        refine ⟨_, _, _, rfl, ?_⟩
        replace h := h.sel [0] 8
        dsimp only [pickL, pickR, nthH, delH, dropH, List.cons_append, List.nil_append] at h
        exact hR rs_52 p_53 rs_52.length c_53 _ rfl h hp
      replace hp := hp.2
      refine pcp_host16_ok h hp ?_
      rintro rs_53 p_54 n_54 c_54 w rfl h hp
      have cpp_54 := rowCap h 0 rfl
      refine ⟨_, _, _, rfl, ?_⟩
      refine newL (o := [Value.int .u8 17, Value.int .u8 0, Value.int .u8 0, Value.int .u8 0]) h ?_
      intro b_36 w h
      refine ⟨(h.sel [6] 6), ?_⟩
      refine newL (o := [Value.slice (some ⟨b_31, 0, none⟩) (Int.toNat 4) (Int.toNat 4), Value.slice p_20 rs_19.length c_20, Value.slice (some ⟨b_36, 0, none⟩) 4 4, Value.slice p_47 rs_46.length c_47, Value.slice p_51 rs_50.length c_51, Value.slice p_54 rs_53.length c_54]) h ?_
      intro b_37 w h
      refine sCatY_ok (FL := cel b_37 22 [Value.slice (some ⟨b_31, 0, none⟩) (Int.toNat 4) (Int.toNat 4), Value.slice p_20 rs_19.length c_20, Value.slice (some ⟨b_36, 0, none⟩) 4 4, Value.slice p_47 rs_46.length c_47, Value.slice p_51 rs_50.length c_51, Value.slice p_54 rs_53.length c_54] :: cel b_36 5 [Value.int .u8 17, Value.int .u8 0, Value.int .u8 0, Value.int .u8 0] :: row enc5 5 1 p_54 c_54 rs_53 :: row enc5 5 1 p_51 c_51 rs_50 :: row enc5 5 1 (some ⟨b_31, 0, none⟩) (Int.toNat 4) (List.replicate (Int.toNat 4) 0) :: row enc5 5 1 p_47 c_47 rs_46 :: row enc5 5 1 p_20 c_20 rs_19 :: cel b_1 41 [Value.int .i64 l_Ver, Value.int .i64 l_Inside, Value.int .i64 l_Port, Value.int .i64 l_Secs, Value.int .u64 l_Nonce, Value.int .i64 l_Result, Value.int .i64 l_Epoch, Value.int .u32 l_Host] :: FL) (fun w h => celRdD (z := 1) h 0 rfl [(List.replicate (Int.toNat 4) 0), rs_19, [17, 0, 0, 0], rs_46, rs_50, rs_53] [[Value.slice (some ⟨b_31, 0, none⟩) (Int.toNat 4) (Int.toNat 4)], [Value.slice p_20 rs_19.length c_20], [Value.slice (some ⟨b_36, 0, none⟩) 4 4], [Value.slice p_47 rs_46.length c_47], [Value.slice p_51 rs_50.length c_51], [Value.slice p_54 rs_53.length c_54]] rfl rfl (Fa2.cons ⟨_, _, _, rfl, (List.length_replicate).symm, (natLe2 g_7a g_7c g_7b), (fun w h => (rowRd h 4 encL5 rfl))⟩ (Fa2.cons ⟨_, _, _, rfl, rfl, cpp_20, (fun w h => (rowRd h 6 encL5 rfl))⟩ (Fa2.cons ⟨_, _, _, rfl, rfl, (Nat.le_refl _), (fun w h => (celRd h 1 encL5 rfl [17, 0, 0, 0] rfl))⟩ (Fa2.cons ⟨_, _, _, rfl, rfl, cpp_47, (fun w h => (rowRd h 5 encL5 rfl))⟩ (Fa2.cons ⟨_, _, _, rfl, rfl, cpp_51, (fun w h => (rowRd h 3 encL5 rfl))⟩ (Fa2.cons ⟨_, _, _, rfl, rfl, cpp_54, (fun w h => (rowRd h 2 encL5 rfl))⟩ Fa2.nil))))))) rfl (Nat.le_refl _) h hp ?_
      rintro rs_54 p_55 n_55 c_55 w rfl h hp
      have cpp_55 := rowCap h 0 rfl
      refine ⟨_, _, _, rfl, ?_⟩
      replace h := h.sel [0] 8
      dsimp only [pickL, pickR, nthH, delH, dropH, List.cons_append, List.nil_append] at h
      exact hR rs_54 p_55 rs_54.length c_55 _ rfl h hp
    refine ⟨?_, ?_⟩
    · replace hp := hp.2.1
      refine newL (o := [Value.int .u8 17, Value.int .u8 0, Value.int .u8 0, Value.int .u8 0]) h ?_
      intro b_38 w h
      refine ⟨(h.sel [3] 3), ?_⟩
      refine ⟨?_, ?_⟩
      · replace hp := hp.1
        obtain ⟨g_8a, g_8b, g_8d, g_8e, hp⟩ := hp
        refine ⟨g_8a, g_8b, g_8d, g_8e, ?_⟩
        have g_8c : 0 ≤ (4 : Int) := Int.le_trans g_8a g_8b
        refine makeL (x0 := 0) (T := 5) h encL5 rfl (natLe2 g_8a g_8c g_8b) ?_
        intro b_39 w h
        refine ⟨(h.sel [4] 4), ?_⟩
        refine pcp_big_ok h hp ?_
        rintro rs_55 p_56 n_56 c_56 w rfl h hp
        have cpp_56 := rowCap h 0 rfl
        refine ⟨_, _, _, rfl, ?_⟩
        refine ⟨(h.sel [5] 5), ?_⟩
        refine pcp_host16_ok h hp ?_
        rintro rs_56 p_57 n_57 c_57 w rfl h hp
        have cpp_57 := rowCap h 0 rfl
        refine ⟨_, _, _, rfl, ?_⟩
        refine newL (o := [Value.slice (some ⟨b_39, 0, none⟩) (Int.toNat 4) (Int.toNat 4), Value.slice p_20 rs_19.length c_20, Value.slice (some ⟨b_38, 0, none⟩) 4 4, Value.slice p_47 rs_46.length c_47, Value.slice p_56 rs_55.length c_56, Value.slice p_57 rs_56.length c_57]) h ?_
        intro b_40 w h
        refine sCatY_ok (FL := cel b_40 22 [Value.slice (some ⟨b_39, 0, none⟩) (Int.toNat 4) (Int.toNat 4), Value.slice p_20 rs_19.length c_20, Value.slice (some ⟨b_38, 0, none⟩) 4 4, Value.slice p_47 rs_46.length c_47, Value.slice p_56 rs_55.length c_56, Value.slice p_57 rs_56.length c_57] :: row enc5 5 1 p_57 c_57 rs_56 :: row enc5 5 1 p_56 c_56 rs_55 :: row enc5 5 1 (some ⟨b_39, 0, none⟩) (Int.toNat 4) (List.replicate (Int.toNat 4) 0) :: cel b_38 5 [Value.int .u8 17, Value.int .u8 0, Value.int .u8 0, Value.int .u8 0] :: row enc5 5 1 p_47 c_47 rs_46 :: row enc5 5 1 p_20 c_20 rs_19 :: cel b_1 41 [Value.int .i64 l_Ver, Value.int .i64 l_Inside, Value.int .i64 l_Port, Value.int .i64 l_Secs, Value.int .u64 l_Nonce, Value.int .i64 l_Result, Value.int .i64 l_Epoch, Value.int .u32 l_Host] :: FL) (fun w h => celRdD (z := 1) h 0 rfl [(List.replicate (Int.toNat 4) 0), rs_19, [17, 0, 0, 0], rs_46, rs_55, rs_56] [[Value.slice (some ⟨b_39, 0, none⟩) (Int.toNat 4) (Int.toNat 4)], [Value.slice p_20 rs_19.length c_20], [Value.slice (some ⟨b_38, 0, none⟩) 4 4], [Value.slice p_47 rs_46.length c_47], [Value.slice p_56 rs_55.length c_56], [Value.slice p_57 rs_56.length c_57]] rfl rfl (Fa2.cons ⟨_, _, _, rfl, (List.length_replicate).symm, (natLe2 g_8a g_8c g_8b), (fun w h => (rowRd h 3 encL5 rfl))⟩ (Fa2.cons ⟨_, _, _, rfl, rfl, cpp_20, (fun w h => (rowRd h 6 encL5 rfl))⟩ (Fa2.cons ⟨_, _, _, rfl, rfl, (Nat.le_refl _), (fun w h => (celRd h 4 encL5 rfl [17, 0, 0, 0] rfl))⟩ (Fa2.cons ⟨_, _, _, rfl, rfl, cpp_47, (fun w h => (rowRd h 5 encL5 rfl))⟩ (Fa2.cons ⟨_, _, _, rfl, rfl, cpp_56, (fun w h => (rowRd h 2 encL5 rfl))⟩ (Fa2.cons ⟨_, _, _, rfl, rfl, cpp_57, (fun w h => (rowRd h 1 encL5 rfl))⟩ Fa2.nil))))))) rfl (Nat.le_refl _) h hp ?_
        rintro rs_57 p_58 n_58 c_58 w rfl h hp
        have cpp_58 := rowCap h 0 rfl
        refine ⟨_, _, _, rfl, ?_⟩
        replace h := h.sel [0] 8
        dsimp only [pickL, pickR, nthH, delH, dropH, List.cons_append, List.nil_append] at h
        exact hR rs_57 p_58 rs_57.length c_58 _ rfl h hp
      replace hp := hp.2
      refine pcp_big_ok h hp ?_
      rintro rs_58 p_59 n_59 c_59 w rfl h hp
      have cpp_59 := rowCap h 0 rfl
      refine ⟨_, _, _, rfl, ?_⟩
      refine ⟨(h.sel [4] 4), ?_⟩
      refine ⟨?_, ?_⟩
      · replace hp := hp.1
        obtain ⟨g_9a, g_9b, g_9d, g_9e, hp⟩ := hp
        refine ⟨g_9a, g_9b, g_9d, g_9e, ?_⟩
        have g_9c : 0 ≤ (4 : Int) := Int.le_trans g_9a g_9b
        refine makeL (x0 := 0) (T := 5) h encL5 rfl (natLe2 g_9a g_9c g_9b) ?_
        intro b_41 w h
        refine ⟨(h.sel [5] 5), ?_⟩
        refine pcp_host16_ok h hp ?_
        rintro rs_59 p_60 n_60 c_60 w rfl h hp
        have cpp_60 := rowCap h 0 rfl
        refine ⟨_, _, _, rfl, ?_⟩
        refine newL (o := [Value.slice (some ⟨b_41, 0, none⟩) (Int.toNat 4) (Int.toNat 4), Value.slice p_20 rs_19.length c_20, Value.slice (some ⟨b_38, 0, none⟩) 4 4, Value.slice p_47 rs_46.length c_47, Value.slice p_59 rs_58.length c_59, Value.slice p_60 rs_59.length c_60]) h ?_
        intro b_42 w h
        refine sCatY_ok (FL := cel b_42 22 [Value.slice (some ⟨b_41, 0, none⟩) (Int.toNat 4) (Int.toNat 4), Value.slice p_20 rs_19.length c_20, Value.slice (some ⟨b_38, 0, none⟩) 4 4, Value.slice p_47 rs_46.length c_47, Value.slice p_59 rs_58.length c_59, Value.slice p_60 rs_59.length c_60] :: row enc5 5 1 p_60 c_60 rs_59 :: row enc5 5 1 (some ⟨b_41, 0, none⟩) (Int.toNat 4) (List.replicate (Int.toNat 4) 0) :: row enc5 5 1 p_59 c_59 rs_58 :: cel b_38 5 [Value.int .u8 17, Value.int .u8 0, Value.int .u8 0, Value.int .u8 0] :: row enc5 5 1 p_47 c_47 rs_46 :: row enc5 5 1 p_20 c_20 rs_19 :: cel b_1 41 [Value.int .i64 l_Ver, Value.int .i64 l_Inside, Value.int .i64 l_Port, Value.int .i64 l_Secs, Value.int .u64 l_Nonce, Value.int .i64 l_Result, Value.int .i64 l_Epoch, Value.int .u32 l_Host] :: FL) (fun w h => celRdD (z := 1) h 0 rfl [(List.replicate (Int.toNat 4) 0), rs_19, [17, 0, 0, 0], rs_46, rs_58, rs_59] [[Value.slice (some ⟨b_41, 0, none⟩) (Int.toNat 4) (Int.toNat 4)], [Value.slice p_20 rs_19.length c_20], [Value.slice (some ⟨b_38, 0, none⟩) 4 4], [Value.slice p_47 rs_46.length c_47], [Value.slice p_59 rs_58.length c_59], [Value.slice p_60 rs_59.length c_60]] rfl rfl (Fa2.cons ⟨_, _, _, rfl, (List.length_replicate).symm, (natLe2 g_9a g_9c g_9b), (fun w h => (rowRd h 2 encL5 rfl))⟩ (Fa2.cons ⟨_, _, _, rfl, rfl, cpp_20, (fun w h => (rowRd h 6 encL5 rfl))⟩ (Fa2.cons ⟨_, _, _, rfl, rfl, (Nat.le_refl _), (fun w h => (celRd h 4 encL5 rfl [17, 0, 0, 0] rfl))⟩ (Fa2.cons ⟨_, _, _, rfl, rfl, cpp_47, (fun w h => (rowRd h 5 encL5 rfl))⟩ (Fa2.cons ⟨_, _, _, rfl, rfl, cpp_59, (fun w h => (rowRd h 3 encL5 rfl))⟩ (Fa2.cons ⟨_, _, _, rfl, rfl, cpp_60, (fun w h => (rowRd h 1 encL5 rfl))⟩ Fa2.nil))))))) rfl (Nat.le_refl _) h hp ?_
        rintro rs_60 p_61 n_61 c_61 w rfl h hp
        have cpp_61 := rowCap h 0 rfl
        refine ⟨_, _, _, rfl, ?_⟩
        replace h := h.sel [0] 8
        dsimp only [pickL, pickR, nthH, delH, dropH, List.cons_append, List.nil_append] at h
        exact hR rs_60 p_61 rs_60.length c_61 _ rfl h hp
      replace hp := hp.2
      refine pcp_host16_ok h hp ?_
      rintro rs_61 p_62 n_62 c_62 w rfl h hp
      have cpp_62 := rowCap h 0 rfl
      refine ⟨_, _, _, rfl, ?_⟩
      obtain ⟨g_10a, g_10b, g_10d, g_10e, hp⟩ := hp
      refine ⟨g_10a, g_10b, g_10d, g_10e, ?_⟩
      have g_10c : 0 ≤ (4 : Int) := Int.le_trans g_10a g_10b
      refine makeL (x0 := 0) (T := 5) h encL5 rfl (natLe2 g_10a g_10c g_10b) ?_
      intro b_43 w h
      refine ⟨(h.sel [6] 6), ?_⟩
      refine newL (o := [Value.slice (some ⟨b_43, 0, none⟩) (Int.toNat 4) (Int.toNat 4), Value.slice p_20 rs_19.length c_20, Value.slice (some ⟨b_38, 0, none⟩) 4 4, Value.slice p_47 rs_46.length c_47, Value.slice p_59 rs_58.length c_59, Value.slice p_62 rs_61.length c_62]) h ?_
      intro b_44 w h
      refine sCatY_ok (FL := cel b_44 22 [Value.slice (some ⟨b_43, 0, none⟩) (Int.toNat 4) (Int.toNat 4), Value.slice p_20 rs_19.length c_20, Value.slice (some ⟨b_38, 0, none⟩) 4 4, Value.slice p_47 rs_46.length c_47, Value.slice p_59 rs_58.length c_59, Value.slice p_62 rs_61.length c_62] :: row enc5 5 1 (some ⟨b_43, 0, none⟩) (Int.toNat 4) (List.replicate (Int.toNat 4) 0) :: row enc5 5 1 p_62 c_62 rs_61 :: row enc5 5 1 p_59 c_59 rs_58 :: cel b_38 5 [Value.int .u8 17, Value.int .u8 0, Value.int .u8 0, Value.int .u8 0] :: row enc5 5 1 p_47 c_47 rs_46 :: row enc5 5 1 p_20 c_20 rs_19 :: cel b_1 41 [Value.int .i64 l_Ver, Value.int .i64 l_Inside, Value.int .i64 l_Port, Value.int .i64 l_Secs, Value.int .u64 l_Nonce, Value.int .i64 l_Result, Value.int .i64 l_Epoch, Value.int .u32 l_Host] :: FL) (fun w h => celRdD (z := 1) h 0 rfl [(List.replicate (Int.toNat 4) 0), rs_19, [17, 0, 0, 0], rs_46, rs_58, rs_61] [[Value.slice (some ⟨b_43, 0, none⟩) (Int.toNat 4) (Int.toNat 4)], [Value.slice p_20 rs_19.length c_20], [Value.slice (some ⟨b_38, 0, none⟩) 4 4], [Value.slice p_47 rs_46.length c_47], [Value.slice p_59 rs_58.length c_59], [Value.slice p_62 rs_61.length c_62]] rfl rfl (Fa2.cons ⟨_, _, _, rfl, (List.length_replicate).symm, (natLe2 g_10a g_10c g_10b), (fun w h => (rowRd h 1 encL5 rfl))⟩ (Fa2.cons ⟨_, _, _, rfl, rfl, cpp_20, (fun w h => (rowRd h 6 encL5 rfl))⟩ (Fa2.cons ⟨_, _, _, rfl, rfl, (Nat.le_refl _), (fun w h => (celRd h 4 encL5 rfl [17, 0, 0, 0] rfl))⟩ (Fa2.cons ⟨_, _, _, rfl, rfl, cpp_47, (fun w h => (rowRd h 5 encL5 rfl))⟩ (Fa2.cons ⟨_, _, _, rfl, rfl, cpp_59, (fun w h => (rowRd h 3 encL5 rfl))⟩ (Fa2.cons ⟨_, _, _, rfl, rfl, cpp_62, (fun w h => (rowRd h 2 encL5 rfl))⟩ Fa2.nil))))))) rfl (Nat.le_refl _) h hp ?_
      rintro rs_62 p_63 n_63 c_63 w rfl h hp
      have cpp_63 := rowCap h 0 rfl
      refine ⟨_, _, _, rfl, ?_⟩
      replace h := h.sel [0] 8
      dsimp only [pickL, pickR, nthH, delH, dropH, List.cons_append, List.nil_append] at h
      exact hR rs_62 p_63 rs_62.length c_63 _ rfl h hp
    replace hp := hp.2.2
    refine pcp_big_ok h hp ?_
    rintro rs_63 p_64 n_64 c_64 w rfl h hp
    have cpp_64 := rowCap h 0 rfl
    refine ⟨_, _, _, rfl, ?_⟩
    refine ⟨(h.sel [3] 3), ?_⟩
    refine ⟨?_, ?_⟩
    · replace hp := hp.1
      obtain ⟨g_11a, g_11b, g_11d, g_11e, hp⟩ := hp
      refine ⟨g_11a, g_11b, g_11d, g_11e, ?_⟩
      have g_11c : 0 ≤ (4 : Int) := Int.le_trans g_11a g_11b
      refine makeL (x0 := 0) (T := 5) h encL5 rfl (natLe2 g_11a g_11c g_11b) ?_
      intro b_45 w h
      refine ⟨(h.sel [4] 4), ?_⟩
      refine ⟨?_, ?_⟩
      · replace hp := hp.1
        refine newL (o := [Value.int .u8 17, Value.int .u8 0, Value.int .u8 0, Value.int .u8 0]) h ?_
        intro b_46 w h
        refine ⟨(h.sel [5] 5), ?_⟩
        refine pcp_host16_ok h hp ?_
        rintro rs_64 p_65 n_65 c_65 w rfl h hp
        have cpp_65 := rowCap h 0 rfl
        refine ⟨_, _, _, rfl, ?_⟩
        refine newL (o := [Value.slice (some ⟨b_45, 0, none⟩) (Int.toNat 4) (Int.toNat 4), Value.slice p_20 rs_19.length c_20, Value.slice (some ⟨b_46, 0, none⟩) 4 4, Value.slice p_47 rs_46.length c_47, Value.slice p_64 rs_63.length c_64, Value.slice p_65 rs_64.length c_65]) h ?_
        intro b_47 w h
        refine sCatY_ok (FL := cel b_47 22 [Value.slice (some ⟨b_45, 0, none⟩) (Int.toNat 4) (Int.toNat 4), Value.slice p_20 rs_19.length c_20, Value.slice (some ⟨b_46, 0, none⟩) 4 4, Value.slice p_47 rs_46.length c_47, Value.slice p_64 rs_63.length c_64, Value.slice p_65 rs_64.length c_65] :: row enc5 5 1 p_65 c_65 rs_64 :: cel b_46 5 [Value.int .u8 17, Value.int .u8 0, Value.int .u8 0, Value.int .u8 0] :: row enc5 5 1 (some ⟨b_45, 0, none⟩) (Int.toNat 4) (List.replicate (Int.toNat 4) 0) :: row enc5 5 1 p_64 c_64 rs_63 :: row enc5 5 1 p_47 c_47 rs_46 :: row enc5 5 1 p_20 c_20 rs_19 :: cel b_1 41 [Value.int .i64 l_Ver, Value.int .i64 l_Inside, Value.int .i64 l_Port, Value.int .i64 l_Secs, Value.int .u64 l_Nonce, Value.int .i64 l_Result, Value.int .i64 l_Epoch, Value.int .u32 l_Host] :: FL) (fun w h => celRdD (z := 1) h 0 rfl [(List.replicate (Int.toNat 4) 0), rs_19, [17, 0, 0, 0], rs_46, rs_63, rs_64] [[Value.slice (some ⟨b_45, 0, none⟩) (Int.toNat 4) (Int.toNat 4)], [Value.slice p_20 rs_19.length c_20], [Value.slice (some ⟨b_46, 0, none⟩) 4 4], [Value.slice p_47 rs_46.length c_47], [Value.slice p_64 rs_63.length c_64], [Value.slice p_65 rs_64.length c_65]] rfl rfl (Fa2.cons ⟨_, _, _, rfl, (List.length_replicate).symm, (natLe2 g_11a g_11c g_11b), (fun w h => (rowRd h 3 encL5 rfl))⟩ (Fa2.cons ⟨_, _, _, rfl, rfl, cpp_20, (fun w h => (rowRd h 6 encL5 rfl))⟩ (Fa2.cons ⟨_, _, _, rfl, rfl, (Nat.le_refl _), (fun w h => (celRd h 2 encL5 rfl [17, 0, 0, 0] rfl))⟩ (Fa2.cons ⟨_, _, _, rfl, rfl, cpp_47, (fun w h => (rowRd h 5 encL5 rfl))⟩ (Fa2.cons ⟨_, _, _, rfl, rfl, cpp_64, (fun w h => (rowRd h 4 encL5 rfl))⟩ (Fa2.cons ⟨_, _, _, rfl, rfl, cpp_65, (fun w h => (rowRd h 1 encL5 rfl))⟩ Fa2.nil))))))) rfl (Nat.le_refl _) h hp ?_
        rintro rs_65 p_66 n_66 c_66 w rfl h hp
        have cpp_66 := rowCap h 0 rfl
        refine ⟨_, _, _, rfl, ?_⟩
        replace h := h.sel [0] 8
        dsimp only [pickL, pickR, nthH, delH, dropH, List.cons_append, List.nil_append] at h
        exact hR rs_65 p_66 rs_65.length c_66 _ rfl h hp
      replace hp := hp.2
      refine pcp_host16_ok h hp ?_
      rintro rs_66 p_67 n_67 c_67 w rfl h hp
      have cpp_67 := rowCap h 0 rfl
      refine ⟨_, _, _, rfl, ?_⟩
      refine newL (o := [Value.int .u8 17, Value.int .u8 0, Value.int .u8 0, Value.int .u8 0]) h ?_
      intro b_48 w h
      refine ⟨(h.sel [6] 6), ?_⟩
      refine newL (o := [Value.slice (some ⟨b_45, 0, none⟩) (Int.toNat 4) (Int.toNat 4), Value.slice p_20 rs_19.length c_20, Value.slice (some ⟨b_48, 0, none⟩) 4 4, Value.slice p_47 rs_46.length c_47, Value.slice p_64 rs_63.length c_64, Value.slice p_67 rs_66.length c_67]) h ?_
      intro b_49 w h
      refine sCatY_ok (FL := cel b_49 22 [Value.slice (some ⟨b_45, 0, none⟩) (Int.toNat 4) (Int.toNat 4), Value.slice p_20 rs_19.length c_20, Value.slice (some ⟨b_48, 0, none⟩) 4 4, Value.slice p_47 rs_46.length c_47, Value.slice p_64 rs_63.length c_64, Value.slice p_67 rs_66.length c_67] :: cel b_48 5 [Value.int .u8 17, Value.int .u8 0, Value.int .u8 0, Value.int .u8 0] :: row enc5 5 1 p_67 c_67 rs_66 :: row enc5 5 1 (some ⟨b_45, 0, none⟩) (Int.toNat 4) (List.replicate (Int.toNat 4) 0) :: row enc5 5 1 p_64 c_64 rs_63 :: row enc5 5 1 p_47 c_47 rs_46 :: row enc5 5 1 p_20 c_20 rs_19 :: cel b_1 41 [Value.int .i64 l_Ver, Value.int .i64 l_Inside, Value.int .i64 l_Port, Value.int .i64 l_Secs, Value.int .u64 l_Nonce, Value.int .i64 l_Result, Value.int .i64 l_Epoch, Value.int .u32 l_Host] :: FL) (fun w h => celRdD (z := 1) h 0 rfl [(List.replicate (Int.toNat 4) 0), rs_19, [17, 0, 0, 0], rs_46, rs_63, rs_66] [[Value.slice (some ⟨b_45, 0, none⟩) (Int.toNat 4) (Int.toNat 4)], [Value.slice p_20 rs_19.length c_20], [Value.slice (some ⟨b_48, 0, none⟩) 4 4], [Value.slice p_47 rs_46.length c_47], [Value.slice p_64 rs_63.length c_64], [Value.slice p_67 rs_66.length c_67]] rfl rfl (Fa2.cons ⟨_, _, _, rfl, (List.length_replicate).symm, (natLe2 g_11a g_11c g_11b), (fun w h => (rowRd h 3 encL5 rfl))⟩ (Fa2.cons ⟨_, _, _, rfl, rfl, cpp_20, (fun w h => (rowRd h 6 encL5 rfl))⟩ (Fa2.cons ⟨_, _, _, rfl, rfl, (Nat.le_refl _), (fun w h => (celRd h 1 encL5 rfl [17, 0, 0, 0] rfl))⟩ (Fa2.cons ⟨_, _, _, rfl, rfl, cpp_47, (fun w h => (rowRd h 5 encL5 rfl))⟩ (Fa2.cons ⟨_, _, _, rfl, rfl, cpp_64, (fun w h => (rowRd h 4 encL5 rfl))⟩ (Fa2.cons ⟨_, _, _, rfl, rfl, cpp_67, (fun w h => (rowRd h 2 encL5 rfl))⟩ Fa2.nil))))))) rfl (Nat.le_refl _) h hp ?_
      rintro rs_67 p_68 n_68 c_68 w rfl h hp
      have cpp_68 := rowCap h 0 rfl
      refine ⟨_, _, _, rfl, ?_⟩
      replace h := h.sel [0] 8
      dsimp only [pickL, pickR, nthH, delH, dropH, List.cons_append, List.nil_append] at h
      exact hR rs_67 p_68 rs_67.length c_68 _ rfl h hp
    refine ⟨?_, ?_⟩
    · replace hp := hp.2.1
      refine newL (o := [Value.int .u8 17, Value.int .u8 0, Value.int .u8 0, Value.int .u8 0]) h ?_
      intro b_50 w h
      refine ⟨(h.sel [4] 4), ?_⟩
      refine ⟨?_, ?_⟩
      · replace hp := hp.1
        obtain ⟨g_12a, g_12b, g_12d, g_12e, hp⟩ := hp
        refine ⟨g_12a, g_12b, g_12d, g_12e, ?_⟩
        have g_12c : 0 ≤ (4 : Int) := Int.le_trans g_12a g_12b
        refine makeL (x0 := 0) (T := 5) h encL5 rfl (natLe2 g_12a g_12c g_12b) ?_
        intro b_51 w h
        refine ⟨(h.sel [5] 5), ?_⟩
        refine pcp_host16_ok h hp ?_
        rintro rs_68 p_69 n_69 c_69 w rfl h hp
        have cpp_69 := rowCap h 0 rfl
        refine ⟨_, _, _, rfl, ?_⟩
        refine newL (o := [Value.slice (some ⟨b_51, 0, none⟩) (Int.toNat 4) (Int.toNat 4), Value.slice p_20 rs_19.length c_20, Value.slice (some ⟨b_50, 0, none⟩) 4 4, Value.slice p_47 rs_46.length c_47, Value.slice p_64 rs_63.length c_64, Value.slice p_69 rs_68.length c_69]) h ?_
        intro b_52 w h
        refine sCatY_ok (FL := cel b_52 22 [Value.slice (some ⟨b_51, 0, none⟩) (Int.toNat 4) (Int.toNat 4), Value.slice p_20 rs_19.length c_20, Value.slice (some ⟨b_50, 0, none⟩) 4 4, Value.slice p_47 rs_46.length c_47, Value.slice p_64 rs_63.length c_64, Value.slice p_69 rs_68.length c_69] :: row enc5 5 1 p_69 c_69 rs_68 :: row enc5 5 1 (some ⟨b_51, 0, none⟩) (Int.toNat 4) (List.replicate (Int.toNat 4) 0) :: cel b_50 5 [Value.int .u8 17, Value.int .u8 0, Value.int .u8 0, Value.int .u8 0] :: row enc5 5 1 p_64 c_64 rs_63 :: row enc5 5 1 p_47 c_47 rs_46 :: row enc5 5 1 p_20 c_20 rs_19 :: cel b_1 41 [Value.int .i64 l_Ver, Value.int .i64 l_Inside, Value.int .i64 l_Port, Value.int .i64 l_Secs, Value.int .u64 l_Nonce, Value.int .i64 l_Result, Value.int .i64 l_Epoch, Value.int .u32 l_Host] :: FL) (fun w h => celRdD (z := 1) h 0 rfl [(List.replicate (Int.toNat 4) 0), rs_19, [17, 0, 0, 0], rs_46, rs_63, rs_68] [[Value.slice (some ⟨b_51, 0, none⟩) (Int.toNat 4) (Int.toNat 4)], [Value.slice p_20 rs_19.length c_20], [Value.slice (some ⟨b_50, 0, none⟩) 4 4], [Value.slice p_47 rs_46.length c_47], [Value.slice p_64 rs_63.length c_64], [Value.slice p_69 rs_68.length c_69]] rfl rfl (Fa2.cons ⟨_, _, _, rfl, (List.length_replicate).symm, (natLe2 g_12a g_12c g_12b), (fun w h => (rowRd h 2 encL5 rfl))⟩ (Fa2.cons ⟨_, _, _, rfl, rfl, cpp_20, (fun w h => (rowRd h 6 encL5 rfl))⟩ (Fa2.cons ⟨_, _, _, rfl, rfl, (Nat.le_refl _), (fun w h => (celRd h 3 encL5 rfl [17, 0, 0, 0] rfl))⟩ (Fa2.cons ⟨_, _, _, rfl, rfl, cpp_47, (fun w h => (rowRd h 5 encL5 rfl))⟩ (Fa2.cons ⟨_, _, _, rfl, rfl, cpp_64, (fun w h => (rowRd h 4 encL5 rfl))⟩ (Fa2.cons ⟨_, _, _, rfl, rfl, cpp_69, (fun w h => (rowRd h 1 encL5 rfl))⟩ Fa2.nil))))))) rfl (Nat.le_refl _) h hp ?_
        rintro rs_69 p_70 n_70 c_70 w rfl h hp
        have cpp_70 := rowCap h 0 rfl
        refine ⟨_, _, _, rfl, ?_⟩
        replace h := h.sel [0] 8
        dsimp only [pickL, pickR, nthH, delH, dropH, List.cons_append, List.nil_append] at h
        exact hR rs_69 p_70 rs_69.length c_70 _ rfl h hp
      replace hp := hp.2
      refine pcp_host16_ok h hp ?_
      rintro rs_70 p_71 n_71 c_71 w rfl h hp
      have cpp_71 := rowCap h 0 rfl
      refine ⟨_, _, _, rfl, ?_⟩
      obtain ⟨g_13a, g_13b, g_13d, g_13e, hp⟩ := hp
      refine ⟨g_13a, g_13b, g_13d, g_13e, ?_⟩
      have g_13c : 0 ≤ (4 : Int) := Int.le_trans g_13a g_13b
      refine makeL (x0 := 0) (T := 5) h encL5 rfl (natLe2 g_13a g_13c g_13b) ?_
      intro b_53 w h
      refine ⟨(h.sel [6] 6), ?_⟩
      refine newL (o := [Value.slice (some ⟨b_53, 0, none⟩) (Int.toNat 4) (Int.toNat 4), Value.slice p_20 rs_19.length c_20, Value.slice (some ⟨b_50, 0, none⟩) 4 4, Value.slice p_47 rs_46.length c_47, Value.slice p_64 rs_63.length c_64, Value.slice p_71 rs_70.length c_71]) h ?_
      intro b_54 w h
      refine sCatY_ok (FL := cel b_54 22 [Value.slice (some ⟨b_53, 0, none⟩) (Int.toNat 4) (Int.toNat 4), Value.slice p_20 rs_19.length c_20, Value.slice (some ⟨b_50, 0, none⟩) 4 4, Value.slice p_47 rs_46.length c_47, Value.slice p_64 rs_63.length c_64, Value.slice p_71 rs_70.length c_71] :: row enc5 5 1 (some ⟨b_53, 0, none⟩) (Int.toNat 4) (List.replicate (Int.toNat 4) 0) :: row enc5 5 1 p_71 c_71 rs_70 :: cel b_50 5 [Value.int .u8 17, Value.int .u8 0, Value.int .u8 0, Value.int .u8 0] :: row enc5 5 1 p_64 c_64 rs_63 :: row enc5 5 1 p_47 c_47 rs_46 :: row enc5 5 1 p_20 c_20 rs_19 :: cel b_1 41 [Value.int .i64 l_Ver, Value.int .i64 l_Inside, Value.int .i64 l_Port, Value.int .i64 l_Secs, Value.int .u64 l_Nonce, Value.int .i64 l_Result, Value.int .i64 l_Epoch, Value.int .u32 l_Host] :: FL) (fun w h => celRdD (z := 1) h 0 rfl [(List.replicate (Int.toNat 4) 0), rs_19, [17, 0, 0, 0], rs_46, rs_63, rs_70] [[Value.slice (some ⟨b_53, 0, none⟩) (Int.toNat 4) (Int.toNat 4)], [Value.slice p_20 rs_19.length c_20], [Value.slice (some ⟨b_50, 0, none⟩) 4 4], [Value.slice p_47 rs_46.length c_47], [Value.slice p_64 rs_63.length c_64], [Value.slice p_71 rs_70.length c_71]] rfl rfl (Fa2.cons ⟨_, _, _, rfl, (List.length_replicate).symm, (natLe2 g_13a g_13c g_13b), (fun w h => (rowRd h 1 encL5 rfl))⟩ (Fa2.cons ⟨_, _, _, rfl, rfl, cpp_20, (fun w h => (rowRd h 6 encL5 rfl))⟩ (Fa2.cons ⟨_, _, _, rfl, rfl, (Nat.le_refl _), (fun w h => (celRd h 3 encL5 rfl [17, 0, 0, 0] rfl))⟩ (Fa2.cons ⟨_, _, _, rfl, rfl, cpp_47, (fun w h => (rowRd h 5 encL5 rfl))⟩ (Fa2.cons ⟨_, _, _, rfl, rfl, cpp_64, (fun w h => (rowRd h 4 encL5 rfl))⟩ (Fa2.cons ⟨_, _, _, rfl, rfl, cpp_71, (fun w h => (rowRd h 2 encL5 rfl))⟩ Fa2.nil))))))) rfl (Nat.le_refl _) h hp ?_
      rintro rs_71 p_72 n_72 c_72 w rfl h hp
      have cpp_72 := rowCap h 0 rfl
      refine ⟨_, _, _, rfl, ?_⟩
      replace h := h.sel [0] 8
      dsimp only [pickL, pickR, nthH, delH, dropH, List.cons_append, List.nil_append] at h
      exact hR rs_71 p_72 rs_71.length c_72 _ rfl h hp
    replace hp := hp.2.2
    refine pcp_host16_ok h hp ?_
    rintro rs_72 p_73 n_73 c_73 w rfl h hp
    have cpp_73 := rowCap h 0 rfl
    refine ⟨_, _, _, rfl, ?_⟩
    refine ⟨?_, ?_⟩
    · replace hp := hp.1
      obtain ⟨g_14a, g_14b, g_14d, g_14e, hp⟩ := hp
      refine ⟨g_14a, g_14b, g_14d, g_14e, ?_⟩
      have g_14c : 0 ≤ (4 : Int) := Int.le_trans g_14a g_14b
      refine makeL (x0 := 0) (T := 5) h encL5 rfl (natLe2 g_14a g_14c g_14b) ?_
      intro b_55 w h
      refine ⟨(h.sel [5] 5), ?_⟩
      refine newL (o := [Value.int .u8 17, Value.int .u8 0, Value.int .u8 0, Value.int .u8 0]) h ?_
      intro b_56 w h
      refine ⟨(h.sel [6] 6), ?_⟩
      refine newL (o := [Value.slice (some ⟨b_55, 0, none⟩) (Int.toNat 4) (Int.toNat 4), Value.slice p_20 rs_19.length c_20, Value.slice (some ⟨b_56, 0, none⟩) 4 4, Value.slice p_47 rs_46.length c_47, Value.slice p_64 rs_63.length c_64, Value.slice p_73 rs_72.length c_73]) h ?_
      intro b_57 w h
      refine sCatY_ok (FL := cel b_57 22 [Value.slice (some ⟨b_55, 0, none⟩) (Int.toNat 4) (Int.toNat 4), Value.slice p_20 rs_19.length c_20, Value.slice (some ⟨b_56, 0, none⟩) 4 4, Value.slice p_47 rs_46.length c_47, Value.slice p_64 rs_63.length c_64, Value.slice p_73 rs_72.length c_73] :: cel b_56 5 [Value.int .u8 17, Value.int .u8 0, Value.int .u8 0, Value.int .u8 0] :: row enc5 5 1 (some ⟨b_55, 0, none⟩) (Int.toNat 4) (List.replicate (Int.toNat 4) 0) :: row enc5 5 1 p_73 c_73 rs_72 :: row enc5 5 1 p_64 c_64 rs_63 :: row enc5 5 1 p_47 c_47 rs_46 :: row enc5 5 1 p_20 c_20 rs_19 :: cel b_1 41 [Value.int .i64 l_Ver, Value.int .i64 l_Inside, Value.int .i64 l_Port, Value.int .i64 l_Secs, Value.int .u64 l_Nonce, Value.int .i64 l_Result, Value.int .i64 l_Epoch, Value.int .u32 l_Host] :: FL) (fun w h => celRdD (z := 1) h 0 rfl [(List.replicate (Int.toNat 4) 0), rs_19, [17, 0, 0, 0], rs_46, rs_63, rs_72] [[Value.slice (some ⟨b_55, 0, none⟩) (Int.toNat 4) (Int.toNat 4)], [Value.slice p_20 rs_19.length c_20], [Value.slice (some ⟨b_56, 0, none⟩) 4 4], [Value.slice p_47 rs_46.length c_47], [Value.slice p_64 rs_63.length c_64], [Value.slice p_73 rs_72.length c_73]] rfl rfl (Fa2.cons ⟨_, _, _, rfl, (List.length_replicate).symm, (natLe2 g_14a g_14c g_14b), (fun w h => (rowRd h 2 encL5 rfl))⟩ (Fa2.cons ⟨_, _, _, rfl, rfl, cpp_20, (fun w h => (rowRd h 6 encL5 rfl))⟩ (Fa2.cons ⟨_, _, _, rfl, rfl, (Nat.le_refl _), (fun w h => (celRd h 1 encL5 rfl [17, 0, 0, 0] rfl))⟩ (Fa2.cons ⟨_, _, _, rfl, rfl, cpp_47, (fun w h => (rowRd h 5 encL5 rfl))⟩ (Fa2.cons ⟨_, _, _, rfl, rfl, cpp_64, (fun w h => (rowRd h 4 encL5 rfl))⟩ (Fa2.cons ⟨_, _, _, rfl, rfl, cpp_73, (fun w h => (rowRd h 3 encL5 rfl))⟩ Fa2.nil))))))) rfl (Nat.le_refl _) h hp ?_
      rintro rs_73 p_74 n_74 c_74 w rfl h hp
      have cpp_74 := rowCap h 0 rfl
      refine ⟨_, _, _, rfl, ?_⟩
      replace h := h.sel [0] 8
      dsimp only [pickL, pickR, nthH, delH, dropH, List.cons_append, List.nil_append] at h
      exact hR rs_73 p_74 rs_73.length c_74 _ rfl h hp
    replace hp := hp.2
    refine newL (o := [Value.int .u8 17, Value.int .u8 0, Value.int .u8 0, Value.int .u8 0]) h ?_
    intro b_58 w h
    refine ⟨(h.sel [5] 5), ?_⟩
    obtain ⟨g_15a, g_15b, g_15d, g_15e, hp⟩ := hp
    refine ⟨g_15a, g_15b, g_15d, g_15e, ?_⟩
    have g_15c : 0 ≤ (4 : Int) := Int.le_trans g_15a g_15b
    refine makeL (x0 := 0) (T := 5) h encL5 rfl (natLe2 g_15a g_15c g_15b) ?_
    intro b_59 w h
    refine ⟨(h.sel [6] 6), ?_⟩
    refine newL (o := [Value.slice (some ⟨b_59, 0, none⟩) (Int.toNat 4) (Int.toNat 4), Value.slice p_20 rs_19.length c_20, Value.slice (some ⟨b_58, 0, none⟩) 4 4, Value.slice p_47 rs_46.length c_47, Value.slice p_64 rs_63.length c_64, Value.slice p_73 rs_72.length c_73]) h ?_
    intro b_60 w h
    refine sCatY_ok (FL := cel b_60 22 [Value.slice (some ⟨b_59, 0, none⟩) (Int.toNat 4) (Int.toNat 4), Value.slice p_20 rs_19.length c_20, Value.slice (some ⟨b_58, 0, none⟩) 4 4, Value.slice p_47 rs_46.length c_47, Value.slice p_64 rs_63.length c_64, Value.slice p_73 rs_72.length c_73] :: row enc5 5 1 (some ⟨b_59, 0, none⟩) (Int.toNat 4) (List.replicate (Int.toNat 4) 0) :: cel b_58 5 [Value.int .u8 17, Value.int .u8 0, Value.int .u8 0, Value.int .u8 0] :: row enc5 5 1 p_73 c_73 rs_72 :: row enc5 5 1 p_64 c_64 rs_63 :: row enc5 5 1 p_47 c_47 rs_46 :: row enc5 5 1 p_20 c_20 rs_19 :: cel b_1 41 [Value.int .i64 l_Ver, Value.int .i64 l_Inside, Value.int .i64 l_Port, Value.int .i64 l_Secs, Value.int .u64 l_Nonce, Value.int .i64 l_Result, Value.int .i64 l_Epoch, Value.int .u32 l_Host] :: FL) (fun w h => celRdD (z := 1) h 0 rfl [(List.replicate (Int.toNat 4) 0), rs_19, [17, 0, 0, 0], rs_46, rs_63, rs_72] [[Value.slice (some ⟨b_59, 0, none⟩) (Int.toNat 4) (Int.toNat 4)], [Value.slice p_20 rs_19.length c_20], [Value.slice (some ⟨b_58, 0, none⟩) 4 4], [Value.slice p_47 rs_46.length c_47], [Value.slice p_64 rs_63.length c_64], [Value.slice p_73 rs_72.length c_73]] rfl rfl (Fa2.cons ⟨_, _, _, rfl, (List.length_replicate).symm, (natLe2 g_15a g_15c g_15b), (fun w h => (rowRd h 1 encL5 rfl))⟩ (Fa2.cons ⟨_, _, _, rfl, rfl, cpp_20, (fun w h => (rowRd h 6 encL5 rfl))⟩ (Fa2.cons ⟨_, _, _, rfl, rfl, (Nat.le_refl _), (fun w h => (celRd h 2 encL5 rfl [17, 0, 0, 0] rfl))⟩ (Fa2.cons ⟨_, _, _, rfl, rfl, cpp_47, (fun w h => (rowRd h 5 encL5 rfl))⟩ (Fa2.cons ⟨_, _, _, rfl, rfl, cpp_64, (fun w h => (rowRd h 4 encL5 rfl))⟩ (Fa2.cons ⟨_, _, _, rfl, rfl, cpp_73, (fun w h => (rowRd h 3 encL5 rfl))⟩ Fa2.nil))))))) rfl (Nat.le_refl _) h hp ?_
    rintro rs_74 p_75 n_75 c_75 w rfl h hp
    have cpp_75 := rowCap h 0 rfl
    refine ⟨_, _, _, rfl, ?_⟩
    replace h := h.sel [0] 8
    dsimp only [pickL, pickR, nthH, delH, dropH, List.cons_append, List.nil_append] at h
    exact hR rs_74 p_75 rs_74.length c_75 _ rfl h hp
  replace hp := hp.2.2
  refine newL (o := [Value.int .u8 17, Value.int .u8 0, Value.int .u8 0, Value.int .u8 0]) h ?_
  intro b_61 w h
  refine ⟨(h.sel [1] 1), ?_⟩
  refine ⟨?_, ?_⟩
  · replace hp := hp.1
    obtain ⟨g_16a, g_16b, g_16d, g_16e, hp⟩ := hp
    refine ⟨g_16a, g_16b, g_16d, g_16e, ?_⟩
    have g_16c : 0 ≤ (4 : Int) := Int.le_trans g_16a g_16b
    refine makeL (x0 := 0) (T := 5) h encL5 rfl (natLe2 g_16a g_16c g_16b) ?_
    intro b_62 w h
    refine ⟨(h.sel [2] 2), ?_⟩
    refine pcp_big_ok h hp ?_
    rintro rs_75 p_76 n_76 c_76 w rfl h hp
    have cpp_76 := rowCap h 0 rfl
    refine ⟨_, _, _, rfl, ?_⟩
    refine ⟨(h.sel [3] 3), ?_⟩
    refine pcp_big_ok h hp ?_
    rintro rs_76 p_77 n_77 c_77 w rfl h hp
    have cpp_77 := rowCap h 0 rfl
    refine ⟨_, _, _, rfl, ?_⟩
    refine ⟨(h.sel [4] 4), ?_⟩
    refine pcp_big_ok h hp ?_
    rintro rs_77 p_78 n_78 c_78 w rfl h hp
    have cpp_78 := rowCap h 0 rfl
    refine ⟨_, _, _, rfl, ?_⟩
    refine ⟨(h.sel [5] 5), ?_⟩
    refine pcp_host16_ok h hp ?_
    rintro rs_78 p_79 n_79 c_79 w rfl h hp
    have cpp_79 := rowCap h 0 rfl
    refine ⟨_, _, _, rfl, ?_⟩
    refine newL (o := [Value.slice (some ⟨b_62, 0, none⟩) (Int.toNat 4) (Int.toNat 4), Value.slice p_76 rs_75.length c_76, Value.slice (some ⟨b_61, 0, none⟩) 4 4, Value.slice p_77 rs_76.length c_77, Value.slice p_78 rs_77.length c_78, Value.slice p_79 rs_78.length c_79]) h ?_
    intro b_63 w h
    refine sCatY_ok (FL := cel b_63 22 [Value.slice (some ⟨b_62, 0, none⟩) (Int.toNat 4) (Int.toNat 4), Value.slice p_76 rs_75.length c_76, Value.slice (some ⟨b_61, 0, none⟩) 4 4, Value.slice p_77 rs_76.length c_77, Value.slice p_78 rs_77.length c_78, Value.slice p_79 rs_78.length c_79] :: row enc5 5 1 p_79 c_79 rs_78 :: row enc5 5 1 p_78 c_78 rs_77 :: row enc5 5 1 p_77 c_77 rs_76 :: row enc5 5 1 p_76 c_76 rs_75 :: row enc5 5 1 (some ⟨b_62, 0, none⟩) (Int.toNat 4) (List.replicate (Int.toNat 4) 0) :: cel b_61 5 [Value.int .u8 17, Value.int .u8 0, Value.int .u8 0, Value.int .u8 0] :: cel b_1 41 [Value.int .i64 l_Ver, Value.int .i64 l_Inside, Value.int .i64 l_Port, Value.int .i64 l_Secs, Value.int .u64 l_Nonce, Value.int .i64 l_Result, Value.int .i64 l_Epoch, Value.int .u32 l_Host] :: FL) (fun w h => celRdD (z := 1) h 0 rfl [(List.replicate (Int.toNat 4) 0), rs_75, [17, 0, 0, 0], rs_76, rs_77, rs_78] [[Value.slice (some ⟨b_62, 0, none⟩) (Int.toNat 4) (Int.toNat 4)], [Value.slice p_76 rs_75.length c_76], [Value.slice (some ⟨b_61, 0, none⟩) 4 4], [Value.slice p_77 rs_76.length c_77], [Value.slice p_78 rs_77.length c_78], [Value.slice p_79 rs_78.length c_79]] rfl rfl (Fa2.cons ⟨_, _, _, rfl, (List.length_replicate).symm, (natLe2 g_16a g_16c g_16b), (fun w h => (rowRd h 5 encL5 rfl))⟩ (Fa2.cons ⟨_, _, _, rfl, rfl, cpp_76, (fun w h => (rowRd h 4 encL5 rfl))⟩ (Fa2.cons ⟨_, _, _, rfl, rfl, (Nat.le_refl _), (fun w h => (celRd h 6 encL5 rfl [17, 0, 0, 0] rfl))⟩ (Fa2.cons ⟨_, _, _, rfl, rfl, cpp_77, (fun w h => (rowRd h 3 encL5 rfl))⟩ (Fa2.cons ⟨_, _, _, rfl, rfl, cpp_78, (fun w h => (rowRd h 2 encL5 rfl))⟩ (Fa2.cons ⟨_, _, _, rfl, rfl, cpp_79, (fun w h => (rowRd h 1 encL5 rfl))⟩ Fa2.nil))))))) rfl (Nat.le_refl _) h hp ?_
    rintro rs_79 p_80 n_80 c_80 w rfl h hp
    have cpp_80 := rowCap h 0 rfl
    refine ⟨_, _, _, rfl, ?_⟩
    replace h := h.sel [0] 8
    dsimp only [pickL, pickR, nthH, delH, dropH, List.cons_append, List.nil_append] at h
    exact hR rs_79 p_80 rs_79.length c_80 _ rfl h hp
  replace hp := hp.2
  refine pcp_big_ok h hp ?_
  rintro rs_80 p_81 n_81 c_81 w rfl h hp
  have cpp_81 := rowCap h 0 rfl
  refine ⟨_, _, _, rfl, ?_⟩
  refine ⟨(h.sel [2] 2), ?_⟩
  refine ⟨?_, ?_⟩
  · replace hp := hp.1
    obtain ⟨g_17a, g_17b, g_17d, g_17e, hp⟩ := hp
    refine ⟨g_17a, g_17b, g_17d, g_17e, ?_⟩
    have g_17c : 0 ≤ (4 : Int) := Int.le_trans g_17a g_17b
    refine makeL (x0 := 0) (T := 5) h encL5 rfl (natLe2 g_17a g_17c g_17b) ?_
    intro b_64 w h
    refine ⟨(h.sel [3] 3), ?_⟩
    refine pcp_big_ok h hp ?_
    rintro rs_81 p_82 n_82 c_82 w rfl h hp
    have cpp_82 := rowCap h 0 rfl
    refine ⟨_, _, _, rfl, ?_⟩
    refine ⟨(h.sel [4] 4), ?_⟩
    refine pcp_big_ok h hp ?_
    rintro rs_82 p_83 n_83 c_83 w rfl h hp
    have cpp_83 := rowCap h 0 rfl
    refine ⟨_, _, _, rfl, ?_⟩
    refine ⟨(h.sel [5] 5), ?_⟩
    refine pcp_host16_ok h hp ?_
    rintro rs_83 p_84 n_84 c_84 w rfl h hp
    have cpp_84 := rowCap h 0 rfl
    refine ⟨_, _, _, rfl, ?_⟩
    refine newL (o := [Value.slice (some ⟨b_64, 0, none⟩) (Int.toNat 4) (Int.toNat 4), Value.slice p_81 rs_80.length c_81, Value.slice (some ⟨b_61, 0, none⟩) 4 4, Value.slice p_82 rs_81.length c_82, Value.slice p_83 rs_82.length c_83, Value.slice p_84 rs_83.length c_84]) h ?_
    intro b_65 w h
    refine sCatY_ok (FL := cel b_65 22 [Value.slice (some ⟨b_64, 0, none⟩) (Int.toNat 4) (Int.toNat 4), Value.slice p_81 rs_80.length c_81, Value.slice (some ⟨b_61, 0, none⟩) 4 4, Value.slice p_82 rs_81.length c_82, Value.slice p_83 rs_82.length c_83, Value.slice p_84 rs_83.length c_84] :: row enc5 5 1 p_84 c_84 rs_83 :: row enc5 5 1 p_83 c_83 rs_82 :: row enc5 5 1 p_82 c_82 rs_81 :: row enc5 5 1 (some ⟨b_64, 0, none⟩) (Int.toNat 4) (List.replicate (Int.toNat 4) 0) :: row enc5 5 1 p_81 c_81 rs_80 :: cel b_61 5 [Value.int .u8 17, Value.int .u8 0, Value.int .u8 0, Value.int .u8 0] :: cel b_1 41 [Value.int .i64 l_Ver, Value.int .i64 l_Inside, Value.int .i64 l_Port, Value.int .i64 l_Secs, Value.int .u64 l_Nonce, Value.int .i64 l_Result, Value.int .i64 l_Epoch, Value.int .u32 l_Host] :: FL) (fun w h => celRdD (z := 1) h 0 rfl [(List.replicate (Int.toNat 4) 0), rs_80, [17, 0, 0, 0], rs_81, rs_82, rs_83] [[Value.slice (some ⟨b_64, 0, none⟩) (Int.toNat 4) (Int.toNat 4)], [Value.slice p_81 rs_80.length c_81], [Value.slice (some ⟨b_61, 0, none⟩) 4 4], [Value.slice p_82 rs_81.length c_82], [Value.slice p_83 rs_82.length c_83], [Value.slice p_84 rs_83.length c_84]] rfl rfl (Fa2.cons ⟨_, _, _, rfl, (List.length_replicate).symm, (natLe2 g_17a g_17c g_17b), (fun w h => (rowRd h 4 encL5 rfl))⟩ (Fa2.cons ⟨_, _, _, rfl, rfl, cpp_81, (fun w h => (rowRd h 5 encL5 rfl))⟩ (Fa2.cons ⟨_, _, _, rfl, rfl, (Nat.le_refl _), (fun w h => (celRd h 6 encL5 rfl [17, 0, 0, 0] rfl))⟩ (Fa2.cons ⟨_, _, _, rfl, rfl, cpp_82, (fun w h => (rowRd h 3 encL5 rfl))⟩ (Fa2.cons ⟨_, _, _, rfl, rfl, cpp_83, (fun w h => (rowRd h 2 encL5 rfl))⟩ (Fa2.cons ⟨_, _, _, rfl, rfl, cpp_84, (fun w h => (rowRd h 1 encL5 rfl))⟩ Fa2.nil))))))) rfl (Nat.le_refl _) h hp ?_
    rintro rs_84 p_85 n_85 c_85 w rfl h hp
    have cpp_85 := rowCap h 0 rfl
    refine ⟨_, _, _, rfl, ?_⟩
    replace h := h.sel [0] 8
    dsimp only [pickL, pickR, nthH, delH, dropH, List.cons_append, List.nil_append] at h
    exact hR rs_84 p_85 rs_84.length c_85 _ rfl h hp
  replace hp := hp.2
  refine pcp_big_ok h hp ?_
  rintro rs_85 p_86 n_86 c_86 w rfl h hp
  have cpp_86 := rowCap h 0 rfl
  refine ⟨_, _, _, rfl, ?_⟩
  refine ⟨(h.sel [3] 3), ?_⟩
  refine ⟨?_, ?_⟩
  · replace hp := hp.1
    obtain ⟨g_18a, g_18b, g_18d, g_18e, hp⟩ := hp
    refine ⟨g_18a, g_18b, g_18d, g_18e, ?_⟩
    have g_18c : 0 ≤ (4 : Int) := Int.le_trans g_18a g_18b
    refine makeL (x0 := 0) (T := 5) h encL5 rfl (natLe2 g_18a g_18c g_18b) ?_
    intro b_66 w h
    refine ⟨(h.sel [4] 4), ?_⟩
    refine pcp_big_ok h hp ?_
    rintro rs_86 p_87 n_87 c_87 w rfl h hp
    have cpp_87 := rowCap h 0 rfl
    refine ⟨_, _, _, rfl, ?_⟩
    refine ⟨(h.sel [5] 5), ?_⟩
    refine pcp_host16_ok h hp ?_
    rintro rs_87 p_88 n_88 c_88 w rfl h hp
    have cpp_88 := rowCap h 0 rfl
    refine ⟨_, _, _, rfl, ?_⟩
    refine newL (o := [Value.slice (some ⟨b_66, 0, none⟩) (Int.toNat 4) (Int.toNat 4), Value.slice p_81 rs_80.length c_81, Value.slice (some ⟨b_61, 0, none⟩) 4 4, Value.slice p_86 rs_85.length c_86, Value.slice p_87 rs_86.length c_87, Value.slice p_88 rs_87.length c_88]) h ?_
    intro b_67 w h
    refine sCatY_ok (FL := cel b_67 22 [Value.slice (some ⟨b_66, 0, none⟩) (Int.toNat 4) (Int.toNat 4), Value.slice p_81 rs_80.length c_81, Value.slice (some ⟨b_61, 0, none⟩) 4 4, Value.slice p_86 rs_85.length c_86, Value.slice p_87 rs_86.length c_87, Value.slice p_88 rs_87.length c_88] :: row enc5 5 1 p_88 c_88 rs_87 :: row enc5 5 1 p_87 c_87 rs_86 :: row enc5 5 1 (some ⟨b_66, 0, none⟩) (Int.toNat 4) (List.replicate (Int.toNat 4) 0) :: row enc5 5 1 p_86 c_86 rs_85 :: row enc5 5 1 p_81 c_81 rs_80 :: cel b_61 5 [Value.int .u8 17, Value.int .u8 0, Value.int .u8 0, Value.int .u8 0] :: cel b_1 41 [Value.int .i64 l_Ver, Value.int .i64 l_Inside, Value.int .i64 l_Port, Value.int .i64 l_Secs, Value.int .u64 l_Nonce, Value.int .i64 l_Result, Value.int .i64 l_Epoch, Value.int .u32 l_Host] :: FL) (fun w h => celRdD (z := 1) h 0 rfl [(List.replicate (Int.toNat 4) 0), rs_80, [17, 0, 0, 0], rs_85, rs_86, rs_87] [[Value.slice (some ⟨b_66, 0, none⟩) (Int.toNat 4) (Int.toNat 4)], [Value.slice p_81 rs_80.length c_81], [Value.slice (some ⟨b_61, 0, none⟩) 4 4], [Value.slice p_86 rs_85.length c_86], [Value.slice p_87 rs_86.length c_87], [Value.slice p_88 rs_87.length c_88]] rfl rfl (Fa2.cons ⟨_, _, _, rfl, (List.length_replicate).symm, (natLe2 g_18a g_18c g_18b), (fun w h => (rowRd h 3 encL5 rfl))⟩ (Fa2.cons ⟨_, _, _, rfl, rfl, cpp_81, (fun w h => (rowRd h 5 encL5 rfl))⟩ (Fa2.cons ⟨_, _, _, rfl, rfl, (Nat.le_refl _), (fun w h => (celRd h 6 encL5 rfl [17, 0, 0, 0] rfl))⟩ (Fa2.cons ⟨_, _, _, rfl, rfl, cpp_86, (fun w h => (rowRd h 4 encL5 rfl))⟩ (Fa2.cons ⟨_, _, _, rfl, rfl, cpp_87, (fun w h => (rowRd h 2 encL5 rfl))⟩ (Fa2.cons ⟨_, _, _, rfl, rfl, cpp_88, (fun w h => (rowRd h 1 encL5 rfl))⟩ Fa2.nil))))))) rfl (Nat.le_refl _) h hp ?_
    rintro rs_88 p_89 n_89 c_89 w rfl h hp
    have cpp_89 := rowCap h 0 rfl
    refine ⟨_, _, _, rfl, ?_⟩
    replace h := h.sel [0] 8
    dsimp only [pickL, pickR, nthH, delH, dropH, List.cons_append, List.nil_append] at h
    exact hR rs_88 p_89 rs_88.length c_89 _ rfl h hp
  replace hp := hp.2
  refine pcp_big_ok h hp ?_
  rintro rs_89 p_90 n_90 c_90 w rfl h hp
  have cpp_90 := rowCap h 0 rfl
  refine ⟨_, _, _, rfl, ?_⟩
  refine ⟨(h.sel [4] 4), ?_⟩
  refine ⟨?_, ?_⟩
  · replace hp := hp.1
    obtain ⟨g_19a, g_19b, g_19d, g_19e, hp⟩ := hp
    refine ⟨g_19a, g_19b, g_19d, g_19e, ?_⟩
    have g_19c : 0 ≤ (4 : Int) := Int.le_trans g_19a g_19b
    refine makeL (x0 := 0) (T := 5) h encL5 rfl (natLe2 g_19a g_19c g_19b) ?_
    intro b_68 w h
    refine ⟨(h.sel [5] 5), ?_⟩
    refine pcp_host16_ok h hp ?_
    rintro rs_90 p_91 n_91 c_91 w rfl h hp
    have cpp_91 := rowCap h 0 rfl
    refine ⟨_, _, _, rfl, ?_⟩
    refine newL (o := [Value.slice (some ⟨b_68, 0, none⟩) (Int.toNat 4) (Int.toNat 4), Value.slice p_81 rs_80.length c_81, Value.slice (some ⟨b_61, 0, none⟩) 4 4, Value.slice p_86 rs_85.length c_86, Value.slice p_90 rs_89.length c_90, Value.slice p_91 rs_90.length c_91]) h ?_
    intro b_69 w h
    refine sCatY_ok (FL := cel b_69 22 [Value.slice (some ⟨b_68, 0, none⟩) (Int.toNat 4) (Int.toNat 4), Value.slice p_81 rs_80.length c_81, Value.slice (some ⟨b_61, 0, none⟩) 4 4, Value.slice p_86 rs_85.length c_86, Value.slice p_90 rs_89.length c_90, Value.slice p_91 rs_90.length c_91] :: row enc5 5 1 p_91 c_91 rs_90 :: row enc5 5 1 (some ⟨b_68, 0, none⟩) (Int.toNat 4) (List.replicate (Int.toNat 4) 0) :: row enc5 5 1 p_90 c_90 rs_89 :: row enc5 5 1 p_86 c_86 rs_85 :: row enc5 5 1 p_81 c_81 rs_80 :: cel b_61 5 [Value.int .u8 17, Value.int .u8 0, Value.int .u8 0, Value.int .u8 0] :: cel b_1 41 [Value.int .i64 l_Ver, Value.int .i64 l_Inside, Value.int .i64 l_Port, Value.int .i64 l_Secs, Value.int .u64 l_Nonce, Value.int .i64 l_Result, Value.int .i64 l_Epoch, Value.int .u32 l_Host] :: FL) (fun w h => celRdD (z := 1) h 0 rfl [(List.replicate (Int.toNat 4) 0), rs_80, [17, 0, 0, 0], rs_85, rs_89, rs_90] [[Value.slice (some ⟨b_68, 0, none⟩) (Int.toNat 4) (Int.toNat 4)], [Value.slice p_81 rs_80.length c_81], [Value.slice (some ⟨b_61, 0, none⟩) 4 4], [Value.slice p_86 rs_85.length c_86], [Value.slice p_90 rs_89.length c_90], [Value.slice p_91 rs_90.length c_91]] rfl rfl (Fa2.cons ⟨_, _, _, rfl, (List.length_replicate).symm, (natLe2 g_19a g_19c g_19b), (fun w h => (rowRd h 2 encL5 rfl))⟩ (Fa2.cons ⟨_, _, _, rfl, rfl, cpp_81, (fun w h => (rowRd h 5 encL5 rfl))⟩ (Fa2.cons ⟨_, _, _, rfl, rfl, (Nat.le_refl _), (fun w h => (celRd h 6 encL5 rfl [17, 0, 0, 0] rfl))⟩ (Fa2.cons ⟨_, _, _, rfl, rfl, cpp_86, (fun w h => (rowRd h 4 encL5 rfl))⟩ (Fa2.cons ⟨_, _, _, rfl, rfl, cpp_90, (fun w h => (rowRd h 3 encL5 rfl))⟩ (Fa2.cons ⟨_, _, _, rfl, rfl, cpp_91, (fun w h => (rowRd h 1 encL5 rfl))⟩ Fa2.nil))))))) rfl (Nat.le_refl _) h hp ?_
    rintro rs_91 p_92 n_92 c_92 w rfl h hp
    have cpp_92 := rowCap h 0 rfl
    refine ⟨_, _, _, rfl, ?_⟩
    replace h := h.sel [0] 8
    dsimp only [pickL, pickR, nthH, delH, dropH, List.cons_append, List.nil_append] at h
    exact hR rs_91 p_92 rs_91.length c_92 _ rfl h hp
  replace hp := hp.2
  refine pcp_host16_ok h hp ?_
  rintro rs_92 p_93 n_93 c_93 w rfl h hp
  have cpp_93 := rowCap h 0 rfl
  refine ⟨_, _, _, rfl, ?_⟩
  obtain ⟨g_20a, g_20b, g_20d, g_20e, hp⟩ := hp
  refine ⟨g_20a, g_20b, g_20d, g_20e, ?_⟩
  have g_20c : 0 ≤ (4 : Int) := Int.le_trans g_20a g_20b
  refine makeL (x0 := 0) (T := 5) h encL5 rfl (natLe2 g_20a g_20c g_20b) ?_
  intro b_70 w h
  refine ⟨(h.sel [6] 6), ?_⟩
  refine newL (o := [Value.slice (some ⟨b_70, 0, none⟩) (Int.toNat 4) (Int.toNat 4), Value.slice p_81 rs_80.length c_81, Value.slice (some ⟨b_61, 0, none⟩) 4 4, Value.slice p_86 rs_85.length c_86, Value.slice p_90 rs_89.length c_90, Value.slice p_93 rs_92.length c_93]) h ?_
  intro b_71 w h
  refine sCatY_ok (FL := cel b_71 22 [Value.slice (some ⟨b_70, 0, none⟩) (Int.toNat 4) (Int.toNat 4), Value.slice p_81 rs_80.length c_81, Value.slice (some ⟨b_61, 0, none⟩) 4 4, Value.slice p_86 rs_85.length c_86, Value.slice p_90 rs_89.length c_90, Value.slice p_93 rs_92.length c_93] :: row enc5 5 1 (some ⟨b_70, 0, none⟩) (Int.toNat 4) (List.replicate (Int.toNat 4) 0) :: row enc5 5 1 p_93 c_93 rs_92 :: row enc5 5 1 p_90 c_90 rs_89 :: row enc5 5 1 p_86 c_86 rs_85 :: row enc5 5 1 p_81 c_81 rs_80 :: cel b_61 5 [Value.int .u8 17, Value.int .u8 0, Value.int .u8 0, Value.int .u8 0] :: cel b_1 41 [Value.int .i64 l_Ver, Value.int .i64 l_Inside, Value.int .i64 l_Port, Value.int .i64 l_Secs, Value.int .u64 l_Nonce, Value.int .i64 l_Result, Value.int .i64 l_Epoch, Value.int .u32 l_Host] :: FL) (fun w h => celRdD (z := 1) h 0 rfl [(List.replicate (Int.toNat 4) 0), rs_80, [17, 0, 0, 0], rs_85, rs_89, rs_92] [[Value.slice (some ⟨b_70, 0, none⟩) (Int.toNat 4) (Int.toNat 4)], [Value.slice p_81 rs_80.length c_81], [Value.slice (some ⟨b_61, 0, none⟩) 4 4], [Value.slice p_86 rs_85.length c_86], [Value.slice p_90 rs_89.length c_90], [Value.slice p_93 rs_92.length c_93]] rfl rfl (Fa2.cons ⟨_, _, _, rfl, (List.length_replicate).symm, (natLe2 g_20a g_20c g_20b), (fun w h => (rowRd h 1 encL5 rfl))⟩ (Fa2.cons ⟨_, _, _, rfl, rfl, cpp_81, (fun w h => (rowRd h 5 encL5 rfl))⟩ (Fa2.cons ⟨_, _, _, rfl, rfl, (Nat.le_refl _), (fun w h => (celRd h 6 encL5 rfl [17, 0, 0, 0] rfl))⟩ (Fa2.cons ⟨_, _, _, rfl, rfl, cpp_86, (fun w h => (rowRd h 4 encL5 rfl))⟩ (Fa2.cons ⟨_, _, _, rfl, rfl, cpp_90, (fun w h => (rowRd h 3 encL5 rfl))⟩ (Fa2.cons ⟨_, _, _, rfl, rfl, cpp_93, (fun w h => (rowRd h 2 encL5 rfl))⟩ Fa2.nil))))))) rfl (Nat.le_refl _) h hp ?_
  rintro rs_93 p_94 n_94 c_94 w rfl h hp
  have cpp_94 := rowCap h 0 rfl
  refine ⟨_, _, _, rfl, ?_⟩
  replace h := h.sel [0] 8
  dsimp only [pickL, pickR, nthH, delH, dropH, List.cons_append, List.nil_append] at h
  exact hR rs_93 p_94 rs_93.length c_94 _ rfl h hp
def pcp_row_wp (l_Ver l_Inside l_Port l_Secs l_Nonce l_Result l_Epoch l_Host : Int) (parts : List ((List (Int)))) (K : List (Int) → Prop) : Prop :=
  sCatY_wp parts (fun (rs : List (Int)) => pcp_mapping_wp l_Ver l_Inside l_Port l_Secs l_Nonce l_Result l_Epoch l_Host (fun (rs_1 : List (Int)) => (rs.length + rs_1.length) * 1 ≤ 140737488355328 ∧ (K (rs ++ rs_1))))
theorem pcp_row_ok {p_1 : Option Addr} {n_1 c_1 : Nat} {l_Ver l_Inside l_Port l_Secs l_Nonce l_Result l_Epoch l_Host : Int} {parts : List ((List (Int)))} {FL : List HP} {w : World} {K : List (Int) → Prop} {R : Value → World → Prop}
  (hF_parts : ∀ w, Mem FL w → RdD w 1 p_1 (encR22 FL) parts) (hl_parts : n_1 = parts.length) (hc_parts : n_1 ≤ c_1)
  (h : Mem (FL) w) (hp : pcp_row_wp l_Ver l_Inside l_Port l_Secs l_Nonce l_Result l_Epoch l_Host parts K)
  (hR : ∀ (rs : List (Int)) (p_2 : Option Addr) (n_2 c_2 : Nat) (w : World), n_2 = rs.length → Mem (row enc5 5 1 p_2 c_2 rs :: FL) w → K rs → R (Value.slice p_2 n_2 c_2) w) :
  CallV Try.prog 42 #[(Value.agg #[Value.int .i64 l_Ver, Value.int .i64 l_Inside, Value.int .i64 l_Port, Value.int .i64 l_Secs, Value.int .u64 l_Nonce, Value.int .i64 l_Result, Value.int .i64 l_Epoch, Value.int .u32 l_Host]), Value.slice p_1 n_1 c_1] w R := by
  refine pcp_row_call ?_
  unfold pcp_row
  unfold pcp_row_wp at hp
  subst hl_parts
  refine newL (o := [Value.int .i64 l_Ver, Value.int .i64 l_Inside, Value.int .i64 l_Port, Value.int .i64 l_Secs, Value.int .u64 l_Nonce, Value.int .i64 l_Result, Value.int .i64 l_Epoch, Value.int .u32 l_Host]) h ?_
  intro b_1 w h
  replace h := h.drew
  refine ⟨fun w => Mem (cel b_1 41 [Value.int .i64 l_Ver, Value.int .i64 l_Inside, Value.int .i64 l_Port, Value.int .i64 l_Secs, Value.int .u64 l_Nonce, Value.int .i64 l_Result, Value.int .i64 l_Epoch, Value.int .u32 l_Host] :: FL) w, (h.sel [0] 0), ?_⟩
  refine ⟨_, cellL h 0 0 rfl rfl rfl, _, cellL h 0 1 rfl rfl rfl, _, cellL h 0 2 rfl rfl rfl, _, cellL h 0 3 rfl rfl rfl, _, cellL h 0 4 rfl rfl rfl, _, cellL h 0 5 rfl rfl rfl, _, cellL h 0 6 rfl rfl rfl, _, cellL h 0 7 rfl rfl rfl, ?_⟩
  refine ⟨?_, ?_⟩
  · intro w h
    change Mem _ _ at h
    refine ⟨_, cellL h 0 0 rfl rfl rfl, _, cellL h 0 1 rfl rfl rfl, _, cellL h 0 2 rfl rfl rfl, _, cellL h 0 3 rfl rfl rfl, _, cellL h 0 4 rfl rfl rfl, _, cellL h 0 5 rfl rfl rfl, _, cellL h 0 6 rfl rfl rfl, _, cellL h 0 7 rfl rfl rfl, ?_⟩
    exact ⟨rfl, rfl⟩
  refine sCatY_ok (FL := cel b_1 41 [Value.int .i64 l_Ver, Value.int .i64 l_Inside, Value.int .i64 l_Port, Value.int .i64 l_Secs, Value.int .u64 l_Nonce, Value.int .i64 l_Result, Value.int .i64 l_Epoch, Value.int .u32 l_Host] :: FL) (fun w h => RdD.mono (encRm22 (fun w h => h.drop 1)) (hF_parts _ (h.drop 1))) rfl hc_parts h hp ?_
  rintro rs p_2 n_2 c_2 w rfl h hp
  have cpp_2 := rowCap h 0 rfl
  refine ⟨_, _, _, rfl, ?_⟩
  refine ⟨(h.sel [1] 1), ?_⟩
  refine pcp_mapping_ok h hp ?_
  rintro rs_1 p_3 n_3 c_3 w rfl h hp
  have cpp_3 := rowCap h 0 rfl
  refine ⟨_, _, _, rfl, ?_⟩
  have sr := (rowRd h 0 encL5 rfl)
  obtain ⟨hb, hp⟩ := hp
  refine appendL slt22 und22 encL5 encO5 h 1 rfl rfl sr rfl hb ?_
  intro p_4 c_4 w h
  dsimp only [setH, setVs, setV] at h
  have cpp_4 := rowCap h 1 rfl
  refine ⟨_, _, _, rfl, ?_⟩
  replace h := h.sel [1] 2
  dsimp only [pickL, pickR, nthH, delH, dropH, List.cons_append, List.nil_append] at h
  exact hR (rs ++ rs_1) p_4 ((rs ++ rs_1).length) c_4 _ rfl h hp
end Go.Proofs.Ytnmdnkmemjfoeaa
